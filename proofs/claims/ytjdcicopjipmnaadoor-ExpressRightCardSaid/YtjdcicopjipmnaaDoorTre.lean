/- Builder.Tree. -/
import Derived.Outline
import Derived.Test.YtjdcicopjipmnaaDoorTrp
namespace Go.Proofs.YtjdcicopjipmnaaDoor
open Go.RowKit Go.Shelf
set_option linter.unusedVariables false
set_option linter.unusedSimpArgs false
attribute [local go_sem] Oper.semAt_some
def mark (D : Nat) : Deferred := { target := .collected D, args := #[] }
/-- at a return behind one mark -/
theorem leaves_mark {F : Fence} {n : Nat} {P : Program} {fn : Func} {tmps : Array Value} {R : Ending → World → Prop} {v : Value} {D : Nat} {W : World} (hD : W.heap[D]? = some (.deferred (some [])))
    (hR : ∀ W', (W'.heap.size = W.heap.size ∧ (∀ i, i ≠ D → W'.heap[i]? = W.heap[i]?) ∧ W'.os = W.os ∧ W'.tape = W.tape ∧ W'.output = W.output) → (results fn tmps).run P W' = .ok v W' ∧ R (.returned v) W') :
    LeavesInM F n P fn tmps R [mark D] .returning W := by
  have hput : ∀ i, i ≠ D → (W.putObj D (.deferred none)).heap[i]? = W.heap[i]? := fun i hi => World.putObj_heap_other (fun e => hi (by first | exact e | exact e.symm))
  refine ⟨by simp, .inl ⟨D, _, rfl, run_takeDeferred hD, ?_⟩⟩
  obtain ⟨h1, h2⟩ := hR (W.putObj D (.deferred none)) ⟨by simp [World.putObj], hput, rfl, rfl, rfl⟩
  exact ⟨v, h1, h2⟩
/-- how Tree stands at node j: numbers in block nb, nodes so far in v -/
structure TrS (w : World) (ns : List NodeD) (seen : List Int) (bx e0 nb D : Nat) (wr : World) (j : Nat) (v : Value) : Prop where
  bel : Below w.heap.size w wr
  num : Own wr 3 1 (.slice (some ⟨nb, 0, none⟩) ns.length ns.length) ns.length (ics (treeN ns seen j).1)
  out : RowN (· = nb) wr v (treeN ns seen j).2
  outB : ∀ g, v.ownBlock = some g → w.heap.size ≤ g
  box : Blk wr bx 100 #[.map (some e0)]
  set_ : SeenAt wr e0 seen
  def_ : wr.heap[D]? = some (.deferred (some []))
  nB : w.heap.size ≤ nb
  dB : w.heap.size ≤ D
theorem TrS.move {w : World} {ns : List NodeD} {seen : List Int} {bx e0 nb D j j' : Nat} {wr wr' : World} {v : Value} (h : TrS w ns seen bx e0 nb D wr j v) (hb : Below wr.heap.size wr wr') (e : treeN ns seen j' = treeN ns seen j) : TrS w ns seen bx e0 nb D wr' j' v := by
  refine ⟨h.bel.trans (hb.mono h.bel.size), by rw [e]; exact h.num.new hb, ?_, h.outB, h.box.bel hb, h.set_.keep (hb.block _ h.set_.lt), (hb.block D (Array.getElem?_eq_some_iff.1 h.def_).1).trans h.def_, h.nB, h.dB⟩
  rw [e]
  obtain ⟨Z, e1, z1, z2⟩ := h.out
  exact ⟨Z, e1, z1.new hb, fun z hz => ⟨(z2 z hz).1.bel hb, (z2 z hz).2⟩⟩
theorem TrS.fin {w : World} {ns : List NodeD} {seen : List Int} {bx e0 nb D j : Nat} {wr wr' : World} {v : Value} (h : TrS w ns seen bx e0 nb D wr j v) (hk : wr'.heap.size = wr.heap.size ∧ (∀ i, i ≠ D → wr'.heap[i]? = wr.heap[i]?) ∧ wr'.os = wr.os ∧ wr'.tape = wr.tape ∧ wr'.output = wr.output) :
    RowN (fun _ => False) wr' v (treeN ns seen j).2 ∧ Below w.heap.size w wr' ∧ ∀ g, v.ownBlock = some g → w.heap.size ≤ g := by
  obtain ⟨h1, h2, h3, h4, h5⟩ := hk
  have hd := h.def_
  refine ⟨?_, ⟨h3.trans h.bel.os, h4.trans h.bel.tape, h5.trans h.bel.output, by rw [h1]; exact h.bel.size, fun k hk => (h2 k (by have := h.dB; omega)).trans (h.bel.block k hk)⟩, h.outB⟩
  obtain ⟨Z, e1, z1, z2⟩ := h.out
  have own_ne : ∀ {t : TypeId} {sz n : Nat} {v : Value} {cs : List Value}, Own wr t sz v n cs → ∀ b, v.ownBlock = some b → b ≠ D := by
    intro t sz n v cs ho b hb e
    rcases ho.2 with ⟨rfl, _⟩ | ⟨g, _, cur, rfl, hh, _⟩
    · cases hb
    · obtain rfl : g = b := by simpa [Value.ownBlock] using hb
      rw [e, hd] at hh
      cases hh
  refine ⟨Z, e1, Own.keep z1 fun b hb => h2 b (own_ne z1 b hb), fun z hz => ⟨?_, fun _ _ => id, (z2 z hz).2.2⟩⟩
  have h9 := (z2 z hz).1
  unfold OwnI at h9 ⊢
  exact Own.keep h9 fun b hb => h2 b (own_ne h9 b hb)
theorem TrS.next {w : World} {ns : List NodeD} {seen : List Int} {bx e0 nb D j : Nat} {wr wi W' w6 : World} {v v6 : Value} {Z : List NdS} {z : NdS} (h : TrS w ns seen bx e0 nb D wr j v) (eZ : Z.map (·.x) = (treeN ns seen j).2) (z1 : Own wr 51 5 v Z.length (Z.flatMap NdS.cs)) (z2 : ∀ z ∈ Z, OwnI wr z.v z.x.kids ∧ (∀ b, z.v.ownBlock = some b → ¬ b = nb) ∧ z.x.kids.length ≤ 4398046511103) (hzl : z.x.kids.length ≤ 4398046511103)
    (hm : Mod (fun g => g = nb ∨ wr.heap.size ≤ g) wr wi) (hnum : Own wi 3 1 (.slice (some ⟨nb, 0, none⟩) ns.length ns.length) ns.length (ics (treeN ns seen (j + 1)).1)) (hz : OwnI wi z.v z.x.kids) (hzn : ∀ g, z.v.ownBlock = some g → wr.heap.size ≤ g)
    (e : (treeN ns seen (j + 1)).2 = (treeN ns seen j).2 ++ [z.x]) (hb : Below wi.heap.size wi W') (h6 : Own w6 51 5 v6 (Z ++ [z]).length ((Z ++ [z]).flatMap NdS.cs)) (hg : W'.grownBy w6 v.ownBlock) (hn : v6.ownBlock = v.ownBlock ∨ v6.ownBlock = some W'.heap.size) :
    TrS w ns seen bx e0 nb D w6 (j + 1) v6 := by
  have hs0 := h.bel.size
  have hs1 := hm.size
  have hs2 := hb.size
  have hs3 := hg.size
  have hnl : nb < wr.heap.size := h.num.lt rfl
  have vlt : ∀ g, v.ownBlock = some g → g < wr.heap.size := fun g e => z1.lt e
  have vne : v.ownBlock ≠ some nb := own_own_ne h.num z1 (by decide) rfl
  -- a block of wr that is neither nb nor the row's lies in w6 as it lay
  have kp : ∀ k, k < wr.heap.size → k ≠ nb → v.ownBlock ≠ some k → w6.heap[k]? = wr.heap[k]? := fun k hk h1 h2 =>
    (hg.block k (by omega) (fun e => h2 e.symm)).trans ((hb.block k (by omega)).trans (hm.block k hk (by rintro (e | e); exact h1 e; omega)))
  have kpi : ∀ k, k < wi.heap.size → v.ownBlock ≠ some k → w6.heap[k]? = wi.heap[k]? := fun k hk h2 => (hg.block k (by omega) (fun e => h2 e.symm)).trans (hb.block k hk)
  have z1i : Own wi 51 5 v Z.length (Z.flatMap NdS.cs) := z1.mod hm fun b hb h9 => by
    rcases h9 with e | e
    · exact vne (e ▸ hb)
    · have := vlt b hb; omega
  have bel6 : Below w.heap.size w w6 := by
    refine ⟨hg.os.trans (hb.os.trans (hm.os.trans h.bel.os)), hg.tape.trans (hb.tape.trans (hm.tape.trans h.bel.tape)), hg.output.trans (hb.output.trans (hm.output.trans h.bel.output)), by omega, fun k hk => (kp k (by omega) (fun e => by have := h.nB; omega) fun e => ?_).trans (h.bel.block k hk)⟩
    have := h.outB k e
    omega
  refine ⟨bel6, Own.keep hnum fun b hb9 => kpi b (hnum.lt hb9) fun e9 => ?_, ⟨Z ++ [z], by rw [List.map_append, eZ, e]; rfl, h6, fun y hy => ?_⟩, fun g hg6 => ?_, ?_, h.set_.keep (kp _ h.set_.lt ?_ ?_), (kp D (Array.getElem?_eq_some_iff.1 h.def_).1 ?_ ?_).trans h.def_, h.nB, h.dB⟩
  · exact own_own_ne hnum z1i (by decide) hb9 e9
  · rcases List.mem_append.1 hy with hy | hy
    · obtain ⟨h1, h2⟩ := z2 y hy
      refine ⟨?_, h2⟩
      unfold OwnI at h1 ⊢
      exact Own.keep h1 fun b hb9 => kp b (h1.lt hb9) (h2.1 b hb9) (own_own_ne h1 z1 (by decide) hb9)
    · rw [List.mem_singleton.1 hy]
      refine ⟨?_, fun b hb9 e9 => by have := hzn b hb9; omega, hzl⟩
      unfold OwnI at hz ⊢
      exact Own.keep hz fun b hb9 => kpi b (hz.lt hb9) (own_own_ne hz z1i (by decide) hb9)
  · rcases hn with e9 | e9
    · exact h.outB g (e9 ▸ hg6)
    · rw [e9] at hg6
      injection hg6 with hg6
      omega
  · refine (kp bx h.box.lt ?_ ?_).trans h.box
    · rintro rfl
      exact own_blk_ne h.num h.box (by decide) rfl
    · exact own_blk_ne z1 h.box (by decide)
  · rintro rfl
    obtain ⟨es, c, e9⟩ := h.set_.isMap
    rcases h.num.2 with ⟨e8, _⟩ | ⟨g, _, cur, e8, hh, _⟩
    · cases e8
    · injection e8 with e8
      injection e8 with e8
      injection e8 with e8
      subst e8
      rw [hh] at e9
      cases e9
  · intro e7
    obtain ⟨es, c, e9⟩ := h.set_.isMap
    rcases z1.2 with ⟨rfl, _⟩ | ⟨g, _, cur, rfl, hh, _⟩
    · cases e7
    · obtain rfl : g = e0 := by simpa [Value.ownBlock] using e7
      rw [hh] at e9
      cases e9
  · rintro rfl
    have e9 := h.def_
    rcases h.num.2 with ⟨e8, _⟩ | ⟨g, _, cur, e8, hh, _⟩
    · cases e8
    · injection e8 with e8
      injection e8 with e8
      injection e8 with e8
      subst e8
      rw [hh] at e9
      cases e9
  · intro e7
    have e9 := h.def_
    rcases z1.2 with ⟨rfl, _⟩ | ⟨g, _, cur, rfl, hh, _⟩
    · cases e7
    · obtain rfl : g = D := by simpa [Value.ownBlock] using e7
      rw [hh] at e9
      cases e9
theorem map_set {f : Int → Int} {kids : List Int} {q : Nat} {y : Int} (h : kids[q]? = some y) : ((kids.take q).map f ++ kids.drop q)[q]? = some y ∧ ((kids.take q).map f ++ kids.drop q).set q (f y) = (kids.take (q + 1)).map f ++ kids.drop (q + 1) := by
  have hq := (List.getElem?_eq_some_iff.1 h).1
  have hl : ((kids.take q).map f).length = q := by rw [List.length_map, List.length_take]; omega
  have hd : kids.drop q = y :: kids.drop (q + 1) := by
    rw [List.drop_eq_getElem_cons hq]
    congr 1
    exact Option.some.inj ((List.getElem?_eq_getElem hq).symm.trans h)
  refine ⟨?_, ?_⟩
  · rw [List.getElem?_append_right (by omega), hl, Nat.sub_self, hd]
    rfl
  · rw [List.set_append_right _ _ (by omega), hl, Nat.sub_self, hd, List.take_add_one, h]
    simp
set_option maxRecDepth 100000 in
set_option maxHeartbeats 4000000 in
theorem tree_some {w : World} {A : Option Addr} {n c bb : Nat} {ns : List NodeD} (hb : Blk w bb 71 #[.slice A n c]) (hT : RdT w A n c ns) (hK : KidsOk ns) (hks : ∀ (i : Nat) x, ns[i]? = some x → x.kids.length ≤ 4398046511103) (hbig : ns.length ≤ 1099511627775) (hn : ns ≠ []) :
    Calls Tryd.prog 35 #[.pointer (some ⟨bb, 0, none⟩)] w fun e w' => ∃ v, e = .returned v ∧ RowN (fun _ => False) w' v (treeOf ns) ∧ Below w.heap.size w w' ∧ ∀ g, v.ownBlock = some g → w.heap.size ≤ g := by
  have hnl := hT.len
  have hn0 : ns.length ≠ 0 := fun h => hn (List.length_eq_zero_iff.1 h)
  have hpos : 1 ≤ n := by omega
  have hnz : ((n : Int) == 0) = false := by
    have : n ≠ 0 := by omega
    simpa using this
  have cb : w.cell? ⟨bb, 0, none⟩ = some (.slice A n c) := hb.cell 0
  have hlt := hb.lt
  have hmk := run_makeMap (P := Tryd.prog) 100 w
  have hw : IntKind.i64.wrap ((n : Int) - 1) = ((n - 1 : Nat) : Int) := by rw [IntWalk.i64_in _ (by omega)]; omega
  have HT := Lib.hid hT
  have HKS := Lib.hid hks
  have HKO := Lib.hid hK
  have HB := Lib.hid hb
  have HKP : Hid (∀ W', Below w.heap.size w W' → W'.cell? ⟨bb, 0, none⟩ = some (.slice A n c)) := Lib.hid fun W' h => (h.cell (p := ⟨bb, 0, none⟩) hlt).trans cb
  clear hT hb
  refine (callsIn_wide (n := 9)).1 ?_
  refine callsIn_of_wp_marks Tryd.func35 rfl trivial ?_ rfl
  simp only [Tryd.ntmps35, List.size_toArray, List.length_cons, List.length_nil, Nat.reduceAdd, Nat.reduceSub, Array.replicate_succ, Array.replicate_zero, List.push_toArray, List.append_toArray, List.nil_append, List.cons_append]
  refine wpIn_wide.2 ?_
  go_wp2_with fail
  go_region_held3 (fun w' => w'.cell? ⟨bb, 0, none⟩ = some (.slice A n c)) (first | exact HKP.out _ (by repeat (first | exact Below.refl _ _ | assumption | refine Below.setCell ?_ (by first | (simp; done) | (simp; omega) | omega) _ | refine below_drewN ?_ _ | refine Below.drew ?_ | refine Below.alloc ?_ (by first | (simp; done) | (simp; omega) | omega) _)) | go_keep) (first | (go_at_call 56; refine (all_any A n c (n - 1) _).mono ?_; rintro e w2 ⟨rfl, rfl⟩))
  generalize hW2 : World.drew _ = W2
  have hbel : Below w.heap.size w W2 := by rw [← hW2]; exact (by repeat (first | exact Below.refl _ _ | assumption | refine Below.setCell ?_ (by first | (simp; done) | (simp; omega) | omega) _ | refine below_drewN ?_ _ | refine Below.drew ?_ | refine Below.alloc ?_ (by first | (simp; done) | (simp; omega) | omega) _))
  have hz2 : W2.heap.size = w.heap.size + 4 := by rw [← hW2]; simp [World.drew]
  have hbx : Blk W2 (w.heap.size + 1) 100 #[.map (some w.heap.size)] := by
    have h1 := Blk.new (w.alloc (.map #[] 0)) 100 #[.map (some w.heap.size)]
    rw [World.size_alloc] at h1
    rw [← hW2]
    exact (h1.alloc (.cells #[.slice A n c] 25)).alloc (.cells #[.int .i64 ((n - 1 : Nat) : Int)] 3)
  have hp2 : Blk W2 (w.heap.size + 1 + 1) 25 #[.slice A n c] := by
    have h1 := Blk.new ((w.alloc (.map #[] 0)).alloc (.cells #[.map (some w.heap.size)] 100)) 25 #[.slice A n c]
    rw [World.size_alloc, World.size_alloc] at h1
    rw [← hW2]
    exact h1.alloc (.cells #[.int .i64 ((n - 1 : Nat) : Int)] 3)
  have hp3 : Blk W2 (w.heap.size + 1 + 1 + 1) 3 #[.int .i64 ((n - 1 : Nat) : Int)] := by
    have h1 := Blk.new (((w.alloc (.map #[] 0)).alloc (.cells #[.map (some w.heap.size)] 100)).alloc (.cells #[.slice A n c] 25)) 3 #[.int .i64 ((n - 1 : Nat) : Int)]
    rw [World.size_alloc, World.size_alloc, World.size_alloc] at h1
    rw [← hW2]
    exact h1
  have hset : SeenAt W2 w.heap.size [] := by
    have h1 := BSet.made w
    have h2 : SeenAt (w.alloc (.map #[] 0)) w.heap.size [] := by simpa [SeenAt] using h1
    rw [← hW2]
    have hb9 : Below (w.heap.size + 1) (w.alloc (.map #[] 0)) ((((w.alloc (.map #[] 0)).alloc (.cells #[.map (some w.heap.size)] 100)).alloc (.cells #[.slice A n c] 25)).alloc (.cells #[.int .i64 ((n - 1 : Nat) : Int)] 3)).drew := (by repeat (first | exact Below.refl _ _ | assumption | refine Below.setCell ?_ (by first | (simp; done) | (simp; omega) | omega) _ | refine below_drewN ?_ _ | refine Below.drew ?_ | refine Below.alloc ?_ (by first | (simp; done) | (simp; omega) | omega) _))
    exact h2.keep (hb9.block _ (by omega))
  clear hW2 hmk
  dsimp only [Exit.then]
  go_at_K
  go_wp2_with fail
  refine (wpIn_wide (n := 9)).1 ?_
  refine wpIn_rangeFunc_ownG rfl (by omega) (gf := 82) (lb := #[.pointer (some ⟨w.heap.size + 1 + 1, 0, none⟩), .pointer (some ⟨w.heap.size + 1 + 1 + 1, 0, none⟩)]) rfl trivial (enters_of Tryd.func82 (by kernel_rfl) rfl)
    (all_stops (e0 := w.heap.size) 8 (by omega) hks (by omega) hp2 hp3 (HT.out.stay (StayC.bel hbel)) hset.isMap) (fun h k => h.trans k) (fun W l o o' _ h1 h2 h3 => KeepsCW.put W l o o' h1 h2 h3) (Below.refl _ _) (fun _ => rfl)
    (fun pre W' => Below w.heap.size w W' ∧ Blk W' (w.heap.size + 1) 100 #[.map (some w.heap.size)] ∧ SeenAt W' w.heap.size (pre.map (·.1)))
    (fun _ _ _ => False)
    ?hI ?hIx ⟨hbel, hbx, hset⟩
    (fun x => { tmps := #[.pointer (some ⟨bb, 0, none⟩), undef, .slice none 0 0, .pointer (some ⟨w.heap.size + 1, 0, none⟩), .int .i64 x.1, undef, undef, undef, undef, undef, undef, .pointer (some ⟨bb, 0, none⟩), .bool false, .bool false, .pointer (some ⟨bb, 0, none⟩), .pointer (some ⟨bb, 0, none⟩), .pointer (some ⟨bb, 0, none⟩), .slice A n c, .int .i64 n, .bool false, .bool false, .map (some w.heap.size), .pointer (some ⟨bb, 0, none⟩), .pointer (some ⟨bb, 0, none⟩), .pointer (some ⟨bb, 0, none⟩), .slice A n c, .pointer (some ⟨bb, 0, none⟩), .pointer (some ⟨bb, 0, none⟩), .pointer (some ⟨bb, 0, none⟩), .slice A n c, .int .i64 n, .int .i64 ((n - 1 : Nat) : Int), .func (.func 82) #[] #[.pointer (some ⟨w.heap.size + 1 + 1, 0, none⟩), .pointer (some ⟨w.heap.size + 1 + 1 + 1, 0, none⟩)], .int .i64 x.1, undef, undef, undef, undef, undef, undef, undef, undef, undef, undef, undef, undef, undef, undef, undef, undef, undef, undef, undef, undef, undef, undef, undef, undef, undef, undef, undef, undef, undef, undef, undef, undef, undef, undef, undef, undef, undef, undef, undef, undef, undef, undef, undef, undef, undef, undef, undef, undef, undef, undef, undef, undef, undef, undef], defers := [] }) ?assign ?body ?done ?stop
  case hI =>
    rintro s A' B' row ⟨h1, h2, h3⟩ hg hr
    refine ⟨h1.grown hg h1.size fun k e => by have := (hr k e).1; omega, (hg.block _ h2.lt fun e => by have := (hr _ e.symm).1; omega).trans h2, h3.keep (hg.block _ h3.lt fun e => by have := (hr _ e.symm).1; omega)⟩
  case hIx => exact fun _ _ _ _ _ h => h.elim
  case assign =>
    intro l x W' K hK
    gi_wp2
    exact hK
  case body =>
    rintro l pre x W' ⟨h1, h2, h3⟩ hlt
    obtain ⟨W4, hrun, hS4, hm4⟩ := h3.add (wf_of (x := x.1) (by have := x.2; omega)) (by rw [List.length_map]; unfold maxLen; omega)
    have cx : W'.cell? ⟨w.heap.size + 1, 0, none⟩ = some (.map (some w.heap.size)) := h2.cell 0
    have hxl := h2.lt
    have HP := Lib.hid (And.intro h1 (And.intro h2 (And.intro hS4 (And.intro hm4 h3.isMap))))
    clear h1 h2 h3 hS4 hm4
    gi_wp2
    obtain ⟨h1, h2, h3, h4, h5⟩ := HP.out
    refine ⟨KeepsFrom.of_grownBy (row := some w.heap.size) ⟨h4.os, h4.tape, h4.output, h4.size, fun k hk hne => h4.block k hk fun e => hne (by rw [e])⟩ (fun j e => by injection e with e; omega), ⟨h4.size, fun k o hk hne _ => (h4.block k (Array.getElem?_eq_some_iff.1 hk).1 hne).trans hk, fun _ => h3.isMap⟩, h1.trans (h4.below h1.size fun i hi e => by omega), h2.mod h4 (by omega), ?_⟩
    rw [List.map_append]
    exact h3
  case stop => exact fun _ _ _ _ _ _ h => h.elim
  case done =>
    rintro D xs W' hD hS ⟨h1, h2, h3⟩ hdef
    have hi1 : n - 1 + 1 = ns.length := by omega
    rw [hS, hi1] at h3
    have htr : treeOf ns = (treeN ns (ovE ns ns.length (n - 1) []) ns.length).2 := by unfold treeOf; rw [if_neg hn, hnl]
    have HTR := Lib.hid htr
    clear htr
    generalize ovE ns ns.length (n - 1) [] = seen at *
    have hzz : w.heap.size ≤ W2.heap.size := hbel.size
    clear hp2 hp3 hset hbx hbel hz2 hS
    have hmn := make_I n (by omega) W'
    have cb' := HKP.out W' h1
    have hbl' : bb < W'.heap.size := Nat.lt_of_lt_of_le hlt h1.size
    have hxl := h2.lt
    have hDl := (Array.getElem?_eq_some_iff.1 hdef).1
    have hs1 := h1.size
    have hbn : Below W'.heap.size W' (W'.alloc (.cells (List.replicate n (.int .i64 0)).toArray 3)) := (by repeat (first | exact Below.refl _ _ | assumption | refine Below.setCell ?_ (by first | (simp; done) | (simp; omega) | omega) _ | refine below_drewN ?_ _ | refine Below.drew ?_ | refine Below.alloc ?_ (by first | (simp; done) | (simp; omega) | omega) _))
    have H0 : Hid (TrS w ns seen (w.heap.size + 1) w.heap.size W'.heap.size D (W'.alloc (.cells (List.replicate n (.int .i64 0)).toArray 3)) 0 (.slice none 0 0)) := Lib.hid (by
      refine ⟨h1.trans (hbn.mono h1.size), ?_, RowN.nil_ _ _, fun g e => (by cases e), h2.bel hbn, h3.keep (hbn.block _ h3.lt), (hbn.block _ hDl).trans hdef, by omega, by omega⟩
      have h9 := Own.made (t := 3) (sz := 1) W' (List.replicate n (Value.int .i64 0)).toArray n (by omega) (by simp)
      rw [hnl]
      have e9 : ics (treeN ns seen 0).1 = (List.replicate n (Value.int .i64 0)) := by unfold ics treeN; simp [hnl]
      rw [e9]
      exact h9)
    clear h1 h2 h3 hdef hbn
    dsimp only
    go_wp2_with fail
    go_loopw [6, 47] (fun vo vi wr => ∃ (j : Nat) (A2 : Option Addr) (m2 c2 : Nat), j ≤ n ∧ vi = .int .i64 j ∧ vo = .slice A2 m2 c2 ∧ Hid (TrS w ns seen (w.heap.size + 1) w.heap.size W'.heap.size D wr j (.slice A2 m2 c2))) (fun _ vi _ => n - (intOf vi).toNat)
    case atStart => exact ⟨0, none, 0, 0, Nat.zero_le _, rfl, rfl, H0⟩
    case round =>
      obtain ⟨j, A2, m2, c2, hj, rfl, rfl, H⟩ := hrel
      clear H0 cb'
      by_cases hlt2 : j < n
      · obtain ⟨x, hx⟩ : ∃ x, ns[j]? = some x := ⟨_, List.getElem?_eq_getElem (by omega)⟩
        obtain ⟨b, o, A1, c1, rfl, hb0, hc, hr1⟩ := HT.out.at_ hx
        have hbw := H.out.bel
        have hb1 : b < wr.heap.size := Nat.lt_of_lt_of_le hb0 hbw.size
        have z0 := (hbw.cell (p := ⟨b, _, none⟩) hb0).trans (hc 0 _ rfl)
        have z1 := (hbw.cell (p := ⟨b, _, none⟩) hb0).trans (hc 1 _ rfl)
        have z2 := (hbw.cell (p := ⟨b, _, none⟩) hb0).trans (hc 2 _ rfl)
        have z3 := (hbw.cell (p := ⟨b, _, none⟩) hb0).trans (hc 3 _ rfl)
        have z4 := (hbw.cell (p := ⟨b, _, none⟩) hb0).trans (hc 4 _ rfl)
        simp only [Nat.add_zero, NdS.v] at z0 z1 z2 z3 z4
        have cx : wr.cell? ⟨w.heap.size + 1, 0, none⟩ = some (.map (some w.heap.size)) := H.out.box.cell 0
        have hxl2 := H.out.box.lt
        have hsl := H.out.set_.lt
        have hb51 : Below wr.heap.size wr (wr.alloc (.cells #[.int .i64 x.op, .int .i64 x.at_, .string x.s, .int .i64 x.n, .slice A1 x.kids.length c1] 51)) := (by repeat (first | exact Below.refl _ _ | assumption | refine Below.setCell ?_ (by first | (simp; done) | (simp; omega) | omega) _ | refine below_drewN ?_ _ | refine Below.drew ?_ | refine Below.alloc ?_ (by first | (simp; done) | (simp; omega) | omega) _))
        have hlk := (H.out.set_.keep (hb51.block _ hsl)).look (wf_of (x := (j : Int)) (by omega))
        have s9 : IntKind.i64.wrap (j : Int) = (j : Int) := IntWalk.i64_in _ (by omega)
        have HX := Lib.hid hx
        have HR1 := Lib.hid hr1
        have HB51 := Lib.hid hb51
        clear hc hx hr1 hb51
        by_cases hm : (j : Int) ∈ seen
        · have e1 : decide ((j : Int) ∈ seen) = true := decide_eq_true hm
          rw [e1] at hlk
          clear e1
          have hkl := HKS.out j x HX.out
          have hko := HKO.out j x HX.out
          obtain ⟨xop, xat, xs', xn, kids⟩ := x
          simp only at z0 z1 z2 z3 z4 hkl hko HR1 HB51 hlk
          have hxi : ns[j]? = some ⟨xop, xat, xs', xn, kids⟩ := HX.out
          have e2 : treeN ns seen (j + 1) = ((treeN ns seen j).1.set j (treeN ns seen j).2.length, (treeN ns seen j).2 ++ [⟨xop, xat, xs', xn, kids.map fun k => (((treeN ns seen j).1.set j (treeN ns seen j).2.length)[k.toNat]?).getD 0⟩]) := by
            rw [treeN, hxi]
            simp only
            rw [if_pos hm]
          have hml : m2 = (treeN ns seen j).2.length := by
            obtain ⟨A9, c9, e9, _⟩ := H.out.out.rdT
            injection e9
          rw [← hml] at e2
          have hol := treeN_out ns seen j
          have hnlen := treeN_len ns seen j
          have E2 := Lib.hid e2
          generalize hNU : (treeN ns seen j).1 = num at *
          have H1 := Lib.hid H.out.num
          rw [hNU] at H1
          obtain ⟨q1, q2, q3⟩ := Own.set_ (j := j) H1.out (by omega) (.int .i64 m2)
          have hcn : (ics num)[j]? = some (.int .i64 (num[j]?.getD 0)) := by
            unfold ics
            rw [List.getElem?_map, List.getElem?_eq_getElem (by omega)]
            simp
          rw [hcn] at q1
          have hnbl2 : W'.heap.size < wr.heap.size := H.out.num.lt rfl
          have Q3 := Lib.hid q3
          have HML := Lib.hid hml
          have hW4 : Below w.heap.size w ((wr.setCell ⟨W'.heap.size, j, none⟩ (.int .i64 m2)).alloc (.cells #[.int .i64 xop, .int .i64 xat, .string xs', .int .i64 xn, .slice A1 kids.length c1] 51)) := by have := hbw; have := hbw.size; exact (by repeat (first | exact Below.refl _ _ | assumption | refine Below.setCell ?_ (by first | (simp; done) | (simp; omega) | omega) _ | refine below_drewN ?_ _ | refine Below.drew ?_ | refine Below.alloc ?_ (by first | (simp; done) | (simp; omega) | omega) _))
          have KC : Hid (Calls Tryd.prog 57 #[.slice A1 kids.length c1] ((wr.setCell ⟨W'.heap.size, j, none⟩ (.int .i64 m2)).alloc (.cells #[.int .i64 xop, .int .i64 xat, .string xs', .int .i64 xn, .slice A1 kids.length c1] 51)) fun e w' => ∃ v, e = .returned v ∧ OwnI w' v kids ∧ Below ((wr.setCell ⟨W'.heap.size, j, none⟩ (.int .i64 m2)).alloc (.cells #[.int .i64 xop, .int .i64 xat, .string xs', .int .i64 xn, .slice A1 kids.length c1] 51)).heap.size ((wr.setCell ⟨W'.heap.size, j, none⟩ (.int .i64 m2)).alloc (.cells #[.int .i64 xop, .int .i64 xat, .string xs', .int .i64 xn, .slice A1 kids.length c1] 51)) w' ∧ ∀ g, v.ownBlock = some g → ((wr.setCell ⟨W'.heap.size, j, none⟩ (.int .i64 m2)).alloc (.cells #[.int .i64 xop, .int .i64 xat, .string xs', .int .i64 xn, .slice A1 kids.length c1] 51)).heap.size ≤ g) := Lib.hid (clone_any (HR1.out.bel hW4) rfl hkl)
          have HXB : Hid (Blk ((wr.setCell ⟨W'.heap.size, j, none⟩ (.int .i64 m2)).alloc (.cells #[.int .i64 xop, .int .i64 xat, .string xs', .int .i64 xn, .slice A1 kids.length c1] 51)) wr.heap.size 51 #[.int .i64 xop, .int .i64 xat, .string xs', .int .i64 xn, .slice A1 kids.length c1]) := Lib.hid (by
            have h9 := Blk.new (wr.setCell ⟨W'.heap.size, j, none⟩ (.int .i64 m2)) 51 #[.int .i64 xop, .int .i64 xat, .string xs', .int .i64 xn, .slice A1 kids.length c1]
            have e9 : (wr.setCell ⟨W'.heap.size, j, none⟩ (.int .i64 m2)).heap.size = wr.heap.size := by simp [World.setCell]
            rw [e9] at h9
            exact h9)
          have HQA := Lib.hid (show Own ((wr.setCell ⟨W'.heap.size, j, none⟩ (.int .i64 m2)).alloc (.cells #[.int .i64 xop, .int .i64 xat, .string xs', .int .i64 xn, .slice A1 kids.length c1] 51)) 3 1 (.slice (some ⟨W'.heap.size, 0, none⟩) ns.length ns.length) ns.length (ics (num.set j m2)) from by
            have e9 : (ics num).set j (.int .i64 m2) = ics (num.set j m2) := by unfold ics; rw [List.map_set]
            rw [← e9]
            exact Q3.out.new (by repeat (first | exact Below.refl _ _ | assumption | refine Below.setCell ?_ (by first | (simp; done) | (simp; omega) | omega) _ | refine below_drewN ?_ _ | refine Below.drew ?_ | refine Below.alloc ?_ (by first | (simp; done) | (simp; omega) | omega) _)))
          have HM4 : Hid (Mod (· = W'.heap.size) wr ((wr.setCell ⟨W'.heap.size, j, none⟩ (.int .i64 m2)).alloc (.cells #[.int .i64 xop, .int .i64 xat, .string xs', .int .i64 xn, .slice A1 kids.length c1] 51))) := Lib.hid ((Mod.setCell (S := (· = W'.heap.size)) (p := ⟨W'.heap.size, j, none⟩) (Mod.refl _ _) (fun _ => rfl) _).alloc _)
          have HW4 := Lib.hid hW4
          have hsz : ((wr.setCell ⟨W'.heap.size, j, none⟩ (.int .i64 m2)).alloc (.cells #[.int .i64 xop, .int .i64 xat, .string xs', .int .i64 xn, .slice A1 kids.length c1] 51)).heap.size = wr.heap.size + 1 := by simp [World.setCell]
          clear q3 hcn hxi hNU e2 hml hW4
          go_wp2_with (go_at_call 57; go_must (refine KC.out.mono ?_); rintro e W3 ⟨v3, rfl, ho3, hb3, hv3⟩; obtain ⟨A3, c3, rfl, hr3, -⟩ := Own.rd ho3; rw [hsz] at hv3; have hxb3 := HXB.out.bel hb3; have y0 := hxb3.cell 0; have y1 := hxb3.cell 1; have y2 := hxb3.cell 2; have y3 := hxb3.cell 3; have y4 := hxb3.cell 4; have yf := hxb3.frozen 4; have ylt := hxb3.lt; have hk9 := hr3.le; simp only [List.getElem?_toArray, List.getElem?_cons_zero, List.getElem?_cons_succ] at y0 y1 y2 y3 y4; have HXB3 := Lib.hid hxb3; have HO3 := Lib.hid ho3; have HV3 := Lib.hid hv3; have HB3 := Lib.hid hb3; clear hxb3 ho3 hb3 hv3 hr3)
          have HF : Hid ((fun z : Int => ((num.set j m2)[z.toNat]?).getD 0) = fun z : Int => ((num.set j m2)[z.toNat]?).getD 0) := Lib.hid rfl
          obtain ⟨fz, hfz⟩ : ∃ fz : Int → Int, fz = fun z : Int => ((num.set j m2)[z.toNat]?).getD 0 := ⟨_, rfl⟩
          have HFZ := Lib.hid hfz
          clear HF hfz q1 q2 y0 y1 y2 y3 y4 yf KC
          obtain ⟨wo, rfl⟩ : ∃ wo, wo = wr := ⟨_, rfl⟩
          go_loopw [68] (fun vi wi => ∃ q : Nat, q ≤ kids.length ∧ vi = .int .i64 q ∧ Hid (Own wi 3 1 (.slice A3 kids.length c3) kids.length (ics ((kids.take q).map fz ++ kids.drop q))) ∧ Hid (Blk wi wo.heap.size 51 #[.int .i64 xop, .int .i64 xat, .string xs', .int .i64 xn, .slice A3 kids.length c3]) ∧ Hid (Mod (fun g => wo.heap.size ≤ g) W3 wi)) (fun vi _ => kids.length - (intOf vi).toNat)
          case atStart =>
            refine ⟨0, Nat.zero_le _, rfl, Lib.hid ?_, Lib.hid (HXB3.out.set_ 4 _), Lib.hid (Mod.setCell (S := fun g => wo.heap.size ≤ g) (p := ⟨wo.heap.size, 4, none⟩) (Mod.refl _ _) (fun _ => Nat.le_refl _) _)⟩
            have h9 := HO3.out
            unfold OwnI at h9
            refine Own.keep h9 fun g hg => Below.heap_setCell W3 _ _ g ?_
            have := HV3.out g hg
            show g ≠ wo.heap.size
            omega
          case round =>
            obtain ⟨q, hq, rfl, HOq, HXq, HMq⟩ := hrel
            have x0 := HXq.out.cell 0
            have x1 := HXq.out.cell 1
            have x2 := HXq.out.cell 2
            have x3 := HXq.out.cell 3
            have x4 := HXq.out.cell 4
            have xlt := HXq.out.lt
            simp only [List.getElem?_toArray, List.getElem?_cons_zero, List.getElem?_cons_succ] at x0 x1 x2 x3 x4
            have HM3 : Hid (Mod (fun g => wo.heap.size ≤ g) ((wo.setCell ⟨W'.heap.size, j, none⟩ (.int .i64 m2)).alloc (.cells #[.int .i64 xop, .int .i64 xat, .string xs', .int .i64 xn, .slice A1 kids.length c1] 51)) wr) := Lib.hid (Mod.trans (Mod.new HB3.out) HMq.out fun _ _ h => h)
            have HNQ := Lib.hid (HQA.out.mod HM3.out fun g hg hs => by
              have e9 : W'.heap.size = g := by simpa [Value.ownBlock] using hg
              omega)
            by_cases hlt3 : q < kids.length
            · obtain ⟨y, hy⟩ : ∃ y, kids[q]? = some y := ⟨_, List.getElem?_eq_getElem hlt3⟩
              obtain ⟨hy0, hy1⟩ := hko y (List.mem_of_getElem? hy)
              obtain ⟨p, rfl⟩ : ∃ p : Nat, y = p := ⟨y.toNat, by omega⟩
              obtain ⟨hms1, hms2⟩ := map_set (f := fz) hy
              have hA3 : ∃ b3, A3 = some ⟨b3, 0, none⟩ := by
                rcases HOq.out.2 with ⟨e9, e8⟩ | ⟨g, _, _, e9, _⟩
                · omega
                · injection e9 with e9
                  exact ⟨g, e9⟩
              obtain ⟨b3, rfl⟩ := hA3
              obtain ⟨r1, r2, r3⟩ := Own.set_ (j := q) HOq.out (by omega) (.int .i64 (fz p))
              have hb3l : b3 < wr.heap.size := HOq.out.lt rfl
              have hb3g := HV3.out b3 rfl
              rw [show (ics ((kids.take q).map fz ++ kids.drop q))[q]? = some (.int .i64 (p : Int)) from by unfold ics; rw [List.getElem?_map, hms1]; rfl] at r1
              have hnl3 : W'.heap.size < wr.heap.size := HNQ.out.lt rfl
              have hpv : (ics (num.set j m2))[p]? = some (.int .i64 (fz p)) := by
                have hpl : p < (num.set j m2).length := by rw [List.length_set]; omega
                unfold ics
                rw [List.getElem?_map, HFZ.out, List.getElem?_eq_getElem hpl]
                simp [hpl]
                rw [List.getElem?_eq_getElem hpl]
                rfl
              obtain ⟨A8, c8, e8, hr8, _⟩ := Own.rd HNQ.out
              injection e8 with e8 e7 e6
              subst e8
              obtain ⟨b8, o8, e8, hb8, hc8⟩ := hr8.2.2.2 (by omega)
              injection e8 with e8
              injection e8 with e8 e5
              subst e8 e5
              have nc := hc8 p _ hpv
              simp only [Nat.zero_add] at nc
              have R3 := Lib.hid r3
              have HMS := Lib.hid hms2
              clear r3 hms1 hms2 hy hpv hr8 hc8
              have hpn : p < n := by omega
              go_wp2_with fail
              go_still_tail 8, (by kernel_rfl)
              go_wp2_with fail
              go_round
              case rel =>
                refine ⟨q + 1, by omega, by go_num, Lib.hid ?_, Lib.hid (HXq.out.far (p := ⟨b3, q, none⟩) (by show wo.heap.size ≠ b3; omega) _), Lib.hid (Mod.drew (Mod.setCell (S := fun g => wo.heap.size ≤ g) (p := ⟨b3, q, none⟩) HMq.out (fun _ => by show wo.heap.size ≤ b3; omega) _))⟩
                rw [← HMS.out]
                have e9 : ics ((((kids.take q).map fz ++ kids.drop q)).set q (fz p)) = (ics ((kids.take q).map fz ++ kids.drop q)).set q (.int .i64 (fz p)) := by unfold ics; rw [List.map_set]
                rw [e9]
                exact R3.out
              case measure => simp [intOf]; omega
            · obtain rfl : q = kids.length := by omega
              have hoz := HOq.out
              rw [List.take_of_length_le (Nat.le_refl _), List.drop_of_length_le (Nat.le_refl _), List.append_nil] at hoz
              have hMA : Mod (fun g => g = W'.heap.size ∨ wo.heap.size ≤ g) wo wr := Mod.trans (Mod.mono HM4.out fun _ _ h => .inl h) HM3.out fun _ _ h => .inr h
              obtain ⟨Z, eZ, z1, z2⟩ := H.out.out
              have hZl : Z.length = m2 := by
                obtain ⟨A9, c9, e9, _⟩ := Own.rd z1
                injection e9 with _ e9
                exact e9.symm
              have z1i : Own wr 51 5 (.slice A2 m2 c2) Z.length (Z.flatMap NdS.cs) := z1.mod hMA fun b hb h9 => by
                rcases h9 with e | e
                · exact own_own_ne H.out.num z1 (by decide) rfl (e ▸ hb)
                · have := z1.lt hb; omega
              have hml2 : (kids.map fz).length = kids.length := List.length_map _
              have hzc : (⟨⟨xop, xat, xs', xn, kids.map fz⟩, A3, c3⟩ : NdS).cs = [.int .i64 xop, .int .i64 xat, .string xs', .int .i64 xn, .slice A3 kids.length c3] := by
                unfold NdS.cs NdS.v
                simp only [hml2]
              have hnr : Rd (wr.alloc (.cells #[.int .i64 xop, .int .i64 xat, .string xs', .int .i64 xn, .slice A3 kids.length c3] 51)) (some ⟨wr.heap.size, 0, none⟩) 1 1 5 (⟨⟨xop, xat, xs', xn, kids.map fz⟩, A3, c3⟩ : NdS).cs := by
                have h9 := Rd.node (w := wr) (z := ⟨⟨xop, xat, xs', xn, kids.map fz⟩, A3, c3⟩)
                rw [hzc] at h9 ⊢
                exact h9
              have hoz2 : OwnI wr (⟨⟨xop, xat, xs', xn, kids.map fz⟩, A3, c3⟩ : NdS).v (kids.map fz) := by
                unfold OwnI NdS.v
                simp only [hml2]
                exact hoz
              have HT9 := Lib.hid (And.intro eZ (And.intro z1 (And.intro z2 (And.intro hMA hoz2))))
              have HZ1 := Lib.hid z1i
              have HNR := Lib.hid hnr
              clear eZ z1 z2 hMA hoz2 z1i hnr hzc hoz
              have hbg2 : Z.length + 1 ≤ 1099511627776 := by have := HML.out; omega
              have HZL := Lib.hid hZl
              clear hZl
              go_wp2_with (at_builtin; go_must (refine wpList_appendNode _ rfl _ _ rfl (.slice A2 m2 c2) Z rfl (by exact Own.new HZ1.out (by repeat (first | exact Below.refl _ _ | assumption | refine Below.setCell ?_ (by first | (simp; done) | (simp; omega) | omega) _ | refine below_drewN ?_ _ | refine Below.drew ?_ | refine Below.alloc ?_ (by first | (simp; done) | (simp; omega) | omega) _))) _ 1 ⟨⟨xop, xat, xs', xn, kids.map fz⟩, A3, c3⟩ rfl HNR.out hbg2 ?_); intro v6 w6 ho6 hg6 hn6; generalize hG : Z ++ [(⟨⟨xop, xat, xs', xn, kids.map fz⟩, A3, c3⟩ : NdS)] = G at ho6; have HG := Lib.hid hG; obtain ⟨A6, c6, rfl, -, -⟩ := Own.rd ho6; clear hG; have HO6 := Lib.hid ho6; have HG6 := Lib.hid hg6; have HN6 := Lib.hid hn6; clear ho6 hg6 hn6)
              go_round
              case rel =>
                obtain ⟨t1, t2, t3, t4, t5⟩ := HT9.out
                refine ⟨j + 1, A6, G.length, c6, by omega, by go_num, rfl, Lib.hid ?_⟩
                refine TrS.next (z := ⟨⟨xop, xat, xs', xn, kids.map fz⟩, A3, c3⟩) H.out t1 t2 t3 (by show (kids.map fz).length ≤ _; omega) t4 ?_ t5 (fun g hg => by unfold NdS.v at hg; simp only [hml2] at hg; have := HV3.out g hg; omega) ?_ (show Below wr.heap.size wr _ from (by repeat (first | exact Below.refl _ _ | assumption | refine Below.setCell ?_ (by first | (simp; done) | (simp; omega) | omega) _ | refine below_drewN ?_ _ | refine Below.drew ?_ | refine Below.alloc ?_ (by first | (simp; done) | (simp; omega) | omega) _))) (by rw [HG.out]; exact HO6.out) HG6.out HN6.out
                · rw [E2.out]
                  exact HNQ.out
                · rw [E2.out, HFZ.out]
              case measure => simp [intOf]; omega
        · have e1 : decide ((j : Int) ∈ seen) = false := decide_eq_false hm
          rw [e1] at hlk
          have e2 : treeN ns seen (j + 1) = treeN ns seen j := by rw [treeN, HX.out]; simp only; rw [if_neg hm]
          have E2 := Lib.hid e2
          clear e1 e2
          go_wp2_with fail
          go_round
          case rel => exact ⟨j + 1, A2, m2, c2, by omega, by go_num, rfl, Lib.hid (H.out.move HB51.out E2.out)⟩
          case measure => simp [intOf]; omega
      · obtain rfl : j = n := by omega
        go_wp2_with fail
        refine leaves_mark H.out.def_ fun W'' hk => ⟨results_tmp rfl _ _ _, .slice A2 m2 c2, rfl, ?_⟩
        rw [HTR.out, hnl]
        exact H.out.fin hk
end Go.Proofs.YtjdcicopjipmnaaDoor
