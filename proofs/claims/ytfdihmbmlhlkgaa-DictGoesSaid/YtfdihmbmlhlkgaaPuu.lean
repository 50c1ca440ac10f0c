/- Put where the key is there. -/
import Derived.Test.YtfdihmbmlhlkgaaPut
namespace Go.Proofs.Ytfdihmbmlhlkgaa
open Go.RowKit
attribute [local go_sem high] guardV eqV neqV
attribute [local go_sem] V.v

set_option maxRecDepth 100000 in
set_option maxHeartbeats 1000000 in
theorem put_there {w : World} {S : Nat → Prop} {g : Nat} {L : List (V × V)} (h : IsDict w S g L) (x y : V) (hx : x.Ok) (hyes : (findL L x).isSome = true) :
    Calls Try.prog 15 #[.pointer (some ⟨g, 0, none⟩), .agg #[.int .i64 x.k, .int .i64 x.n, .string x.s], .agg #[.int .i64 y.k, .int .i64 y.n, .string y.s]] w fun e w' => e = .returned (.bool true) ∧ IsDict w' S g (putL L x y) ∧ Mod S w w' := by
  obtain ⟨B, v, rs, f, h, hS1, hS2, hS3, hS4⟩ := h
  have hb := h.blk.lt
  have c0 := h.blk.cell 0
  have c1 := h.blk.cell 1
  simp only [List.getElem?_toArray, List.getElem?_cons_zero, List.getElem?_cons_succ] at c0 c1
  obtain ⟨k, n, s⟩ := x
  obtain ⟨k', n', s'⟩ := y
  cases e : f ⟨k, n, s⟩ with
  | none =>
    have := h.keys.no e
    rw [h.live] at this
    rw [this] at hyes
    cases hyes
  | some i =>
    obtain ⟨⟨k2, n2, s2⟩, hr⟩ := (h.keys _ _).1 e
    obtain ⟨b, m, c, rfl, him, hm, hb1, hc⟩ := h.at_ hr
    subst hm
    have z3 := hc 3 _ rfl
    have z4 := hc 4 _ rfl
    have z5 := hc 5 _ rfl
    have f3 := h.own.frozen (i * 7 + 3)
    have f4 := h.own.frozen (i * 7 + 4)
    have f5 := h.own.frozen (i * 7 + 5)
    have hn := h.rows
    have hgb : ¬ g = b := h.ne_gb
    have hl : ∀ o1 o2 q, (Instr.lookup 68 (.map (some B)) (.agg #[.int .i64 k, .int .i64 n, .string s]) true).run Try.prog (((w.alloc o1).alloc o2).drewN q) = .ok (.tuple #[.int .i64 i, .bool true]) (((w.alloc o1).alloc o2).drewN q) := fun o1 o2 q => by
      have := (h.map.new (w' := ((w.alloc o1).alloc o2).drewN q) (by repeat (first | exact Below.refl _ _ | assumption | refine Below.setCell ?_ (by first | (simp; done) | (simp; omega) | omega) _ | refine below_drewN ?_ _ | refine Below.drew ?_ | refine Below.alloc ?_ (by first | (simp; done) | (simp; omega) | omega) _))).look hx
      rw [e] at this
      exact this
    have HH := Lib.hid h
    have E := Lib.hid e
    have HR := Lib.hid hr
    have HS := Lib.hid (And.intro hS1 (And.intro hS2 (And.intro (hS3 b rfl) hS4)))
    have hi0 : (0 : Int) ≤ (i : Int) := by omega
    have hi1 : (i : Int) < (rs.length : Int) := by omega
    have hwb : ¬ w.heap.size + 1 = b := by omega
    clear h e hc hr hx hyes hS1 hS2 hS3 hS4
    go_enter Try.func15, Try.ntmps15
    go_wp2_with fail
    go_quiet (fail)
    go_wp2_with fail
    obtain ⟨W, hW⟩ : ∃ W, W = ((w.alloc (.cells #[.int .i64 k, .int .i64 n, .string s] 24)).alloc (.cells #[.int .i64 k', .int .i64 n', .string s'] 24)).drewN nq := ⟨_, rfl⟩
    rw [← hW]
    have hbW : Below w.heap.size w W := by rw [hW]; exact (by repeat (first | exact Below.refl _ _ | assumption | refine Below.setCell ?_ (by first | (simp; done) | (simp; omega) | omega) _ | refine below_drewN ?_ _ | refine Below.drew ?_ | refine Below.alloc ?_ (by first | (simp; done) | (simp; omega) | omega) _))
    have hBx : Blk W (w.heap.size + 1) 24 #[.int .i64 k', .int .i64 n', .string s'] := by
      have hh := Blk.new (w.alloc (.cells #[.int .i64 k, .int .i64 n, .string s] 24)) 24 #[.int .i64 k', .int .i64 n', .string s']
      rw [World.size_alloc] at hh
      rw [hW]
      exact hh
    have cg := (hbW.cell (p := ⟨g, 1, none⟩) hb).trans c1
    have x0 := hBx.cell 0
    have x1 := hBx.cell 1
    have x2 := hBx.cell 2
    simp only [List.getElem?_toArray, List.getElem?_cons_zero, List.getElem?_cons_succ] at x0 x1 x2
    have y3 := (hbW.cell (p := ⟨b, i * 7 + 3, none⟩) hb1).trans z3
    have y4 := (hbW.cell (p := ⟨b, i * 7 + 4, none⟩) hb1).trans z4
    have y5 := (hbW.cell (p := ⟨b, i * 7 + 5, none⟩) hb1).trans z5
    have g3 := (hbW.frozen (p := ⟨b, i * 7 + 3, none⟩) hb1).trans f3
    have g4 := (hbW.frozen (p := ⟨b, i * 7 + 4, none⟩) hb1).trans f4
    have g5 := (hbW.frozen (p := ⟨b, i * 7 + 5, none⟩) hb1).trans f5
    have HBW := Lib.hid hbW
    have HK0 : Hid (∀ (q p1 p2 p3 : Nat) (u1 u2 u3 : Value), (fun w' => w'.cell? ⟨g, 1, none⟩ = some (.slice (some ⟨b, 0, none⟩) rs.length c) ∧ w'.cell? ⟨w.heap.size + 1, 0, none⟩ = some (.int .i64 k') ∧ w'.cell? ⟨w.heap.size + 1, 1, none⟩ = some (.int .i64 n') ∧ w'.cell? ⟨w.heap.size + 1, 2, none⟩ = some (.string s')) ((((W.drewN q).setCell ⟨b, p1, none⟩ u1).setCell ⟨b, p2, none⟩ u2).setCell ⟨b, p3, none⟩ u3)) := by
      intro q p1 p2 p3 u1 u2 u3
      have far : ∀ (W : World) (p q d : Nat) (u : Value), ¬ d = b → (W.setCell ⟨b, p, none⟩ u).cell? ⟨d, q, none⟩ = W.cell? ⟨d, q, none⟩ := fun W p q d u hd => World.cell?_of_block (Below.heap_setCell W ⟨b, p, none⟩ u d (fun e => hd e))
      refine ⟨?_, ?_, ?_, ?_⟩
      · rw [far _ _ _ _ _ hgb, far _ _ _ _ _ hgb, far _ _ _ _ _ hgb]; exact cg
      · rw [far _ _ _ _ _ hwb, far _ _ _ _ _ hwb, far _ _ _ _ _ hwb]; exact x0
      · rw [far _ _ _ _ _ hwb, far _ _ _ _ _ hwb, far _ _ _ _ _ hwb]; exact x1
      · rw [far _ _ _ _ _ hwb, far _ _ _ _ _ hwb, far _ _ _ _ _ hwb]; exact x2
    clear hbW hBx hl c0 c1 z3 z4 z5 f3 f4 f5
    clear hW
    go_region_held3 (fun w' => w'.cell? ⟨g, 1, none⟩ = some (.slice (some ⟨b, 0, none⟩) rs.length c) ∧ w'.cell? ⟨w.heap.size + 1, 0, none⟩ = some (.int .i64 k') ∧ w'.cell? ⟨w.heap.size + 1, 1, none⟩ = some (.int .i64 n') ∧ w'.cell? ⟨w.heap.size + 1, 2, none⟩ = some (.string s')) (first | exact HK0.out 1 _ _ _ _ _ _ | go_keep)
      (fail)
    go_wp2_with fail
    go_ret
    obtain ⟨s1, s2, s3, s4⟩ := HS.out
    have hil : i < rs.length := him
    have o1 := ((HH.out.own.new HBW.out).set_ (j := i * 7 + 3) (by omega) (.int .i64 k')).2.2
    have o2 := (o1.set_ (j := i * 7 + 4) (by omega) (.int .i64 n')).2.2
    have o3 := (o2.set_ (j := i * 7 + 5) (by omega) (.string s')).2.2
    rw [rcs_set3 rs i ⟨k, n, s⟩ _ ⟨k', n', s'⟩ HR.out] at o3
    have mb : Mod (· = b) w (((W.setCell ⟨b, i * 7 + 3, none⟩ (.int .i64 k')).setCell ⟨b, i * 7 + 4, none⟩ (.int .i64 n')).setCell ⟨b, i * 7 + 5, none⟩ (.string s')) :=
      Mod.setCell (S := (· = b)) (p := ⟨b, i * 7 + 5, none⟩) (Mod.setCell (S := (· = b)) (p := ⟨b, i * 7 + 4, none⟩) (Mod.setCell (S := (· = b)) (p := ⟨b, i * 7 + 3, none⟩) (Mod.new HBW.out) (fun _ => rfl) _) (fun _ => rfl) _) (fun _ => rfl) _
    have md := mb.drew
    refine ⟨rfl, ⟨B, .slice (some ⟨b, 0, none⟩) rs.length c, rs.set i (some (⟨k, n, s⟩, ⟨k', n', s'⟩)), f, ⟨?_, ?_, ?_, HH.out.keys.set_some E.out _, ?_, ?_, ?_, ?_, HH.out.lt⟩, s1, s2, ?_, ?_⟩, ?_⟩
    · exact HH.out.blk.mod md HH.out.ne_gb
    · have e : (putL L ⟨k, n, s⟩ ⟨k', n', s'⟩).length = L.length := by simp [putL]
      rw [e]
      exact HH.out.map.mod md HH.out.ne_Bb
    · rw [List.length_set]
      exact o3
    · rw [live_put HH.out.keys E.out, HH.out.live]
    · intro p hp
      simp only [putL, List.mem_map] at hp
      obtain ⟨q, hq, rfl⟩ := hp
      have := HH.out.ok q hq
      split
      · rename_i e
        rw [e] at this
        exact this
      · exact this
    · simp only [putL, List.length_map]; exact HH.out.len
    · rw [List.length_set]; exact HH.out.rows
    · intro b' e
      simp only [Value.ownBlock] at e
      obtain rfl := Option.some.inj e
      exact s3
    · exact fun j hj => Nat.lt_of_lt_of_le (s4 j hj) md.size
    · exact md.mono (fun j _ e => by subst e; exact s3)
end Go.Proofs.Ytfdihmbmlhlkgaa
