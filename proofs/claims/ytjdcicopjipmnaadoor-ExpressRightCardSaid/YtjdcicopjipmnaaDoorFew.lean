/- few: 40 tokens at most, of texts of 12 bytes. -/
import Derived.Test.YtjdcicopjipmnaaDoorItr
namespace Go.Proofs.YtjdcicopjipmnaaDoor
open Go.RowKit
set_option linter.unusedVariables false
set_option linter.unusedSimpArgs false
def cutT (t : TokD) : TokD := { t with s := t.s.extract 0 (min (t.s.size : Int) 12).toNat }
def fewL (L : List TokD) : List TokD := (L.take 40).map cutT
theorem cut_small (t : TokD) : (cutT t).s.size ≤ 12 := by
  unfold cutT
  simp only
  rw [ByteArray.size_extract]
  omega
theorem few_len (L : List TokD) : (fewL L).length ≤ 40 := by
  unfold fewL
  rw [List.length_map, List.length_take]
  omega
theorem few_small (L : List TokD) : ∀ t ∈ fewL L, t.s.size ≤ maxLen := by
  intro t ht
  obtain ⟨u, _, rfl⟩ := List.mem_map.1 ht
  exact sml (Nat.le_trans (cut_small u) (by decide))
theorem Rd.toksG {g : Nat} {w : World} (hg : g = w.heap.size) (L : List TokD) (cs : Array Value) (n : Nat) (hn : L.length = n) (hc : cs = (L.flatMap tcs).toArray) (hm : n ≤ 9223372036854775807) : Rd (w.alloc (.cells cs 39)) (some ⟨g, 0, none⟩) n n 4 (L.flatMap tcs) := by
  subst hg
  exact Rd.toks w L cs n hn hc hm
theorem Rd.tok {w : World} {A : Option Addr} {n c : Nat} {L : List TokD} (h : Rd w A n c 4 (L.flatMap tcs)) {k : Nat} {t : TokD} (hk : L[k]? = some t) (hn : 0 < n) : ∃ b o, A = some ⟨b, o, none⟩ ∧ b < w.heap.size ∧ w.cell? ⟨b, o + k * 4, none⟩ = some (.int .i64 t.k) ∧ w.cell? ⟨b, o + k * 4 + 1, none⟩ = some (.int .i64 t.at_) ∧ w.cell? ⟨b, o + k * 4 + 2, none⟩ = some (.string t.s) ∧ w.cell? ⟨b, o + k * 4 + 3, none⟩ = some (.int .i64 t.n) := by
  obtain ⟨b, o, e, hb, hc⟩ := h.2.2.2 hn
  exact ⟨b, o, e, hb, hc _ _ (flat_at hk 0 _ rfl), hc _ _ (flat_at hk 1 _ rfl), hc _ _ (flat_at hk 2 _ rfl), hc _ _ (flat_at hk 3 _ rfl)⟩
set_option maxRecDepth 100000 in
set_option maxHeartbeats 4000000 in
theorem few_any {w : World} {A : Option Addr} {n c : Nat} {L : List TokD} (hl : Rd w A n c 4 (L.flatMap tcs)) (hn : L.length = n) : Calls Tryd.prog 20 #[.slice A n c] w fun e w' => ∃ v, e = .returned v ∧ NewT w w' v (fewL L) := by
  have HL := Lib.hid hl
  have hbig : n ≤ 9223372036854775807 := Nat.le_trans hl.1 hl.2.1
  have HN := Lib.hid hn
  have HH0 := Lib.hid ((Hold.nil w.heap.size w).made0 (Nat.le_refl _))
  have HB0 : Hid (Below w.heap.size w (w.alloc (.cells #[] 39))) := Lib.hid (by repeat (first | exact Below.refl _ _ | assumption | refine Below.setCell ?_ (by first | (simp; done) | (simp; omega) | omega) _ | refine below_drewN ?_ _ | refine Below.drew ?_ | refine Below.alloc ?_ (by first | (simp; done) | (simp; omega) | omega) _))
  clear hl hn
  go_enter Tryd.func20, Tryd.ntmps20
  go_wp2_with fail
  go_loopw [3, 4] (fun v3 v4 wr => ∃ (i : Nat) (A1 : Option Addr) (c1 : Nat) (M : List TokD), i ≤ n ∧ i ≤ 40 ∧ v4 = .int .i64 i ∧ v3 = .slice A1 M.length c1 ∧ Hid (M = (L.take i).map cutT) ∧ Hid (M.length = i) ∧ Hid (Hold w.heap.size wr [(.slice A1 M.length c1, .row M)]) ∧ Hid (Below w.heap.size w wr)) (fun _ v4 _ => n - (intOf v4).toNat)
  case atStart => exact ⟨0, _, 0, [], Nat.zero_le _, by decide, rfl, rfl, Lib.hid rfl, Lib.hid rfl, HH0, HB0⟩
  case round =>
    obtain ⟨i, A1, c1, M, hi, hi40, rfl, rfl, HM, HlM, HH, HB⟩ := hrel
    clear HH0 HB0
    by_cases hlt : i < n
    · by_cases h40 : i < 40
      · have hil : i < L.length := by have := HN.out; omega
        obtain ⟨t, ht⟩ : ∃ t, L[i]? = some t := ⟨_, List.getElem?_eq_getElem hil⟩
        obtain ⟨b, o, rfl, hb, p0, p1, p2, p3⟩ := (HL.out.bel HB.out).tok ht (by omega)
        have HT := Lib.hid ht
        have hml : M.length ≤ 40 := by have := HlM.out; omega
        clear ht hil
        go_wp2_with (at_builtin; go_must (refine wpList_appendT _ rfl _ _ rfl (.slice A1 M.length c1) M rfl (HH.out.bel (by exact (by repeat (first | exact Below.refl _ _ | assumption | refine Below.setCell ?_ (by first | (simp; done) | (simp; omega) | omega) _ | refine below_drewN ?_ _ | refine Below.drew ?_ | refine Below.alloc ?_ (by first | (simp; done) | (simp; omega) | omega) _)))).own _ 1 1 [cutT t] rfl (Rd.toksG (by simp only [World.size_alloc]) [cutT t] _ 1 rfl rfl (by omega)) rfl (by omega) ?_); intro v6 w6 ho6 hg6 hn6; obtain ⟨hh, hb6⟩ := Hold.grow (HH.out.bel (by exact (by repeat (first | exact Below.refl _ _ | assumption | refine Below.setCell ?_ (by first | (simp; done) | (simp; omega) | omega) _ | refine below_drewN ?_ _ | refine Below.drew ?_ | refine Below.alloc ?_ (by first | (simp; done) | (simp; omega) | omega) _)))) (HB.out.trans (below_low (by exact (by repeat (first | exact Below.refl _ _ | assumption | refine Below.setCell ?_ (by first | (simp; done) | (simp; omega) | omega) _ | refine below_drewN ?_ _ | refine Below.drew ?_ | refine Below.alloc ?_ (by first | (simp; done) | (simp; omega) | omega) _))) HB.out.size)) ho6 hg6 hn6; generalize hG : M ++ [cutT t] = G at ho6 hh; obtain ⟨A2, c2, rfl, -, -⟩ := Own.rd ho6; have HG := Lib.hid hG; replace HH := Lib.hid hh; replace HB := Lib.hid hb6; clear hG ho6 hg6 hn6 hh hb6 p0 p1 p2 p3 hb)
        go_round
        case rel => exact ⟨i + 1, A2, c2, G, by omega, by omega, by go_num, rfl, Lib.hid (by rw [← HG.out, HM.out, List.take_add_one, HT.out]; simp), Lib.hid (by rw [← HG.out, List.length_append, HlM.out]; rfl), HH, HB⟩
        case measure => simp [intOf]; omega
      · have h40' : decide ((i : Int) < 40) = false := decide_eq_false (by omega)
        go_wp2_with fail
        go_ret
        refine ⟨_, rfl, ?_⟩
        have e : fewL L = M := by rw [HM.out]; unfold fewL; rw [show i = 40 from by omega]
        rw [e]
        exact ⟨HH.out.own, fun b eb => HH.out.head.2 b eb, HB.out⟩
    · go_wp2_with fail
      go_ret
      refine ⟨_, rfl, ?_⟩
      have e : fewL L = M := by
        rw [HM.out]
        unfold fewL
        have := HN.out
        rw [List.take_of_length_le (by omega), List.take_of_length_le (by omega)]
      rw [e]
      exact ⟨HH.out.own, fun b eb => HH.out.head.2 b eb, HB.out⟩
end Go.Proofs.YtjdcicopjipmnaaDoor
