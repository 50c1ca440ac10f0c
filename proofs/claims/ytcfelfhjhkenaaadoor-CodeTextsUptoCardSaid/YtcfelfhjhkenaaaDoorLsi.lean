/- in.list. -/
import Derived.Test.YtcfelfhjhkenaaaDoorNmi
namespace Go.Proofs.YtcfelfhjhkenaaaDoor
open Go.RowKit
attribute [local go_sem] Oper.semAt_some

theorem info_S : (Tryd.prog.info? 9).map (fun i => (i.zero, i.size, i.bytes)) = some (some (.string ⟨#[]⟩), 1, 16) := by kernel_rfl
def ListV (w : World) (l : List ByteArray) (v : Value) : Prop := Own w 9 1 v l.length (scs l)
theorem scs_append (a b : List ByteArray) : scs (a ++ b) = scs a ++ scs b := by simp [scs]
theorem one_cell (w : World) (t : TypeId) (u : Value) : ∀ j v, [u][j]? = some v → (w.alloc (.cells #[u] t)).cell? ((⟨w.heap.size, 0, none⟩ : Addr).add j) = some v := by
  intro j v hv
  rw [show (⟨w.heap.size, 0, none⟩ : Addr).add j = ⟨w.heap.size, j, none⟩ from by unfold Addr.add; split <;> simp_all, (Blk.new w t #[u]).cell]
  simpa using hv
/-- behind an append to a row of one's own -/
theorem grown_in {w0 w w1 w2 : World} {x : Nat} {t : TypeId} {sz n : Nat} {v : Value} {cs : List Value} {s : Value} (hm : Mod (fun i => i = x) w0 w) (hB : Blk w x 70 #[s]) (ho : w.ownsRow w0.heap.size t sz v n cs) (ht : t ≠ 70)
    (hb : Below w.heap.size w w1) (hg : w1.grownBy w2 v.ownBlock) : Blk w2 x 70 #[s] ∧ Mod (fun i => i = x) w0 w2 := by
  have n0 : v.ownBlock ≠ some x := own_blk_ne (row_own ho) hB ht
  have m1 : Mod (fun i => i = x) w0 w1 := hm.trans (Mod.new hb) fun _ _ e => e
  exact ⟨(hB.new' hb).grown hg (fun e => n0 e.symm), m1.grown hg fun k e hk => absurd (row_base ho e) (by omega)⟩

set_option maxRecDepth 100000 in
set_option maxHeartbeats 1000000 in
theorem list_in {w : World} {x : Nat} {l : List UInt8} (h : Blk w x 70 #[.string (bstr l)]) :
    Calls Tryd.prog 60 #[.pointer (some ⟨x, 0, none⟩)] w (Took w x ListV (listP l)) := by
  obtain ⟨i0, hi, hz0, hz1, hz2⟩ := info_parts info_S
  have HI := Lib.hid (And.intro hi (And.intro hz0 (And.intro hz1 hz2)))
  clear hi hz0 hz1 hz2
  have H := Lib.hid h
  clear h
  go_enter Tryd.func60, Tryd.ntmps60
  go_wp2_with fail
  refine (number_in H.out 4096 (by omega)).mono ?_
  rintro e w1 ht
  cases hx : numP 4096 l with
  | error y =>
    obtain ⟨rfl, hm⟩ := ht.err' hx
    have hr : listP l = .error y := bindP_error hx
    exact ⟨rfl, hm, by rw [hr]⟩
  | ok v =>
    obtain ⟨n, r⟩ := v
    obtain ⟨v, rfl, rfl, hB, hm⟩ := ht.ok' hx
    have hn : n ≤ 4096 := by
      obtain ⟨_, a, h1, _⟩ := (num_good 4096).inv _ _ _ hx
      exact (cntB_ok h1).1
    have hP : listP l = repP textP n r := bindP_ok hx
    have HB := Lib.hid hB
    have HM := Lib.hid hm
    have HP := Lib.hid hP
    clear ht hB hm hx hP H
    go_wp2_with fail
    go_loopw [3, 6] (fun lv i wr => ∃ (k : Nat) (xs : List ByteArray) (rest : List UInt8), k ≤ n ∧ i = .int .i64 k ∧ repP textP k r = .ok (xs, rest) ∧ wr.ownsRow w.heap.size 9 1 lv xs.length (scs xs) ∧ Blk wr x 70 #[.string (bstr rest)] ∧ Mod (fun i => i = x) w wr) (fun _ i _ => n - (intOf i).toNat)
    case atStart => exact ⟨0, [], r, Nat.zero_le _, rfl, rfl, ⟨rfl, .inl ⟨rfl, rfl⟩⟩, HB.out, HM.out⟩
    case round =>
      clear HB HM
      obtain ⟨k, xs, rest, hk, rfl, hR, hO, hB, hM⟩ := hrel
      have hxl := repP_len hR
      have hwz := hM.size
      obtain ⟨A, c, rfl, -, -⟩ := Own.rd (row_own hO)
      have HR := Lib.hid hR
      have HO := Lib.hid hO
      have HB := Lib.hid hB
      have HM := Lib.hid hM
      have HX := Lib.hid hxl
      have hxk : xs.length ≤ 4096 := by omega
      clear hR hO hB hM hxl
      by_cases hlt : k < n
      · go_wp2_with fail
        refine (text_in HB.out).mono ?_
        rintro e w3 ht
        cases hx : textP rest with
        | error y =>
          obtain ⟨rfl, hm⟩ := ht.err' hx
          have hr : listP l = .error y := by rw [HP.out]; exact repP_stop HR.out hx hlt
          exact ⟨rfl, mod_trans HM.out hm, by rw [hr]⟩
        | ok v =>
          obtain ⟨s, q⟩ := v
          obtain ⟨v, rfl, rfl, hB, hm⟩ := ht.ok' hx
          have hO3 : w3.ownsRow w.heap.size 9 1 (.slice A xs.length c) xs.length (scs xs) := row_keep HO.out fun b e => hm.block b ((row_own HO.out).lt e) fun e' => own_blk_ne (row_own HO.out) HB.out (by decide) (e' ▸ e)
          have hS := repP_snoc HR.out hx
          have HO3 := Lib.hid hO3
          have HB3 := Lib.hid hB
          have HM3 := Lib.hid (mod_trans HM.out hm)
          have HS := Lib.hid hS
          have hwz3 := (mod_trans HM.out hm).size
          clear ht hB hm hx hO3 hS HO HB HM HR
          go_wp2_with (at_builtin; refine wpList_append_own _ rfl (.tmp 8) (.tmp 11) 45 rfl w.heap.size 9 i0 _ 1 16 Tryd.underlying45 HI.out.1 HI.out.2.1 HI.out.2.2.1 HI.out.2.2.2 rfl (by decide) (.slice A xs.length c) xs.length (scs xs) rfl (by exact row_new HO3.out (by repeat (first | exact Below.refl _ _ | assumption | refine Below.setCell ?_ (by first | (simp; done) | (simp; omega) | omega) _ | refine below_drewN ?_ _ | refine Below.drew ?_ | refine Below.alloc ?_ (by first | (simp; done) | (simp; omega) | omega) _))) ⟨w3.heap.size, 0, none⟩ 1 1 (scs [s]) rfl rfl (by exact one_cell w3 9 (.string s)) (scs_oneCell _) (by simp only [maxLen]; omega) (by omega) (by simp; omega) ?_; intro v6 w6 ho6 hg6 _; obtain ⟨h61, h62⟩ := grown_in HM3.out HB3.out HO3.out (by decide) (by repeat (first | exact Below.refl _ _ | assumption | refine Below.setCell ?_ (by first | (simp; done) | (simp; omega) | omega) _ | refine below_drewN ?_ _ | refine Below.drew ?_ | refine Below.alloc ?_ (by first | (simp; done) | (simp; omega) | omega) _)) hg6; have HO6 := Lib.hid ho6; have HB6 := Lib.hid h61; have HM6 := Lib.hid h62; clear ho6 hg6 h61 h62)
          go_roundw
          case rel => exact ⟨k + 1, xs ++ [s], q, by omega, by go_num, HS.out, by rw [List.length_append, scs_append]; exact HO6.out, HB6.out, HM6.out⟩
          case measure => simp [intOf]; omega
      · obtain rfl : k = n := by omega
        go_wp2
        go_ret
        refine ⟨HM.out, ?_⟩
        rw [HP.out, HR.out]
        exact ⟨⟨_, rfl, row_own HO.out⟩, HB.out⟩
end Go.Proofs.YtcfelfhjhkenaaaDoor
