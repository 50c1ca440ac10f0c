/- Gone and Round: the walks. -/
import Derived.Test.YtbfjkjkanckcjaaSml
import Derived.Test.YtbfjkjkanckcjaaLin2
namespace Go.Proofs.Ytbfjkjkanckcjaa
open Go.RowKit Go.Shelf

def bcs (l : List Bool) : List Value := l.map Value.bool
/-- The slice reads as marks. -/
def RdB (w : World) (A : Option Addr) (n c : Nat) (bs : List Bool) : Prop := bs.length = n ∧ Rd w A n c 1 (bcs bs)
def OwnB (w : World) (v : Value) (bs : List Bool) : Prop := Own w 4 1 v bs.length (bcs bs)
structure NewB (w wr : World) (v : Value) (bs : List Bool) : Prop where
  own : OwnB wr v bs
  new : ∀ b, v.ownBlock = some b → w.heap.size ≤ b
  bel : Below w.heap.size w wr
section
variable {w wr w' : World} {A : Option Addr} {n c : Nat} {v : Value} {bs : List Bool}
theorem RdB.new (h : RdB w A n c bs) (hb : Below w.heap.size w w') : RdB w' A n c bs := ⟨h.1, h.2.new hb⟩
theorem RdB.le (h : RdB w A n c bs) : n ≤ 9223372036854775807 := h.2.le
theorem RdB.at_ (h : RdB w A n c bs) {i : Nat} (hi : i < n) : ∃ b o, A = some ⟨b, o, none⟩ ∧ b < w.heap.size ∧ w.cell? ⟨b, o + i, none⟩ = some (.bool (bs[i]'(by rw [h.1]; exact hi))) := by
  obtain ⟨hl, _, _, _, hc⟩ := h
  obtain ⟨b, o, rfl, hb, hc⟩ := hc (by omega)
  exact ⟨b, o, rfl, hb, hc _ _ (by simp [bcs, hl, hi])⟩
theorem NewB.below (h : NewB w wr v bs) (hb : Below wr.heap.size wr w') : NewB w w' v bs := ⟨Own.new h.own hb, h.new, h.bel.trans (hb.mono h.bel.size)⟩
theorem NewB.rdL (h : NewB w wr v bs) : ∃ A c, v = .slice A bs.length c ∧ RdB wr A bs.length c bs := by
  obtain ⟨A, c, e, h1, _⟩ := Own.rd h.own
  exact ⟨A, c, e, rfl, h1⟩
end

set_option maxHeartbeats 400000 in
theorem gone_any (A B : Option Addr) (n c m d : Nat) (xs : List Int) (bs : List Bool) (x : Int) (w : World) (hA : RdI w A n c xs) (hB : RdB w B m d bs) (hm : m = n) :
    Calls Try.prog 34 #[.slice A n c, .slice B m d, .int .i64 x] w fun e w' => e = .returned (.bool (Lin.gone xs bs x)) ∧ w' = w := by
  subst hm
  have hn := hA.le
  have lA := hA.1
  have lB := hB.1
  go_enter Try.func34, Try.ntmps34
  go_wp2_with fail
  go_loop [7] (fun i => ∃ k : Nat, k ≤ m ∧ i = .int .i64 k ∧ Hid (Lin.gone (xs.drop k) (bs.drop k) x = Lin.gone xs bs x)) (fun i => m - (intOf i).toNat)
  case atStart => exact ⟨0, Nat.zero_le _, rfl, rfl⟩
  case round =>
    obtain ⟨k, hk, rfl, hno⟩ := hrel
    by_cases hlt : k < m
    · obtain ⟨b, o, rfl, hb, h0⟩ := hA.at_ hlt
      obtain ⟨b', o', rfl, hb', h0'⟩ := hB.at_ hlt
      have hx : k < xs.length := by omega
      have hy : k < bs.length := by omega
      have hst := hno.out
      rw [List.drop_eq_getElem_cons hx, List.drop_eq_getElem_cons hy, Lin.gone] at hst
      by_cases e : xs[k] = x
      · have hb : (xs[k] == x) = true := by simpa using e
        rw [if_pos e] at hst
        have HST := Lib.hid (show bs[k] = Lin.gone xs bs x from hst)
        have E := Lib.hid e
        clear e hst
        go_wp2
        go_ret
        exact ⟨ret_bool HST.out, rfl⟩
      · have hb : (xs[k] == x) = false := by simpa using e
        rw [if_neg e, List.tail_cons] at hst
        have HST := Lib.hid hst
        have E := Lib.hid e
        clear e hst
        go_wp2
        go_round
        case rel => exact ⟨k + 1, by omega, by go_num, HST⟩
        case measure => simp [intOf]; omega
    · have HF : Hid (Lin.gone xs bs x = true) := by
        have := hno.out
        rw [List.drop_eq_nil_of_le (by omega : xs.length ≤ k)] at this
        exact this.symm
      go_wp2
      go_ret
      exact ⟨ret_bool HF.out.symm, rfl⟩

theorem gone_is {A B : Option Addr} {n c m d : Nat} {xs : List Int} {bs : List Bool} {x : Int} {w : World} {b : Bool} (hA : RdI w A n c xs) (hB : RdB w B m d bs) (hm : m = n) (h : Lin.gone xs bs x = b) :
    Calls Try.prog 34 #[.slice A n c, .slice B m d, .int .i64 x] w fun e w' => e = .returned (.bool b) ∧ w' = w := by
  rw [← h]
  exact gone_any A B n c m d xs bs x w hA hB hm
theorem keeps_is {A B : Option Addr} {n c m d : Nat} {xs ys : List Int} {w : World} {b : Bool} (hA : RdI w A n c xs) (hB : RdI w B m d ys) (h : keepI xs ys = b) :
    Calls Try.prog 25 #[.slice A n c, .slice B m d] w fun e w' => e = .returned (.bool b) ∧ ∃ q, w' = w.drewN q := by
  rw [← h]
  exact keeps_any A B n c m d xs ys w hA hB
theorem keep_one (l : List Int) (x : Int) : keepI l [x] = hasI l x := by
  rw [Bool.eq_iff_iff, keepI_iff, hasI_iff, List.singleton_sublist]
/-- one number of a row, as a row -/
theorem RdI.one {w : World} {b o n c : Nat} {xs : List Int} (h : RdI w (some ⟨b, o, none⟩) n c xs) {k : Nat} (hk : k < n) : RdI w (some ⟨b, o + k, none⟩) 1 (c - k) [xs[k]'(by rw [h.1]; exact hk)] := by
  have hx : k < xs.length := by rw [h.1]; exact hk
  have h1 := h.hi (k := k) (by omega) (A' := some ⟨b, o + k, none⟩) (fun _ => by
    simp only [Option.map_some, Addr.add, Nat.mul_one]
    split
    · simp_all
    · rfl)
  have h2 := h1.lo (k := 1) (by omega)
  have e : (xs.drop k).take 1 = [xs[k]] := by rw [List.drop_eq_getElem_cons hx]; rfl
  rwa [e] at h2
/-- the two rows of Round -/
structure QSt (w wr : World) (vl vg : Value) (l : List Int) (g : List Bool) : Prop where
  i : NewI 2 w wr vl l
  b : NewB w wr vg g
theorem QSt.below {w wr w' : World} {vl vg : Value} {l : List Int} {g : List Bool} (h : QSt w wr vl vg l g) (hb : Below wr.heap.size wr w') : QSt w w' vl vg l g := ⟨h.i.below hb, h.b.below hb⟩
theorem QSt.put {w wr : World} {vl : Value} {b n c : Nat} {l : List Int} {g : List Bool} (h : QSt w wr vl (.slice (some ⟨b, 0, none⟩) n c) l g) (hn : g.length = n) {k : Nat} (hk : k < n) (a : Bool) :
    wr.cell? ⟨b, k, none⟩ = some (.bool (g[k]'(by omega))) ∧ wr.frozen? ⟨b, k, none⟩ = false ∧ QSt w (wr.setCell ⟨b, k, none⟩ (.bool a)) vl (.slice (some ⟨b, 0, none⟩) n c) l (g.set k a) := by
  have ha : Own wr 4 1 (.slice (some ⟨b, 0, none⟩) n c) n (bcs g) := by
    have := h.b.own
    unfold OwnB at this
    rwa [hn] at this
  obtain ⟨h1, h2, h3⟩ := ha.set_ (j := k) (by omega) (.bool a)
  have hb : w.heap.size ≤ b := h.b.new b rfl
  have hbel : Below w.heap.size w (wr.setCell ⟨b, k, none⟩ (.bool a)) := h.b.bel.setCell (by simpa using hb) _
  refine ⟨?_, h2, ⟨?_, h.i.new, hbel⟩, ⟨?_, h.b.new, hbel⟩⟩
  · rw [h1]
    simp [bcs, hn, hk]
  · refine Own.keep h.i.own fun b' e => Below.heap_setCell wr _ _ b' ?_
    rintro rfl
    exact own_own_ne h.i.own h.b.own (by decide) e rfl
  · unfold OwnB
    have e : bcs (g.set k a) = (bcs g).set k (.bool a) := by simp [bcs, List.map_set]
    rw [e, List.length_set, hn]
    exact h3
theorem made_Bl (w : World) (n : Nat) (hn : n ≤ 1000000) : OwnB (w.alloc (.cells (List.replicate n (.bool false)).toArray 4)) (.slice (some ⟨w.heap.size, 0, none⟩) n n) (List.replicate n false) := by
  have := Own.made (sz := 1) (t := 4) w (List.replicate n (Value.bool false)).toArray n (by omega) (by simp)
  unfold OwnB
  rw [List.length_replicate]
  simpa [bcs] using this
def flatTo (rows : List (List Int)) (k : Nat) : List Int := (rows.take k).flatten
theorem flatTo_step {rows : List (List Int)} {k : Nat} {r : List Int} (h : rows[k]? = some r) : flatTo rows (k + 1) = flatTo rows k ++ r := by
  obtain ⟨hk, e⟩ := List.getElem?_eq_some_iff.1 h
  unfold flatTo
  rw [List.take_succ_eq_append_getElem hk, e, List.flatten_append]
  simp
theorem flatTo_all {rows : List (List Int)} {k : Nat} (h : rows.length ≤ k) : flatTo rows k = rows.flatten := by
  unfold flatTo
  rw [List.take_of_length_le h]
theorem flat_weight (rows : List (List Int)) : rows.flatten.length = Lin.weight rows := by simp [Lin.weight, List.length_flatten]
theorem flatTo_le (rows : List (List Int)) (k : Nat) : (flatTo rows k).length ≤ Lin.weight rows := by
  rw [← flat_weight]
  unfold flatTo
  have h : rows.flatten = (rows.take k).flatten ++ (rows.drop k).flatten := by rw [← List.flatten_append, List.take_append_drop]
  rw [h, List.length_append]
  omega
/-- the test of a pair -/
def pairOk (l : List Int) (g : List Bool) (x : Int) (p : Int × Int) : Bool := !(p.2 == x) || Lin.gone l g p.1
def firstRow (l : List Int) (g : List Bool) (x : Int) (r : List Int) : Bool := (r.zip r.tail).all (pairOk l g x)
theorem first_eq (rows : List (List Int)) (l : List Int) (g : List Bool) (x : Int) : Lin.first rows l g x = rows.all (firstRow l g x) := rfl
theorem all_take_succ {α : Type} {f : α → Bool} {xs : List α} {k : Nat} {a : α} (h : xs[k]? = some a) : (xs.take (k + 1)).all f = ((xs.take k).all f && f a) := by
  obtain ⟨hk, e⟩ := List.getElem?_eq_some_iff.1 h
  rw [List.take_succ_eq_append_getElem hk, e, List.all_append]
  simp
theorem zip_at {r : List Int} {k : Nat} (h : k + 1 < r.length) : (r.zip r.tail)[k]? = some (r[k], r[k + 1]) := by
  rw [List.getElem?_eq_getElem (by simp; omega)]
  simp

set_option maxRecDepth 100000 in
set_option maxHeartbeats 8000000 in
theorem round_any (A : Option Addr) (n c : Nat) (rs : List SlI) (w : World) (hR : RdR w A n c rs) (hok : AllOk w rs) (hn : n ≤ 1000) (hw : Lin.weight (nums rs) ≤ 1000000) :
    Calls Try.prog 26 #[.slice A n c] w fun e w' => e = .returned (.bool (Lin.round (nums rs))) ∧ Below w.heap.size w w' := by
  have hlr := hR.1
  have HW := Lib.hid hw
  have H0 := Lib.hid (show NewI 2 w (w.alloc (.cells #[] 2)) (.slice (some ⟨w.heap.size, 0, none⟩) 0 0) (Lin.collect (flatTo (nums rs) 0)) from NewI.empty 2 w)
  -- what a row reads as
  have hrow : ∀ (wr : World) (hb : Below w.heap.size w wr) (k : Nat) (hk : k < n), ∃ b o Ak nk ck xk, A = some ⟨b, o, none⟩ ∧ wr.cell? ⟨b, o + k, none⟩ = some (.slice Ak nk ck) ∧ RdI wr Ak nk ck xk ∧ (nums rs)[k]? = some xk := by
    intro wr hb k hk
    have hkr : k < rs.length := by omega
    obtain ⟨b, o, e, _, h1⟩ := (hR.new hb).at_ hk
    have h3 := (hok rs[k] (List.getElem_mem hkr)).new hb
    exact ⟨b, o, _, _, _, _, e, h1, h3, by simp [nums, hkr]⟩
  have HROW := Lib.hid hrow
  clear hrow hR hok hw
  go_enter Try.func26, Try.ntmps26
  go_wp2_with fail
  go_loopw [3, 4] (fun v3 i wr => ∃ k : Nat, k ≤ n ∧ i = .int .i64 k ∧ NewI 2 w wr v3 (Lin.collect (flatTo (nums rs) k))) (fun _ i _ => n - (intOf i).toNat)
  case atStart => exact ⟨0, Nat.zero_le _, rfl, H0.out⟩
  case round =>
    obtain ⟨k, hk, rfl, h3⟩ := hrel
    by_cases hlt : k < n
    · obtain ⟨b, o, Ak, nk, ck, xk, rfl, h1, hx, hnk⟩ := HROW.out wr h3.bel k hlt
      have HRK := Lib.hid (fun (w' : World) (hb : Below w.heap.size w w') => HROW.out w' hb k hlt)
      have hn1 := hx.le
      have hlx := hx.1
      have HNK := Lib.hid hnk
      have H3 := Lib.hid h3
      clear h3 hx hnk
      go_wp2_with fail
      obtain ⟨wo, rfl⟩ : ∃ wo : World, wo = wr := ⟨_, rfl⟩
      go_loopw [3, 5] (fun v3 i wr => ∃ q : Nat, q ≤ nk ∧ i = .int .i64 q ∧ NewI 2 w wr v3 (Lin.collect (flatTo (nums rs) k ++ xk.take q))) (fun _ i _ => nk - (intOf i).toNat)
      case atStart => exact ⟨0, Nat.zero_le _, rfl, by rw [List.take_zero, List.append_nil]; exact H3.out⟩
      case round =>
        obtain ⟨q, hq, rfl, h4⟩ := hrel
        obtain ⟨b', o', Ak', nk', ck', xk', e', g1, gx, gn⟩ := HRK.out wr h4.bel
        cases e'
        have ex : xk' = xk := by rw [HNK.out] at gn; exact (Option.some.inj gn).symm
        subst ex
        have en : nk' = nk := by rw [← gx.1, hlx]
        subst en
        have hll : (Lin.collect (flatTo (nums rs) k ++ xk'.take q)).length ≤ 2000000 := by
          have h1 := Lin.collect_length (flatTo (nums rs) k ++ xk'.take q)
          have h2 := flatTo_le (nums rs) k
          have h3 := HW.out
          have h4 := flatTo_le (nums rs) (k + 1)
          rw [flatTo_step HNK.out] at h4
          simp only [List.length_append, List.length_take] at h1 h4
          omega
        by_cases hlq : q < nk'
        · have hxq : q < xk'.length := by rw [gx.1]; exact hlq
          have hone := gx
          obtain ⟨bx, ox, rfl, hbx, hx0⟩ := gx.at_ hlq
          have hone := hone.one hlq
          have hst := Lin.collect_snoc (flatTo (nums rs) k ++ xk'.take q) xk'[q]
          rw [List.append_assoc, ← List.take_succ_eq_append_getElem hxq] at hst
          generalize xk'[q] = x at *
          generalize Lin.collect (flatTo (nums rs) k ++ xk'.take q) = L at *
          have hcq : q + 1 ≤ ck' := by have := gx.2.1; omega
          have hcne : ck' ≠ q := by omega
          have hc9 := gx.2.2.1
          obtain ⟨A3, c3, rfl, hr3, _⟩ := OwnI.rdL h4.own
          have HR3 := Lib.hid hr3
          have HONE := Lib.hid hone
          have H4 := Lib.hid h4
          unfold Lin.addOne at hst
          have i0 : (0 : Int) ≤ (q : Int) := by omega
          have i1 : (q : Int) + 1 ≤ (ck' : Int) := by omega
          cases hh : hasI L x
          · have hst : Lin.collect (flatTo (nums rs) k ++ xk'.take (q + 1)) = L ++ [x] := by rw [hst, if_neg (by have h2 : L.contains x = false := hh; rw [h2]; decide)]
            have HST := Lib.hid hst
            have HK := Lib.hid ((keep_one L x).trans hh)
            clear hst hh hr3 hone h4 gn gx
            go_wp2_with fail
            (with_reducible refine (keeps_is HR3.out HONE.out HK.out).mono ?_)
            rintro e w5 ⟨rfl, q5, rfl⟩
            have h5 := H4.out.below (below_drewN (Below.refl wr.heap.size wr) q5)
            have g5 : (wr.drewN q5).cell? ⟨b, o + k, none⟩ = some (.slice (some ⟨bx, ox, none⟩) nk' ck') := g1
            have x5 : (wr.drewN q5).cell? ⟨bx, ox + q, none⟩ = some (.int .i64 x) := hx0
            generalize wr.drewN q5 = w5 at *
            have hb6 : Below w5.heap.size w5 (w5.alloc (.cells #[.int .i64 x] 2)) := (by repeat (first | exact Below.refl _ _ | assumption | refine Below.setCell ?_ (by first | (simp; done) | (simp; omega) | omega) _ | refine below_drewN ?_ _ | refine Below.drew ?_ | refine Below.alloc ?_ (by first | (simp; done) | (simp; omega) | omega) _))
            have H6 := Lib.hid (h5.below hb6)
            clear h5 hb6
            go_wp2_with (at_builtin; refine wpList_appendI _ rfl (.tmp 40) (.tmp 48) rfl (.slice A3 L.length c3) L rfl H6.out.own (some ⟨w5.heap.size, 0, none⟩) 1 1 [x] rfl (one_rdI w5 2 x) (by omega) ?_; intro v6 w6 hv6 hg6 ha6; have h16 := H6.out.app hv6 hg6 ha6; have H16 := Lib.hid h16; clear hv6 hg6 ha6 h16)
            go_roundw
            case rel => exact ⟨q + 1, by omega, by go_num, by rw [HST.out]; exact H16.out⟩
            case measure => simp [intOf]; omega
          · have hst : Lin.collect (flatTo (nums rs) k ++ xk'.take (q + 1)) = L := by rw [hst, if_pos (show L.contains x = true from hh)]
            have HST := Lib.hid hst
            have HK := Lib.hid ((keep_one L x).trans hh)
            clear hst hh hr3 hone h4 gn gx
            go_wp2_with fail
            (with_reducible refine (keeps_is HR3.out HONE.out HK.out).mono ?_)
            rintro e w5 ⟨rfl, q5, rfl⟩
            go_wp2_with fail
            go_roundw
            case rel => exact ⟨q + 1, by omega, by go_num, by rw [HST.out]; exact H4.out.below (below_drewN (Below.refl wr.heap.size wr) q5)⟩
            case measure => simp [intOf]; omega
        · obtain rfl : q = nk' := by omega
          rw [List.take_of_length_le (by rw [hlx]; exact Nat.le_refl _), ← flatTo_step HNK.out] at h4
          have H4 := Lib.hid h4
          clear h4 gx gn
          go_wp2_with fail
          go_roundw
          case rel => exact ⟨k + 1, by omega, by go_num, H4.out⟩
          case measure => simp [intOf]; omega
    · obtain rfl : n = k := by omega
      rw [flatTo_all (by rw [nums_length]; omega)] at h3
      have hLl := Lin.collect_length (nums rs).flatten
      rw [flat_weight] at hLl
      have hL9 : (Lin.collect (nums rs).flatten).length ≤ 1000000 := Nat.le_trans hLl HW.out
      generalize hL : Lin.collect (nums rs).flatten = L at *
      have HL := Lib.hid hL
      clear hL hLl
      obtain ⟨A3, c3, rfl, hr3, _⟩ := OwnI.rdL h3.own
      have hmk := make_B L.length hL9
      have hbg : Below wr.heap.size wr (wr.alloc (.cells (List.replicate L.length (.bool false)).toArray 4)) := (by repeat (first | exact Below.refl _ _ | assumption | refine Below.setCell ?_ (by first | (simp; done) | (simp; omega) | omega) _ | refine below_drewN ?_ _ | refine Below.drew ?_ | refine Below.alloc ?_ (by first | (simp; done) | (simp; omega) | omega) _))
      have hq0 : QSt w (wr.alloc (.cells (List.replicate L.length (.bool false)).toArray 4)) (.slice A3 L.length c3) (.slice (some ⟨wr.heap.size, 0, none⟩) L.length L.length) L (Lin.turns (nums rs) L 0) :=
        ⟨h3.below hbg, ⟨made_Bl wr L.length hL9, fun b e => by have := h3.bel.size; simp [Value.ownBlock] at e; omega, h3.bel.trans (hbg.mono h3.bel.size)⟩⟩
      have hE : (List.replicate L.length (Value.bool false)).toArray = Array.replicate L.length (Value.bool false) := by simp
      rw [hE] at hq0
      have HQ0 := Lib.hid hq0
      clear h3 hr3 hbg hq0 hE
      go_wp2_with fail
      clear hmk
      generalize wr.heap.size = bg at *
      generalize wr.alloc (.cells (Array.replicate L.length (.bool false)) 4) = W0 at *
      go_loopw [7] (fun i wr => ∃ t : Nat, t ≤ L.length ∧ i = .int .i64 t ∧ QSt w wr (.slice A3 L.length c3) (.slice (some ⟨bg, 0, none⟩) L.length L.length) L (Lin.turns (nums rs) L t)) (fun i _ => L.length - (intOf i).toNat)
      case atStart => exact ⟨0, Nat.zero_le _, rfl, HQ0.out⟩
      case round =>
        obtain ⟨t, ht, rfl, hqt⟩ := hrel
        by_cases hlt : t < L.length
        · have HQT := Lib.hid hqt
          clear hqt
          go_wp2_with fail
          obtain ⟨wo, rfl⟩ : ∃ wo : World, wo = wr := ⟨_, rfl⟩
          go_loopw [8] (fun i wr => ∃ j : Nat, j ≤ L.length ∧ i = .int .i64 j ∧ QSt w wr (.slice A3 L.length c3) (.slice (some ⟨bg, 0, none⟩) L.length L.length) L (Lin.sweep (nums rs) L (Lin.turns (nums rs) L t) j)) (fun i _ => L.length - (intOf i).toNat)
          case atStart => exact ⟨0, Nat.zero_le _, rfl, HQT.out⟩
          case round =>
            obtain ⟨j, hj, rfl, hqj⟩ := hrel
            by_cases hltj : j < L.length
            · obtain ⟨Wj, rfl⟩ : ∃ Wj : World, Wj = wr := ⟨_, rfl⟩
              have hgl : (Lin.sweep (nums rs) L (Lin.turns (nums rs) L t) j).length = L.length := by rw [Lin.sweep_length, Lin.turns_length]
              have hnext : Lin.sweep (nums rs) L (Lin.turns (nums rs) L t) (j + 1) = (Lin.sweep (nums rs) L (Lin.turns (nums rs) L t) j).set j ((Lin.sweep (nums rs) L (Lin.turns (nums rs) L t) j).getD j false || Lin.first (nums rs) L (Lin.sweep (nums rs) L (Lin.turns (nums rs) L t) j) (L.getD j 0)) := rfl
              generalize Lin.sweep (nums rs) L (Lin.turns (nums rs) L t) j = g at *
              have hx0 : L.getD j 0 = L[j] := by rw [List.getD_eq_getElem?_getD, List.getElem?_eq_getElem hltj, Option.getD_some]
              have hg0 : g.getD j false = g[j]'(by omega) := by rw [List.getD_eq_getElem?_getD, List.getElem?_eq_getElem (by omega), Option.getD_some]
              rw [hx0, hg0] at hnext
              obtain ⟨A3', c3', e3, hr3, _⟩ := OwnI.rdL hqj.i.own
              cases e3
              have hrl := hr3
              obtain ⟨bl, ol, rfl, hbl, hxj⟩ := hr3.at_ hltj
              have hput := fun a => hqj.put hgl hltj a
              have hgj := (hput true).1
              have hgf := (hput true).2.1
              have hrb : RdB Wj (some ⟨bg, 0, none⟩) L.length L.length g := by
                obtain ⟨_, _, e, h⟩ := hqj.b.rdL
                injection e with e1 _ e3
                subst e1 e3
                rwa [hgl] at h
              generalize L[j] = x at *
              generalize g[j]'_ = gj at *
              have HNX := Lib.hid hnext
              have HPUT := Lib.hid (fun a => (hput a).2.2)
              have HQJ := Lib.hid hqj
              have HGL := Lib.hid hgl
              have HRL := Lib.hid (fun q => hrl.new (below_drewN (Below.refl Wj.heap.size Wj) q))
              have HRB := Lib.hid (fun q => hrb.new (below_drewN (Below.refl Wj.heap.size Wj) q))
              clear hnext hx0 hg0 hr3 hrl hrb hput hqj hgl
              go_wp2_with fail
              go_loopw [9, 10] (fun f i wr => ∃ (k : Nat) (fb : Bool), k ≤ n ∧ i = .int .i64 k ∧ (∃ q, wr = Wj.drewN q) ∧ f = .bool fb ∧ Hid (((nums rs).take k).all (firstRow L g x) = fb)) (fun _ i _ => n - (intOf i).toNat)
              case atStart => exact ⟨0, true, Nat.zero_le _, rfl, ⟨0, rfl⟩, rfl, rfl⟩
              case round =>
                obtain ⟨k, fb, hk, rfl, ⟨q, rfl⟩, rfl, hfb⟩ := hrel
                by_cases hltk : k < n
                · obtain ⟨b, o, Ak, nk, ck, xk, rfl, h1, hx, hnk⟩ := HROW.out Wj HQJ.out.i.bel k hltk
                  have hn1 := hx.le
                  have hlx := hx.1
                  have hrow := all_take_succ (f := firstRow L g x) hnk
                  rw [hfb.out] at hrow
                  have HRO := Lib.hid hrow
                  have HX := Lib.hid hx
                  clear hrow hx hnk
                  go_wp2_with fail
                  go_loopw [9, 11] (fun f i wr => ∃ (m : Nat) (fc : Bool), 1 ≤ m ∧ (m ≤ nk ∨ m = 1) ∧ i = .int .i64 m ∧ (∃ q, wr = Wj.drewN q) ∧ f = .bool fc ∧ Hid ((fb && ((xk.zip xk.tail).take (m - 1)).all (pairOk L g x)) = fc)) (fun _ i _ => nk + 1 - (intOf i).toNat)
                  case atStart => exact ⟨1, fb, Nat.le_refl _, .inr rfl, rfl, ⟨_, rfl⟩, rfl, by simp [Hid]⟩
                  case round =>
                    obtain ⟨m, fc, hm1, hm2, rfl, ⟨q2, rfl⟩, rfl, hfc⟩ := hrel
                    by_cases hltm : m < nk
                    · obtain ⟨bx, ox, rfl, hbx, hxm⟩ := HX.out.at_ hltm
                      obtain ⟨_, _, e, _, hxp⟩ := HX.out.at_ (show m - 1 < nk by omega)
                      cases e
                      have hzip := zip_at (r := xk) (k := m - 1) (by omega)
                      have hstep := all_take_succ (f := pairOk L g x) hzip
                      have hm1' : m - 1 + 1 = m := by omega
                      simp only [hm1'] at hstep
                      have hgo := hfc.out
                      generalize xk[m]'_ = y at *
                      generalize xk[m - 1]'_ = z at *
                      have hw1 : IntKind.i64.wrap ((m : Int) - 1) = ((m - 1 : Nat) : Int) := by
                        rw [show (m : Int) - 1 = ((m - 1 : Nat) : Int) from by omega]
                        exact IntWalk.i64_in _ (by omega)
                      have HS := Lib.hid hstep
                      clear hzip hstep hgo hm1'
                      by_cases hyx : y = x
                      · subst hyx
                        cases hg : Lin.gone L g z
                        · have HG := Lib.hid hg
                          clear hg
                          go_wp2_with fail
                          go_quiet ((go_at_call 34; exact quiet_sum (gone_is (HRL.out _) (HRB.out _) rfl HG.out)))
                          go_wp2_with fail
                          go_roundw
                          case rel => exact ⟨m + 1, false, by omega, .inl (by omega), by go_num, ⟨_, rfl⟩, rfl, by unfold Hid; rw [Nat.add_sub_cancel, HS.out]; simp [pairOk, HG.out]⟩
                          case measure => simp [intOf]; omega
                        · have HG := Lib.hid hg
                          clear hg
                          go_wp2_with fail
                          go_quiet ((go_at_call 34; exact quiet_sum (gone_is (HRL.out _) (HRB.out _) rfl HG.out)))
                          go_wp2_with fail
                          go_roundw
                          case rel => exact ⟨m + 1, fc, by omega, .inl (by omega), by go_num, ⟨_, rfl⟩, rfl, by unfold Hid; rw [Nat.add_sub_cancel, HS.out, ← hfc.out]; simp [pairOk, HG.out]⟩
                          case measure => simp [intOf]; omega
                      · have hb : (y == x) = false := by simpa using hyx
                        have HY := Lib.hid hyx
                        clear hyx
                        go_wp2_with fail
                        go_quiet (fail)
                        go_wp2_with fail
                        go_roundw
                        case rel => exact ⟨m + 1, fc, by omega, .inl (by omega), by go_num, ⟨_, rfl⟩, rfl, by unfold Hid; rw [Nat.add_sub_cancel, HS.out, ← hfc.out]; simp [pairOk, show (y == x) = false by simpa using HY.out]⟩
                        case measure => simp [intOf]; omega
                    · have hall : (fb && firstRow L g x xk) = fc := by
                        have h := hfc.out
                        rw [List.take_of_length_le (by simp; omega)] at h
                        exact h
                      have HALL := Lib.hid hall
                      clear hall
                      go_wp2_with fail
                      go_roundw
                      case rel => exact ⟨k + 1, fc, by omega, by go_num, ⟨_, rfl⟩, rfl, by unfold Hid; rw [HRO.out]; exact HALL.out⟩
                      case measure => simp [intOf]; omega
                · obtain rfl : k = n := by omega
                  have hfirst : Lin.first (nums rs) L g x = fb := by
                    have h := hfb.out
                    rw [List.take_of_length_le (by rw [nums_length]; omega)] at h
                    exact h
                  have hnx := HNX.out
                  rw [hfirst] at hnx
                  have HNX := Lib.hid hnx
                  clear hfirst hnx
                  cases gj
                  all_goals
                    go_wp2_with fail
                    go_roundw
                    case rel => exact ⟨j + 1, by omega, by go_num, by rw [HNX.out]; exact (HPUT.out _).below (below_drewN (Below.refl _ _) _)⟩
                    case measure => simp [intOf]; omega
            · obtain rfl : j = L.length := by omega
              have HQJ := Lib.hid hqj
              clear hqj
              go_wp2_with fail
              go_roundw
              case rel => exact ⟨t + 1, by omega, by go_num, HQJ.out⟩
              case measure => simp [intOf]; omega
        · obtain rfl : t = L.length := by omega
          have hgl := Lin.turns_length (nums rs) L L.length
          have hrd : Lin.round (nums rs) = !((Lin.turns (nums rs) L L.length).all id) := by
            unfold Lin.round
            rw [HL.out]
          generalize Lin.turns (nums rs) L L.length = g at *
          have hrb : RdB wr (some ⟨bg, 0, none⟩) L.length L.length g := by
            obtain ⟨_, _, e, h⟩ := hqt.b.rdL
            injection e with e1 _ e3
            subst e1 e3
            rwa [hgl] at h
          have HRD := Lib.hid hrd
          have HRB := Lib.hid hrb
          have HBL := Lib.hid hqt.i.bel
          have HGL := Lib.hid hgl
          clear hrd hrb hqt hgl
          go_wp2_with fail
          obtain ⟨wo, rfl⟩ : ∃ wo : World, wo = wr := ⟨_, rfl⟩
          go_loop [12] (fun i => ∃ k : Nat, k ≤ L.length ∧ i = .int .i64 k ∧ Hid ((g.take k).all id = true)) (fun i => L.length - (intOf i).toNat)
          case atStart => exact ⟨0, Nat.zero_le _, rfl, rfl⟩
          case round =>
            obtain ⟨k, hk, rfl, hal⟩ := hrel
            by_cases hltk : k < L.length
            · obtain ⟨b', o', e, hb', hgk⟩ := HRB.out.at_ hltk
              cases e
              have hkg : k < g.length := by rw [HGL.out]; exact hltk
              have hst := all_take_succ (f := id) (List.getElem?_eq_getElem hkg)
              have hmem : g[k] ∈ g := List.getElem_mem hkg
              rw [hal.out] at hst
              rw [Nat.zero_add] at hgk
              generalize g[k] = gk at *
              cases gk
              · have hrt : Lin.round (nums rs) = true := by
                  rw [HRD.out, show g.all id = false from List.all_eq_false.2 ⟨false, hmem, by simp⟩]
                  rfl
                have HRT := Lib.hid hrt
                clear hst hmem hrt
                go_wp2_with fail
                go_ret
                exact ⟨ret_bool HRT.out.symm, HBL.out⟩
              · have HST := Lib.hid hst
                clear hst hmem
                go_wp2_with fail
                go_round
                case rel => exact ⟨k + 1, by omega, by go_num, HST.out⟩
                case measure => simp [intOf]; omega
            · have hrt : Lin.round (nums rs) = false := by
                have h := hal.out
                rw [List.take_of_length_le (by rw [HGL.out]; omega)] at h
                rw [HRD.out, h]
                rfl
              have HRT := Lib.hid hrt
              clear hrt
              go_wp2_with fail
              go_ret
              exact ⟨ret_bool HRT.out.symm, HBL.out⟩
end Go.Proofs.Ytbfjkjkanckcjaa
