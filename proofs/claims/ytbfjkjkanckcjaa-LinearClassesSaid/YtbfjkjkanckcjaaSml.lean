/- wide, the reference's Order, shown. -/
import Derived.Test.YtbfjkjkanckcjaaCut
namespace Go.Proofs.Ytbfjkjkanckcjaa
open Go.RowKit Go.Shelf

set_option maxHeartbeats 400000 in
theorem wide_any (A : Option Addr) (n c : Nat) (xs : List Int) (w : World) (hA : RdI w A n c xs) (hn : n ≤ 1000000) :
    Calls Try.prog 24 #[.slice A n c] w fun e w' => ∃ v, e = .returned v ∧ NewI 2 w w' v xs := by
  have hlr := hA.1
  have HA := Lib.hid hA
  have H0 := Lib.hid (NewI.empty 2 w)
  clear hA
  go_enter Try.func24, Try.ntmps24
  go_wp2_with fail
  go_loopw [3, 4] (fun v i wr => ∃ k : Nat, k ≤ n ∧ i = .int .i64 k ∧ NewI 2 w wr v (xs.take k)) (fun _ i _ => n - (intOf i).toNat)
  case atStart => exact ⟨0, Nat.zero_le _, rfl, H0.out⟩
  case round =>
    obtain ⟨k, hk, rfl, h3⟩ := hrel
    by_cases hlt : k < n
    · obtain ⟨b, o, rfl, hb, hx⟩ := (HA.out.new h3.bel).at_ hlt
      have htk := List.take_succ_eq_append_getElem (show k < xs.length by omega)
      generalize xs[k] = x at *
      have HTK := Lib.hid htk
      have HXK : (xs.take k).length ≤ 1000000 := by rw [List.length_take]; omega
      have hbq : Below wr.heap.size wr (wr.alloc (.cells #[.int .i64 x] 2)) := (by repeat (first | exact Below.refl _ _ | assumption | refine Below.setCell ?_ (by first | (simp; done) | (simp; omega) | omega) _ | refine below_drewN ?_ _ | refine Below.drew ?_ | refine Below.alloc ?_ (by first | (simp; done) | (simp; omega) | omega) _))
      have HO := Lib.hid (h3.below hbq)
      clear htk h3 hbq
      go_wp2_with (at_builtin; refine wpList_appendI _ rfl (.tmp 12) (.tmp 17) rfl u3 (xs.take k) rfl HO.out.own (some ⟨wr.heap.size, 0, none⟩) 1 1 [x] rfl (one_rdI wr 2 x) (by omega) ?_; intro v6 w6 hv6 hg6 ha6; have h16 := HO.out.app hv6 hg6 ha6; have H16 := Lib.hid h16; clear hv6 hg6 ha6 h16)
      go_roundw
      case rel => exact ⟨k + 1, by omega, by go_num, by rw [HTK.out]; exact H16.out⟩
      case measure => simp [intOf]; omega
    · obtain rfl : k = n := by omega
      rw [List.take_of_length_le (by omega)] at h3
      have H3 := Lib.hid h3
      clear h3
      go_wp2_with fail
      go_ret
      exact ⟨_, rfl, H3.out⟩

theorem NewI.base {t : TypeId} {w w' wr : World} {v : Value} {xs : List Int} (h : NewI t w' wr v xs) (hb : Below w.heap.size w w') : NewI t w wr v xs := ⟨h.own, fun b e => Nat.le_trans hb.size (h.new b e), hb.trans (h.bel.mono hb.size)⟩
theorem order_none_merge {x : Int} {bs : List Int} {rows : List (List Int)} (h : Lin.merge (rows ++ [bs]) = none) : Lin.order x bs rows = none := by simp [Lin.order, h]
theorem order_of_merge {x : Int} {bs l : List Int} {rows : List (List Int)} (h : Lin.merge (rows ++ [bs]) = some l) : Lin.order x bs rows = if hasI l x then none else some (x :: l) := by simp [Lin.order, h, hasI]

set_option maxRecDepth 100000 in
set_option maxHeartbeats 2000000 in
theorem rorder_any (x : Int) (B : Option Addr) (nb cb : Nat) (bs : List Int) (A : Option Addr) (m c : Nat) (rs : List SlI) (w : World) (hB : RdI w B nb cb bs) (hR : RdR w A m c rs) (hok : AllOk w rs)
    (hm : m ≤ 900) (hw : Lin.weight (nums rs) + nb ≤ 1000000) :
    Calls Try.prog 20 #[.int .i64 x, .slice B nb cb, .slice A m c] w (MergeEnd w (Lin.order x bs (nums rs))) := by
  have h0 := NewR.empty 25 w
  have hR1 := hR.new h0.bel
  have H0 := Lib.hid h0
  have HR1 := Lib.hid hR1
  have hlr := hR.1
  have hlb := hB.1
  have HB := Lib.hid hB
  have HOK := Lib.hid hok
  clear hR hB hok h0 hR1
  go_enter Try.func20, Try.ntmps20
  go_wp2_with (first | (at_builtin; refine wpList_appendR _ rfl (.tmp 13) (.tmp 14) rfl (.slice (some ⟨w.heap.size, 0, none⟩) 0 0) [] rfl H0.out.own A m c rs rfl HR1.out (by simp only [List.length_nil]; omega) ?_; intro v1 w1 hv1 hg1 ha1; have h1 := H0.out.app hv1 hg1 ha1; have hb1 : Below w1.heap.size w1 (w1.alloc (.cells #[.slice B nb cb] 25)) := (by repeat (first | exact Below.refl _ _ | assumption | refine Below.setCell ?_ (by first | (simp; done) | (simp; omega) | omega) _ | refine below_drewN ?_ _ | refine Below.drew ?_ | refine Below.alloc ?_ (by first | (simp; done) | (simp; omega) | omega) _)); have H1 := Lib.hid (h1.below hb1); clear hv1 hg1 ha1 h1 hb1) | (at_builtin; refine wpList_appendR _ rfl (.tmp 15) (.tmp 17) rfl v1 ([] ++ rs) rfl H1.out.own (some ⟨w1.heap.size, 0, none⟩) 1 1 [⟨B, nb, cb, bs⟩] rfl (one_rdR w1 25 ⟨B, nb, cb, bs⟩) (by simp only [List.nil_append]; omega) ?_; intro v2 w2 hv2 hg2 ha2; have h2 := H1.out.app hv2 hg2 ha2; obtain ⟨A2, n2, c2, rfl, hr2, _⟩ := OwnR.rd h2.own; have HR2 := Lib.hid hr2; have HB2 := Lib.hid h2.bel; clear hv2 hg2 ha2 h2 hr2))
  have hok2 : AllOk w2 (([] ++ rs) ++ [⟨B, nb, cb, bs⟩]) := fun s hs => by
    rcases List.mem_append.1 hs with hs | hs
    · exact (HOK.out s hs).new HB2.out
    · rw [List.mem_singleton] at hs
      subst hs
      exact RdI.new HB.out HB2.out
  have hn2 : n2 = m + 1 := by have := HR2.out.1; rw [← this]; simp [hlr]
  have hnums : nums (([] ++ rs) ++ [⟨B, nb, cb, bs⟩]) = nums rs ++ [bs] := by simp [nums]
  have hwt : Lin.weight (nums (([] ++ rs) ++ [⟨B, nb, cb, bs⟩])) ≤ 1000000 := by
    rw [hnums]
    simp only [Lin.weight, List.map_append, List.sum_append, List.map_cons, List.map_nil, List.sum_cons, List.sum_nil] at hw ⊢
    omega
  have hwt2 : Lin.weight (nums rs ++ [bs]) ≤ 1000000 := by rw [← hnums]; exact hwt
  have HM := Lib.hid (rmerge_any A2 n2 c2 _ w2 HR2.out hok2 (by omega) hwt)
  have HN := Lib.hid hnums
  have HW2 := Lib.hid hwt2
  clear hok2 hn2 hnums hwt hw hwt2
  refine HM.out.mono ?_
  rintro e w3 ⟨v3, rfl, hv3⟩
  rw [HN.out] at hv3 ⊢
  have hb3 := HB2.out.trans (hv3.bel.mono HB2.out.size)
  have HB3 := Lib.hid hb3
  clear hb3
  cases hmg : Lin.merge (nums rs ++ [bs]) with
  | none =>
    have HO := Lib.hid (order_none_merge (x := x) hmg)
    clear hmg hv3
    simp only [Option.isSome_none]
    go_wp2_with fail
    refine bodyPost_ret (results_tmp2 rfl _ _ _) rfl ?_
    exact MergeEnd.none_ HO.out HB3.out
  | some l =>
    have hll : l.length ≤ 1000000 := Nat.le_trans (merge_length hmg) HW2.out
    have HO := Lib.hid (order_of_merge (x := x) hmg)
    rw [hmg] at hv3
    have hv3 : NewI 2 w2 w3 v3 l := hv3
    simp only [Option.isSome_some]
    obtain ⟨A3, c3, rfl, hr3, _⟩ := OwnI.rdL hv3.own
    have hb4 : Below w3.heap.size w3 (w3.alloc (.cells #[.int .i64 x] 2)) := (by repeat (first | exact Below.refl _ _ | assumption | refine Below.setCell ?_ (by first | (simp; done) | (simp; omega) | omega) _ | refine below_drewN ?_ _ | refine Below.drew ?_ | refine Below.alloc ?_ (by first | (simp; done) | (simp; omega) | omega) _))
    have hn1 : NewI 2 w3 (w3.alloc (.cells #[.int .i64 x] 2)) (.slice (some ⟨w3.heap.size, 0, none⟩) 1 1) (x :: l.take 0) := ⟨Own.made w3 #[.int .i64 x] 1 (by omega) rfl, fun b e => (by
      simp [Value.ownBlock] at e
      omega), hb4⟩
    have HR3 := Lib.hid hr3
    have HN1 := Lib.hid hn1
    clear hmg hv3 hr3 hb4 hn1
    go_wp2_with fail
    go_loopw [11, 12] (fun v i wr => ∃ k : Nat, k ≤ l.length ∧ i = .int .i64 k ∧ NewI 2 w3 wr v (x :: l.take k) ∧ Hid (hasI (l.take k) x = false)) (fun _ i _ => l.length - (intOf i).toNat)
    case atStart => exact ⟨0, Nat.zero_le _, rfl, HN1.out, by simp [Hid, hasI]⟩
    case round =>
      obtain ⟨k, hk, rfl, hv, hno⟩ := hrel
      by_cases hlt : k < l.length
      · obtain ⟨b, o, rfl, hb, hx⟩ := (HR3.out.new hv.bel).at_ hlt
        have htk := List.take_succ_eq_append_getElem hlt
        have hct := contains_take (x := x) hlt
        rw [hno.out] at hct
        have hin : l[k] ∈ l := List.getElem_mem hlt
        generalize l[k] = y at *
        by_cases hyx : y = x
        · subst hyx
          have hh : hasI l y = true := hasI_iff.2 hin
          have ho := HO.out
          rw [hh, if_pos rfl] at ho
          have HNO := Lib.hid ho
          have HBV := Lib.hid (HB3.out.trans (hv.bel.mono HB3.out.size))
          clear htk hct hin hh ho hv
          go_wp2_with fail
          refine bodyPost_ret (results_tmp2 rfl _ _ _) rfl ?_
          exact MergeEnd.none_ HNO.out HBV.out
        · have hb' : (y == x) = false := by simpa using hyx
          have hct : hasI (l.take (k + 1)) x = false := by rw [hct]; simpa using Ne.symm hyx
          have HCT := Lib.hid hct
          have HTK := Lib.hid htk
          have HXK : (x :: l.take k).length ≤ 1000001 := by rw [List.length_cons, List.length_take]; omega
          have hbq : Below wr.heap.size wr (wr.alloc (.cells #[.int .i64 y] 2)) := (by repeat (first | exact Below.refl _ _ | assumption | refine Below.setCell ?_ (by first | (simp; done) | (simp; omega) | omega) _ | refine below_drewN ?_ _ | refine Below.drew ?_ | refine Below.alloc ?_ (by first | (simp; done) | (simp; omega) | omega) _))
          have HV := Lib.hid (hv.below hbq)
          clear htk hct hin hv hbq
          go_wp2_with (at_builtin; refine wpList_appendI _ rfl (.tmp 40) (.tmp 45) rfl u11 (x :: l.take k) rfl HV.out.own (some ⟨wr.heap.size, 0, none⟩) 1 1 [y] rfl (one_rdI wr 2 y) (by omega) ?_; intro v6 w6 hv6 hg6 ha6; have h16 := HV.out.app hv6 hg6 ha6; have H16 := Lib.hid h16; clear hv6 hg6 ha6 h16)
          go_roundw
          case rel => exact ⟨k + 1, by omega, by go_num, by rw [HTK.out]; exact H16.out, HCT.out⟩
          case measure => simp [intOf]; omega
      · obtain rfl : k = l.length := by omega
        have hh := hno.out
        rw [List.take_of_length_le (Nat.le_refl _)] at hh hv
        have ho := HO.out
        rw [hh, if_neg (by decide)] at ho
        have HNO := Lib.hid ho
        have HV := Lib.hid (hv.base HB3.out)
        clear hh ho hv
        go_wp2_with fail
        refine bodyPost_ret (results_tmp2 rfl _ _ _) rfl ?_
        exact MergeEnd.some_ HNO.out HV.out

/-- a row of numbers, of slices, written out -/
theorem rowI (w : World) (t : TypeId) (g n : Nat) (xs : List Int) (cs : Array Value) (hg : g = w.heap.size) (hn : n = xs.length) (h : cs = (ics xs).toArray) (h9 : n ≤ 1000000) : RdI (w.alloc (.cells cs t)) (some ⟨g, 0, none⟩) n n xs := by
  subst hg hn h
  obtain ⟨A, c, e, hr, _⟩ := Own.rd (Own.made (t := t) (sz := 1) w (ics xs).toArray xs.length (by omega) (by simp [ics]))
  injection e with e1 e2 e3
  subst e1 e3
  exact ⟨rfl, hr⟩
theorem rowR (w : World) (t : TypeId) (g n : Nat) (rs : List SlI) (cs : Array Value) (hg : g = w.heap.size) (hn : n = rs.length) (h : cs = (rcs rs).toArray) (h9 : n ≤ 1000000) : RdR (w.alloc (.cells cs t)) (some ⟨g, 0, none⟩) n n rs := by
  subst hg hn h
  obtain ⟨A, c, e, hr, _⟩ := Own.rd (Own.made (t := t) (sz := 1) w (rcs rs).toArray rs.length (by omega) (by simp [rcs]))
  injection e with e1 e2 e3
  subst e1 e3
  exact ⟨rfl, hr⟩

theorem show_all : Lin.all [[], [0], [0], [1, 2]] = some [[0], [1, 0], [2, 0], [3, 1, 2, 0]] := by decide +kernel
theorem show_no : Lin.merge [[1, 2], [2, 1]] = none := by decide +kernel
theorem show_order : Lin.order 9 [1, 2] [[1, 0], [2, 0]] = some [9, 1, 2, 0] := by decide +kernel
theorem show_none : Lin.merge [] = some [] := by decide +kernel

theorem allOk_cons {w : World} {s : SlI} {rs : List SlI} (h : s.Ok w) (hs : AllOk w rs) : AllOk w (s :: rs) := fun x hx => by
  rcases List.mem_cons.1 hx with rfl | hx
  · exact h
  · exact hs x hx
theorem allOk_nil (w : World) : AllOk w [] := fun x hx => by simp at hx
def sh1 (w : World) : World := ((((w.alloc (.cells #[] 3)).alloc (.cells #[.int .i64 0] 3)).alloc (.cells #[.int .i64 0] 3)).alloc (.cells #[.int .i64 1, .int .i64 2] 3)).alloc
  (.cells #[.slice (some ⟨w.heap.size, 0, none⟩) 0 0, .slice (some ⟨w.heap.size + 1, 0, none⟩) 1 1, .slice (some ⟨w.heap.size + 1 + 1, 0, none⟩) 1 1, .slice (some ⟨w.heap.size + 1 + 1 + 1, 0, none⟩) 2 2] 40)
def shr1 (w : World) : List SlI := [⟨some ⟨w.heap.size, 0, none⟩, 0, 0, []⟩, ⟨some ⟨w.heap.size + 1, 0, none⟩, 1, 1, [0]⟩, ⟨some ⟨w.heap.size + 1 + 1, 0, none⟩, 1, 1, [0]⟩, ⟨some ⟨w.heap.size + 1 + 1 + 1, 0, none⟩, 2, 2, [1, 2]⟩]
theorem sh1_ok (w : World) : RdR (sh1 w) (some ⟨w.heap.size + 1 + 1 + 1 + 1, 0, none⟩) 4 4 (shr1 w) ∧ AllOk (sh1 w) (shr1 w) ∧ Below w.heap.size w (sh1 w) := by
  refine ⟨rowR _ 40 _ 4 (shr1 w) _ (by simp) rfl rfl (by omega), ?_, ?_⟩
  · refine allOk_cons ?_ (allOk_cons ?_ (allOk_cons ?_ (allOk_cons ?_ (allOk_nil _))))
    · refine RdI.new (((RdI.new (rowI w 3 w.heap.size 0 [] #[] rfl rfl rfl (by omega)) (w' := (w.alloc (.cells #[] 3)).alloc (.cells #[.int .i64 0] 3)) (by repeat (first | exact Below.refl _ _ | assumption | refine Below.setCell ?_ (by first | (simp; done) | (simp; omega) | omega) _ | refine below_drewN ?_ _ | refine Below.drew ?_ | refine Below.alloc ?_ (by first | (simp; done) | (simp; omega) | omega) _))))) ?_
      unfold sh1
      exact (by repeat (first | exact Below.refl _ _ | assumption | refine Below.setCell ?_ (by first | (simp; done) | (simp; omega) | omega) _ | refine below_drewN ?_ _ | refine Below.drew ?_ | refine Below.alloc ?_ (by first | (simp; done) | (simp; omega) | omega) _))
    · refine RdI.new (rowI (w.alloc (.cells #[] 3)) 3 (w.heap.size + 1) 1 [0] #[.int .i64 0] (by simp) rfl rfl (by omega)) ?_
      unfold sh1
      exact (by repeat (first | exact Below.refl _ _ | assumption | refine Below.setCell ?_ (by first | (simp; done) | (simp; omega) | omega) _ | refine below_drewN ?_ _ | refine Below.drew ?_ | refine Below.alloc ?_ (by first | (simp; done) | (simp; omega) | omega) _))
    · refine RdI.new (rowI ((w.alloc (.cells #[] 3)).alloc (.cells #[.int .i64 0] 3)) 3 (w.heap.size + 1 + 1) 1 [0] #[.int .i64 0] (by simp) rfl rfl (by omega)) ?_
      unfold sh1
      exact (by repeat (first | exact Below.refl _ _ | assumption | refine Below.setCell ?_ (by first | (simp; done) | (simp; omega) | omega) _ | refine below_drewN ?_ _ | refine Below.drew ?_ | refine Below.alloc ?_ (by first | (simp; done) | (simp; omega) | omega) _))
    · refine RdI.new (rowI (((w.alloc (.cells #[] 3)).alloc (.cells #[.int .i64 0] 3)).alloc (.cells #[.int .i64 0] 3)) 3 (w.heap.size + 1 + 1 + 1) 2 [1, 2] #[.int .i64 1, .int .i64 2] (by simp) rfl rfl (by omega)) ?_
      unfold sh1
      exact (by repeat (first | exact Below.refl _ _ | assumption | refine Below.setCell ?_ (by first | (simp; done) | (simp; omega) | omega) _ | refine below_drewN ?_ _ | refine Below.drew ?_ | refine Below.alloc ?_ (by first | (simp; done) | (simp; omega) | omega) _))
  · unfold sh1
    exact (by repeat (first | exact Below.refl _ _ | assumption | refine Below.setCell ?_ (by first | (simp; done) | (simp; omega) | omega) _ | refine below_drewN ?_ _ | refine Below.drew ?_ | refine Below.alloc ?_ (by first | (simp; done) | (simp; omega) | omega) _))
def sh2 (w : World) : World := ((w.alloc (.cells #[.int .i64 1, .int .i64 2] 2)).alloc (.cells #[.int .i64 2, .int .i64 1] 2)).alloc (.cells #[.slice (some ⟨w.heap.size, 0, none⟩) 2 2, .slice (some ⟨w.heap.size + 1, 0, none⟩) 2 2] 25)
def shr2 (w : World) : List SlI := [⟨some ⟨w.heap.size, 0, none⟩, 2, 2, [1, 2]⟩, ⟨some ⟨w.heap.size + 1, 0, none⟩, 2, 2, [2, 1]⟩]
theorem sh2_ok (w : World) : RdR (sh2 w) (some ⟨w.heap.size + 1 + 1, 0, none⟩) 2 2 (shr2 w) ∧ AllOk (sh2 w) (shr2 w) ∧ Below w.heap.size w (sh2 w) := by
  refine ⟨rowR _ 25 _ 2 (shr2 w) _ (by simp) rfl rfl (by omega), ?_, ?_⟩
  · refine allOk_cons ?_ (allOk_cons ?_ (allOk_nil _))
    · refine RdI.new (rowI w 2 w.heap.size 2 [1, 2] #[.int .i64 1, .int .i64 2] rfl rfl rfl (by omega)) ?_
      unfold sh2
      exact (by repeat (first | exact Below.refl _ _ | assumption | refine Below.setCell ?_ (by first | (simp; done) | (simp; omega) | omega) _ | refine below_drewN ?_ _ | refine Below.drew ?_ | refine Below.alloc ?_ (by first | (simp; done) | (simp; omega) | omega) _))
    · refine RdI.new (rowI (w.alloc (.cells #[.int .i64 1, .int .i64 2] 2)) 2 (w.heap.size + 1) 2 [2, 1] #[.int .i64 2, .int .i64 1] (by simp) rfl rfl (by omega)) ?_
      unfold sh2
      exact (by repeat (first | exact Below.refl _ _ | assumption | refine Below.setCell ?_ (by first | (simp; done) | (simp; omega) | omega) _ | refine below_drewN ?_ _ | refine Below.drew ?_ | refine Below.alloc ?_ (by first | (simp; done) | (simp; omega) | omega) _))
  · unfold sh2
    exact (by repeat (first | exact Below.refl _ _ | assumption | refine Below.setCell ?_ (by first | (simp; done) | (simp; omega) | omega) _ | refine below_drewN ?_ _ | refine Below.drew ?_ | refine Below.alloc ?_ (by first | (simp; done) | (simp; omega) | omega) _))
def sh3 (w : World) : World := (((w.alloc (.cells #[.int .i64 1, .int .i64 2] 2)).alloc (.cells #[.int .i64 1, .int .i64 0] 2)).alloc (.cells #[.int .i64 2, .int .i64 0] 2)).alloc (.cells #[.slice (some ⟨w.heap.size + 1, 0, none⟩) 2 2, .slice (some ⟨w.heap.size + 1 + 1, 0, none⟩) 2 2] 25)
def shr3 (w : World) : List SlI := [⟨some ⟨w.heap.size + 1, 0, none⟩, 2, 2, [1, 0]⟩, ⟨some ⟨w.heap.size + 1 + 1, 0, none⟩, 2, 2, [2, 0]⟩]
theorem sh3_ok (w : World) : RdI (sh3 w) (some ⟨w.heap.size, 0, none⟩) 2 2 [1, 2] ∧ RdR (sh3 w) (some ⟨w.heap.size + 1 + 1 + 1, 0, none⟩) 2 2 (shr3 w) ∧ AllOk (sh3 w) (shr3 w) ∧ Below w.heap.size w (sh3 w) := by
  refine ⟨?_, rowR _ 25 _ 2 (shr3 w) _ (by simp) rfl rfl (by omega), ?_, ?_⟩
  · refine RdI.new (rowI w 2 w.heap.size 2 [1, 2] #[.int .i64 1, .int .i64 2] rfl rfl rfl (by omega)) ?_
    unfold sh3
    exact (by repeat (first | exact Below.refl _ _ | assumption | refine Below.setCell ?_ (by first | (simp; done) | (simp; omega) | omega) _ | refine below_drewN ?_ _ | refine Below.drew ?_ | refine Below.alloc ?_ (by first | (simp; done) | (simp; omega) | omega) _))
  · refine allOk_cons ?_ (allOk_cons ?_ (allOk_nil _))
    · refine RdI.new (rowI (w.alloc (.cells #[.int .i64 1, .int .i64 2] 2)) 2 (w.heap.size + 1) 2 [1, 0] #[.int .i64 1, .int .i64 0] (by simp) rfl rfl (by omega)) ?_
      unfold sh3
      exact (by repeat (first | exact Below.refl _ _ | assumption | refine Below.setCell ?_ (by first | (simp; done) | (simp; omega) | omega) _ | refine below_drewN ?_ _ | refine Below.drew ?_ | refine Below.alloc ?_ (by first | (simp; done) | (simp; omega) | omega) _))
    · refine RdI.new (rowI ((w.alloc (.cells #[.int .i64 1, .int .i64 2] 2)).alloc (.cells #[.int .i64 1, .int .i64 0] 2)) 2 (w.heap.size + 1 + 1) 2 [2, 0] #[.int .i64 2, .int .i64 0] (by simp) rfl rfl (by omega)) ?_
      unfold sh3
      exact (by repeat (first | exact Below.refl _ _ | assumption | refine Below.setCell ?_ (by first | (simp; done) | (simp; omega) | omega) _ | refine below_drewN ?_ _ | refine Below.drew ?_ | refine Below.alloc ?_ (by first | (simp; done) | (simp; omega) | omega) _))
  · unfold sh3
    exact (by repeat (first | exact Below.refl _ _ | assumption | refine Below.setCell ?_ (by first | (simp; done) | (simp; omega) | omega) _ | refine below_drewN ?_ _ | refine Below.drew ?_ | refine Below.alloc ?_ (by first | (simp; done) | (simp; omega) | omega) _))
theorem sameI_self (xs : List Int) : sameI xs xs = true := by simp [sameI]
theorem same_is (A B : Option Addr) (n c m d : Nat) (xs ys : List Int) (w : World) (b : Bool) (hA : RdI w A n c xs) (hB : RdI w B m d ys) (h : sameI xs ys = b) :
    Calls Try.prog 18 #[.slice A n c, .slice B m d] w fun e w' => e = .returned (.bool b) ∧ ∃ q, w' = w.drewN q := by
  rw [← h]
  exact same_any A B n c m d xs ys w hA hB

set_option maxRecDepth 100000 in
set_option maxHeartbeats 4000000 in
theorem shown_any (w : World) : Calls Try.prog 14 #[] w fun e w' => e = .returned (.bool true) ∧ Below w.heap.size w w' := by
  go_enter Try.func14, Try.ntmps14
  go_wp2_with fail
  -- All
  have k1 : Calls Try.prog 22 #[.slice (some ⟨w.heap.size + 1 + 1 + 1 + 1, 0, none⟩) 4 4] (sh1 w) fun e w' => ∃ A c os, e = .returned (.tuple #[.slice A 4 c, .bool true]) ∧ OwnR 40 w' (.slice A 4 c) os ∧ Below w.heap.size w w' ∧ RowsI 3 w' os ∧ nums os = [[0], [1, 0], [2, 0], [3, 1, 2, 0]] := by
    obtain ⟨h1, h2, h3⟩ := sh1_ok w
    refine (all_any _ 4 4 (shr1 w) (sh1 w) h1 h2 (by omega) (by intro s hs; simp [shr1] at hs; rcases hs with rfl | rfl | rfl | rfl <;> simp)).mono ?_
    rintro e w' ⟨v, os, rfl, hn, hr, hi⟩
    have hs : Lin.all (nums (shr1 w)) = some [[0], [1, 0], [2, 0], [3, 1, 2, 0]] := show_all
    rw [hs] at hn ⊢
    obtain ⟨A, c, rfl, _, _⟩ := OwnR.rdL hr.own
    have hl : os.length = 4 := by rw [← nums_length, hn]; rfl
    have hr' : OwnR 40 w' (.slice A 4 c) os := by
      have := hr.own
      rwa [hl] at this
    rw [hl]
    exact ⟨A, c, os, rfl, hr', h3.trans (hr.bel.mono h3.size), hi, hn⟩
  unfold sh1 at k1
  (with_reducible refine k1.mono ?_)
  rintro e w1 ⟨A1, c1, o1, rfl, hr1, hB1, hi1, hn1⟩
  clear k1
  have HB1 := Lib.hid hB1
  have HR1 := Lib.hid hr1
  have HI1 := Lib.hid hi1
  have HN1 := Lib.hid hn1
  clear hr1 hi1 hn1 hB1
  go_wp2_with fail
  -- Merge
  have k2 : Calls Try.prog 16 #[.slice (some ⟨w1.heap.size + 1 + 1, 0, none⟩) 2 2] (sh2 w1) fun e w' => ∃ v, e = .returned (.tuple #[v, .bool false]) ∧ Below w1.heap.size w1 w' := by
    obtain ⟨h1, h2, h3⟩ := sh2_ok w1
    refine (merge_any _ 2 2 (shr2 w1) (sh2 w1) h1 h2 (by omega) (by simp [Lin.weight, nums, shr2])).mono ?_
    rintro e w' ⟨v, rfl, hv⟩
    have hs : Lin.merge (nums (shr2 w1)) = none := show_no
    rw [hs] at hv ⊢
    exact ⟨v, rfl, h3.trans (hv.bel.mono h3.size)⟩
  unfold sh2 at k2
  (with_reducible refine k2.mono ?_)
  rintro e w2 ⟨v2, rfl, hb2⟩
  clear k2
  have HB2 := Lib.hid hb2
  clear hb2
  go_wp2_with fail
  -- Order
  have k3 : Calls Try.prog 19 #[.int .i64 9, .slice (some ⟨w2.heap.size, 0, none⟩) 2 2, .slice (some ⟨w2.heap.size + 1 + 1 + 1, 0, none⟩) 2 2] (sh3 w2) fun e w' => ∃ A n c, e = .returned (.tuple #[.slice A n c, .bool true]) ∧ RdI w' A n c [9, 1, 2, 0] ∧ Below w2.heap.size w2 w' := by
    obtain ⟨h0, h1, h2, h3⟩ := sh3_ok w2
    refine (order_any 9 _ 2 2 [1, 2] _ 2 2 (shr3 w2) (sh3 w2) h0 h1 h2 (fun e => by omega) (by omega) (by simp [Lin.weight, nums, shr3])).mono ?_
    rintro e w' ⟨v, rfl, hv⟩
    have hs : Lin.order 9 [1, 2] (nums (shr3 w2)) = some [9, 1, 2, 0] := show_order
    rw [hs] at hv ⊢
    obtain ⟨A, n, c, rfl, hr, _⟩ := OwnI.rd hv.own
    exact ⟨A, n, c, rfl, hr, h3.trans (hv.bel.mono h3.size)⟩
  unfold sh3 at k3
  (with_reducible refine k3.mono ?_)
  rintro e w3 ⟨A3, n3, c3, rfl, hr3, hb3⟩
  clear k3
  have HB3 := Lib.hid hb3
  have HR3 := Lib.hid hr3
  clear hb3 hr3
  go_wp2_with fail
  have k4 : Calls Try.prog 16 #[.slice none 0 0] w3 fun e w' => ∃ A c, e = .returned (.tuple #[.slice A 0 c, .bool true]) ∧ Below w3.heap.size w3 w' := by
    refine (merge_any none 0 0 [] w3 ⟨rfl, Rd.nil_.2 (by omega)⟩ (allOk_nil _) (by omega) (by simp [Lin.weight, nums])).mono ?_
    rintro e w' ⟨v, rfl, hv⟩
    have hs : Lin.merge (nums []) = some [] := show_none
    rw [hs] at hv ⊢
    obtain ⟨A, c, rfl, hr, _⟩ := OwnI.rdL hv.own
    exact ⟨A, c, rfl, hv.bel⟩
  (with_reducible refine k4.mono ?_)
  rintro e w4 ⟨A4, c4, rfl, hb4⟩
  clear k4
  have b14 : Below w1.heap.size w1 w4 := HB2.out.trans (Below.mono (HB3.out.trans (hb4.mono HB3.out.size)) HB2.out.size)
  have hr1 := Own.new HR1.out b14
  have hi1 := HI1.out.below b14
  obtain ⟨A, n, c, e1, hrd, _⟩ := OwnR.rd hr1
  cases e1
  obtain ⟨b, o, rfl, hb, hc⟩ := hrd.at_ (i := 3) (by omega)
  have hl : o1.length = 4 := hrd.1
  have hx3 : o1[3].xs = [3, 1, 2, 0] := by
    have h : (nums o1)[3]? = some [3, 1, 2, 0] := by rw [HN1.out]; rfl
    simp only [nums, List.getElem?_map, List.getElem?_eq_getElem (show 3 < o1.length by omega), Option.map_some] at h
    exact Option.some.inj h
  have hrow := hi1.ok o1[3] (List.getElem_mem (by omega))
  generalize o1[3] = r at *
  obtain ⟨Ar, nr, cr, xr⟩ := r
  have hx3 : xr = [3, 1, 2, 0] := hx3
  subst hx3
  have hc : w4.cell? ⟨b, o + 3, none⟩ = some (.slice Ar nr cr) := hc
  have hrow : RdI w4 Ar nr cr [3, 1, 2, 0] := hrow
  have hnr : nr = 4 := hrow.1.symm
  have HRW := Lib.hid hrow
  have HN := Lib.hid hnr
  have HB4 := Lib.hid hb4
  have HR34 := Lib.hid (HR3.out.new hb4)
  clear hr1 hi1 hrd hrow hnr b14 hb4 HR1 HI1 HN1 hl
  go_wp2_with fail
  (with_reducible refine (wide_any Ar nr cr [3, 1, 2, 0] w4 HRW.out (by have := HN.out; omega)).mono ?_)
  rintro e w5 ⟨v5, rfl, h5⟩
  obtain ⟨A5, n5, c5, rfl, hr5, _⟩ := OwnI.rd h5.own
  have hbq : Below w5.heap.size w5 (w5.alloc (.cells #[.int .i64 3, .int .i64 1, .int .i64 2, .int .i64 0] 2)) := (by repeat (first | exact Below.refl _ _ | assumption | refine Below.setCell ?_ (by first | (simp; done) | (simp; omega) | omega) _ | refine below_drewN ?_ _ | refine Below.drew ?_ | refine Below.alloc ?_ (by first | (simp; done) | (simp; omega) | omega) _))
  have HR5 := Lib.hid (hr5.new hbq)
  have HB5 := Lib.hid (h5.bel.trans (hbq.mono h5.bel.size))
  clear h5 hr5 hbq
  go_wp2_with fail
  (with_reducible refine (same_is A5 _ n5 c5 4 4 [3, 1, 2, 0] [3, 1, 2, 0] _ true HR5.out (rowI w5 2 w5.heap.size 4 [3, 1, 2, 0] #[.int .i64 3, .int .i64 1, .int .i64 2, .int .i64 0] rfl rfl rfl (by omega)) (sameI_self _)).mono ?_)
  rintro e w6 ⟨rfl, q, rfl⟩
  have b46 : Below w4.heap.size w4 ((w5.alloc (.cells #[.int .i64 3, .int .i64 1, .int .i64 2, .int .i64 0] 2)).drewN q) := below_drewN HB5.out q
  generalize (w5.alloc (.cells #[.int .i64 3, .int .i64 1, .int .i64 2, .int .i64 0] 2)).drewN q = w6 at *
  have HB6 := Lib.hid b46
  clear b46
  go_wp2_with fail
  have hbq : Below w6.heap.size w6 (w6.alloc (.cells #[.int .i64 9, .int .i64 1, .int .i64 2, .int .i64 0] 2)) := (by repeat (first | exact Below.refl _ _ | assumption | refine Below.setCell ?_ (by first | (simp; done) | (simp; omega) | omega) _ | refine below_drewN ?_ _ | refine Below.drew ?_ | refine Below.alloc ?_ (by first | (simp; done) | (simp; omega) | omega) _))
  have HR6 := Lib.hid ((HR34.out.new HB6.out).new hbq)
  have HBQ := Lib.hid hbq
  clear hbq
  (with_reducible refine (same_is A3 _ n3 c3 4 4 [9, 1, 2, 0] [9, 1, 2, 0] _ true HR6.out (rowI w6 2 w6.heap.size 4 [9, 1, 2, 0] #[.int .i64 9, .int .i64 1, .int .i64 2, .int .i64 0] rfl rfl rfl (by omega)) (sameI_self _)).mono ?_)
  rintro e w7 ⟨rfl, q, rfl⟩
  go_wp2_with fail
  go_ret
  refine ⟨rfl, below_drewN (HB1.out.trans (Below.mono (HB2.out.trans (Below.mono (HB3.out.trans (Below.mono (HB4.out.trans (Below.mono (HB6.out.trans (HBQ.out.mono HB6.out.size)) HB4.out.size)) HB3.out.size)) HB2.out.size)) HB1.out.size)) q⟩
end Go.Proofs.Ytbfjkjkanckcjaa
