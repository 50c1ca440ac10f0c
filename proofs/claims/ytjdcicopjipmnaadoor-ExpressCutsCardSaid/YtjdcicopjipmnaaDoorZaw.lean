/- Tokens: leaves, lists, tuples. Steps of drawn regions: kids of a node, calls that leave rows of tokens. Tokens: operators. -/
import Derived.Test.YtjdcicopjipmnaaDoorZai
import Derived.Test.YtjdcicopjipmnaaDoorZav
namespace Go.Proofs.YtjdcicopjipmnaaDoor
set_option maxRecDepth 100000
set_option maxHeartbeats 8000000
section
open Go.RowKit
set_option linter.unusedVariables false
set_option linter.unusedSimpArgs false
theorem bel_two {w w1 w' : World} (h1 : Below w.heap.size w w1) (h2 : Below w1.heap.size w1 w') : Below w.heap.size w w' := h1.trans (h2.mono h1.size)
theorem tk_fin2 {w w1 w' : World} {L M : List TokD} {A : Option Addr} {r c : Nat} (h1 : Below w.heap.size w w1) (hb : Below w1.heap.size w1 w') (hz : Tz w1.heap.size w' (.slice A r c) L) (hl : L.length = r) (he : L = M) : TkP M w (.returned (.slice A r c)) w' := tk_fin (bel_two h1 hb) (hz.less h1.size) hl he
theorem tok33_1 {T : List NodeD} {A : Option Addr} {m c i : Nat} {at0 n : Int} {s : ByteArray} (hm : T.length = m) (hx : T[i]? = some ⟨1, at0, s, n, []⟩) : TkAt T A m c i (.mk 1 n s []) := by
 intro w hT
 unfold TkP
 have HT0 := qh hT
 have hlen : i < m := by rw [← hm]; exact (List.getElem?_eq_some_iff.1 hx).1
 obtain ⟨b0, o0, A4, c4, rfl, hb0, x0, x1, x2, x3, x4, hr4⟩ := hT.nth hx
 rw [show ([] : List Int).length = 0 from rfl] at x4 hr4
 have HR4 := qh hr4
 clear hT hx hr4 hm
 go_enter Tryd.func33, Tryd.ntmps33
 go_upto_region 4 with fail
 have HBa := qh (bel_one w (.cells #[.int .i64 1, .int .i64 at0, .string s, .int .i64 n, .slice A4 0 c4] 51))
 have HBK := qh (Blk.new w 51 #[.int .i64 1, .int .i64 at0, .string s, .int .i64 n, .slice A4 0 c4])
 have HT := qh (HT0.out.belw HBa.out)
 have HRk := qh (HR4.out.bel HBa.out)
 clear x0 x1 x2 x3 x4 HR4 hb0
 generalize w.alloc (.cells #[.int .i64 1, .int .i64 at0, .string s, .int .i64 n, .slice A4 0 c4] 51) = W1 at HBa HBK HT HRk ⊢
 have g0 := HBK.out.cell 0
 have g2 := HBK.out.cell 2
 have g3 := HBK.out.cell 3
 have g4 := HBK.out.cell 4
 have glt := HBK.out.lt
 simp only [GG] at g0 g2 g3 g4
 have HB1 := qh (Below.refl W1.heap.size W1)
 go_wp2_with (go_at_call 49; go_must (refine (word49_any _ _).mono ?_); rintro e w2 ⟨rfl, hb⟩; have HB2 := qh (HB1.out.trans hb); clear hb)
 go_ret
 exact tk_fin2 HBa.out (HB2.out.trans (below_low (bel_one _ _) HB2.out.size)) (Tz.made w2 (wordT kNone) HB2.out.size) rfl (by simp [Tr.toks, Tr.tokss, lay])
theorem tok33_2 {T : List NodeD} {A : Option Addr} {m c i : Nat} {at0 n : Int} {s : ByteArray} (hm : T.length = m) (hx : T[i]? = some ⟨2, at0, s, n, []⟩) : TkAt T A m c i (.mk 2 n s []) := by
 intro w hT
 unfold TkP
 have HT0 := qh hT
 have hlen : i < m := by rw [← hm]; exact (List.getElem?_eq_some_iff.1 hx).1
 obtain ⟨b0, o0, A4, c4, rfl, hb0, x0, x1, x2, x3, x4, hr4⟩ := hT.nth hx
 rw [show ([] : List Int).length = 0 from rfl] at x4 hr4
 have HR4 := qh hr4
 clear hT hx hr4 hm
 go_enter Tryd.func33, Tryd.ntmps33
 go_upto_region 4 with fail
 have HBa := qh (bel_one w (.cells #[.int .i64 2, .int .i64 at0, .string s, .int .i64 n, .slice A4 0 c4] 51))
 have HBK := qh (Blk.new w 51 #[.int .i64 2, .int .i64 at0, .string s, .int .i64 n, .slice A4 0 c4])
 have HT := qh (HT0.out.belw HBa.out)
 have HRk := qh (HR4.out.bel HBa.out)
 clear x0 x1 x2 x3 x4 HR4 hb0
 generalize w.alloc (.cells #[.int .i64 2, .int .i64 at0, .string s, .int .i64 n, .slice A4 0 c4] 51) = W1 at HBa HBK HT HRk ⊢
 have g0 := HBK.out.cell 0
 have g2 := HBK.out.cell 2
 have g3 := HBK.out.cell 3
 have g4 := HBK.out.cell 4
 have glt := HBK.out.lt
 simp only [GG] at g0 g2 g3 g4
 have HB1 := qh (Below.refl W1.heap.size W1)
 go_wp2_with (go_at_call 49; go_must (refine (word49_any _ _).mono ?_); rintro e w2 ⟨rfl, hb⟩; have HB2 := qh (HB1.out.trans hb); clear hb)
 go_ret
 exact tk_fin2 HBa.out (HB2.out.trans (below_low (bel_one _ _) HB2.out.size)) (Tz.made w2 (wordT kTrue) HB2.out.size) rfl (by simp [Tr.toks, Tr.tokss, lay])
theorem tok33_3 {T : List NodeD} {A : Option Addr} {m c i : Nat} {at0 n : Int} {s : ByteArray} (hm : T.length = m) (hx : T[i]? = some ⟨3, at0, s, n, []⟩) : TkAt T A m c i (.mk 3 n s []) := by
 intro w hT
 unfold TkP
 have HT0 := qh hT
 have hlen : i < m := by rw [← hm]; exact (List.getElem?_eq_some_iff.1 hx).1
 obtain ⟨b0, o0, A4, c4, rfl, hb0, x0, x1, x2, x3, x4, hr4⟩ := hT.nth hx
 rw [show ([] : List Int).length = 0 from rfl] at x4 hr4
 have HR4 := qh hr4
 clear hT hx hr4 hm
 go_enter Tryd.func33, Tryd.ntmps33
 go_upto_region 4 with fail
 have HBa := qh (bel_one w (.cells #[.int .i64 3, .int .i64 at0, .string s, .int .i64 n, .slice A4 0 c4] 51))
 have HBK := qh (Blk.new w 51 #[.int .i64 3, .int .i64 at0, .string s, .int .i64 n, .slice A4 0 c4])
 have HT := qh (HT0.out.belw HBa.out)
 have HRk := qh (HR4.out.bel HBa.out)
 clear x0 x1 x2 x3 x4 HR4 hb0
 generalize w.alloc (.cells #[.int .i64 3, .int .i64 at0, .string s, .int .i64 n, .slice A4 0 c4] 51) = W1 at HBa HBK HT HRk ⊢
 have g0 := HBK.out.cell 0
 have g2 := HBK.out.cell 2
 have g3 := HBK.out.cell 3
 have g4 := HBK.out.cell 4
 have glt := HBK.out.lt
 simp only [GG] at g0 g2 g3 g4
 have HB1 := qh (Below.refl W1.heap.size W1)
 go_wp2_with (go_at_call 49; go_must (refine (word49_any _ _).mono ?_); rintro e w2 ⟨rfl, hb⟩; have HB2 := qh (HB1.out.trans hb); clear hb)
 go_ret
 exact tk_fin2 HBa.out (HB2.out.trans (below_low (bel_one _ _) HB2.out.size)) (Tz.made w2 (wordT kFalse) HB2.out.size) rfl (by simp [Tr.toks, Tr.tokss, lay])
theorem tok33_6 {T : List NodeD} {A : Option Addr} {m c i : Nat} {at0 n : Int} {s : ByteArray} (hm : T.length = m) (hx : T[i]? = some ⟨6, at0, s, n, []⟩) : TkAt T A m c i (.mk 6 n s []) := by
 intro w hT
 unfold TkP
 have HT0 := qh hT
 have hlen : i < m := by rw [← hm]; exact (List.getElem?_eq_some_iff.1 hx).1
 obtain ⟨b0, o0, A4, c4, rfl, hb0, x0, x1, x2, x3, x4, hr4⟩ := hT.nth hx
 rw [show ([] : List Int).length = 0 from rfl] at x4 hr4
 have HR4 := qh hr4
 clear hT hx hr4 hm
 go_enter Tryd.func33, Tryd.ntmps33
 go_upto_region 4 with fail
 have HBa := qh (bel_one w (.cells #[.int .i64 6, .int .i64 at0, .string s, .int .i64 n, .slice A4 0 c4] 51))
 have HBK := qh (Blk.new w 51 #[.int .i64 6, .int .i64 at0, .string s, .int .i64 n, .slice A4 0 c4])
 have HT := qh (HT0.out.belw HBa.out)
 have HRk := qh (HR4.out.bel HBa.out)
 clear x0 x1 x2 x3 x4 HR4 hb0
 generalize w.alloc (.cells #[.int .i64 6, .int .i64 at0, .string s, .int .i64 n, .slice A4 0 c4] 51) = W1 at HBa HBK HT HRk ⊢
 have g0 := HBK.out.cell 0
 have g2 := HBK.out.cell 2
 have g3 := HBK.out.cell 3
 have g4 := HBK.out.cell 4
 have glt := HBK.out.lt
 simp only [GG] at g0 g2 g3 g4
 have HB1 := qh (Below.refl W1.heap.size W1)
 go_wp2_with (go_at_call 49; go_must (refine (word49_any _ _).mono ?_); rintro e w2 ⟨rfl, hb⟩; have HB2 := qh (HB1.out.trans hb); clear hb)
 go_ret
 exact tk_fin2 HBa.out (HB2.out.trans (below_low (bel_one _ _) HB2.out.size)) (Tz.made w2 (wordT s) HB2.out.size) rfl (by simp [Tr.toks, Tr.tokss, lay])
theorem tok33_4 {T : List NodeD} {A : Option Addr} {m c i : Nat} {at0 n : Int} {s : ByteArray} (hm : T.length = m) (hx : T[i]? = some ⟨4, at0, s, n, []⟩) : TkAt T A m c i (.mk 4 n s []) := by
 intro w hT
 unfold TkP
 have HT0 := qh hT
 have hlen : i < m := by rw [← hm]; exact (List.getElem?_eq_some_iff.1 hx).1
 obtain ⟨b0, o0, A4, c4, rfl, hb0, x0, x1, x2, x3, x4, hr4⟩ := hT.nth hx
 rw [show ([] : List Int).length = 0 from rfl] at x4 hr4
 have HR4 := qh hr4
 clear hT hx hr4 hm
 go_enter Tryd.func33, Tryd.ntmps33
 go_upto_region 4 with fail
 have HBa := qh (bel_one w (.cells #[.int .i64 4, .int .i64 at0, .string s, .int .i64 n, .slice A4 0 c4] 51))
 have HBK := qh (Blk.new w 51 #[.int .i64 4, .int .i64 at0, .string s, .int .i64 n, .slice A4 0 c4])
 have HT := qh (HT0.out.belw HBa.out)
 have HRk := qh (HR4.out.bel HBa.out)
 clear x0 x1 x2 x3 x4 HR4 hb0
 generalize w.alloc (.cells #[.int .i64 4, .int .i64 at0, .string s, .int .i64 n, .slice A4 0 c4] 51) = W1 at HBa HBK HT HRk ⊢
 have g0 := HBK.out.cell 0
 have g2 := HBK.out.cell 2
 have g3 := HBK.out.cell 3
 have g4 := HBK.out.cell 4
 have glt := HBK.out.lt
 simp only [GG] at g0 g2 g3 g4
 have HB1 := qh (Below.refl W1.heap.size W1)
 go_wp2_with fail
 go_ret
 exact tk_fin2 HBa.out (HB1.out.trans (below_low (bel_one _ _) HB1.out.size)) (Tz.made W1 (numT n) HB1.out.size) rfl (by simp [Tr.toks, Tr.tokss, lay])
theorem tok33_5 {T : List NodeD} {A : Option Addr} {m c i : Nat} {at0 n : Int} {s : ByteArray} (hm : T.length = m) (hx : T[i]? = some ⟨5, at0, s, n, []⟩) : TkAt T A m c i (.mk 5 n s []) := by
 intro w hT
 unfold TkP
 have HT0 := qh hT
 have hlen : i < m := by rw [← hm]; exact (List.getElem?_eq_some_iff.1 hx).1
 obtain ⟨b0, o0, A4, c4, rfl, hb0, x0, x1, x2, x3, x4, hr4⟩ := hT.nth hx
 rw [show ([] : List Int).length = 0 from rfl] at x4 hr4
 have HR4 := qh hr4
 clear hT hx hr4 hm
 go_enter Tryd.func33, Tryd.ntmps33
 go_upto_region 4 with fail
 have HBa := qh (bel_one w (.cells #[.int .i64 5, .int .i64 at0, .string s, .int .i64 n, .slice A4 0 c4] 51))
 have HBK := qh (Blk.new w 51 #[.int .i64 5, .int .i64 at0, .string s, .int .i64 n, .slice A4 0 c4])
 have HT := qh (HT0.out.belw HBa.out)
 have HRk := qh (HR4.out.bel HBa.out)
 clear x0 x1 x2 x3 x4 HR4 hb0
 generalize w.alloc (.cells #[.int .i64 5, .int .i64 at0, .string s, .int .i64 n, .slice A4 0 c4] 51) = W1 at HBa HBK HT HRk ⊢
 have g0 := HBK.out.cell 0
 have g2 := HBK.out.cell 2
 have g3 := HBK.out.cell 3
 have g4 := HBK.out.cell 4
 have glt := HBK.out.lt
 simp only [GG] at g0 g2 g3 g4
 have HB1 := qh (Below.refl W1.heap.size W1)
 go_wp2_with fail
 go_ret
 exact tk_fin2 HBa.out (HB1.out.trans (below_low (bel_one _ _) HB1.out.size)) (Tz.made W1 (strT s) HB1.out.size) rfl (by simp [Tr.toks, Tr.tokss, lay])
theorem tok33_7 {T : List NodeD} {A : Option Addr} {m c i : Nat} {at0 n : Int} {s : ByteArray} {kids : List Int} {ks : List Tr} {K : Nat} (hm : T.length = m) (hx : T[i]? = some ⟨7, at0, s, n, kids⟩) (hkk : kids.length = K) (hks : ks.length = K) (hK : K ≤ 1000) (h : ∀ p, p < K → ∃ (j : Nat) (k : Tr), kids[p]? = some (j : Int) ∧ ks[p]? = some k ∧ TkAt T A m c j k) (hl : (Tr.toks (.mk 7 n s ks)).length ≤ 549755813888) : TkAt T A m c i (.mk 7 n s ks) := by
 intro w hT
 unfold TkP
 have HT0 := qh hT
 have hlen : i < m := by rw [← hm]; exact (List.getElem?_eq_some_iff.1 hx).1
 obtain ⟨b0, o0, A4, c4, rfl, hb0, x0, x1, x2, x3, x4, hr4⟩ := hT.nth hx
 rw [hkk] at x4 hr4
 have HR4 := qh hr4
 clear hT hx hr4 hm
 have hll : (rowsT false (Tr.tokss ks)).length + 2 ≤ 549755813888 := by
  have h1 := hl
  simp [Tr.toks, lay] at h1
  omega
 have HLk := qh hll
 have HK := qh h
 have HKs := qh hks
 clear hll h hks hl hkk
 go_enter Tryd.func33, Tryd.ntmps33
 go_upto_region 4 with fail
 have HBa := qh (bel_one w (.cells #[.int .i64 7, .int .i64 at0, .string s, .int .i64 n, .slice A4 K c4] 51))
 have HBK := qh (Blk.new w 51 #[.int .i64 7, .int .i64 at0, .string s, .int .i64 n, .slice A4 K c4])
 have HT := qh (HT0.out.belw HBa.out)
 have HRk := qh (HR4.out.bel HBa.out)
 clear x0 x1 x2 x3 x4 HR4 hb0
 generalize w.alloc (.cells #[.int .i64 7, .int .i64 at0, .string s, .int .i64 n, .slice A4 K c4] 51) = W1 at HBa HBK HT HRk ⊢
 have g0 := HBK.out.cell 0
 have g2 := HBK.out.cell 2
 have g3 := HBK.out.cell 3
 have g4 := HBK.out.cell 4
 have glt := HBK.out.lt
 simp only [GG] at g0 g2 g3 g4
 have HB1 := qh (Below.refl W1.heap.size W1)
 go_upto_region 17 with fail
 go_wp2_with (first | (have hmk := HB5.out; clear hmk; at_builtin; go_must (refine wpList_appendT _ rfl _ _ rfl (.slice A4 r4 c4) ([signT gLb] ++ (rowsT false (Tr.tokss ks))) rfl (HR5o.out.bel (bel_one _ _)).own _ 1 1 [signT gRb] rfl (Rd.toks _ [signT gRb] _ 1 rfl rfl (by omega)) rfl (by have := HLk.out; simp only [LL]; omega) ?_); intro v6 w6 ho hg hn; have hz6 := Tz.app (HR5o.out.bel (bel_one _ _)) ho hg hn (Nat.le_trans HB5.out.size (alloc_le _ _)); have HB6 := qh ((HB5.out.trans (below_low (bel_one _ _) HB5.out.size)).trans (grown_below hg (Nat.le_trans HB5.out.size (alloc_le _ _)) HR5o.out.new)); obtain ⟨r6, hr⟩ : ∃ r, (([signT gLb] ++ (rowsT false (Tr.tokss ks))) ++ [signT gRb]).length = r := ⟨_, rfl⟩; obtain ⟨A6, c6, e6, -, -⟩ := Own.rd ho; rw [hr] at e6; subst e6; have HL6 := qh hr; have HR6o := qh hz6; clear ho hg hn hz6 hr HB5) | (have hmk := HB4.out; clear hmk; go_at_call 50; go_must (refine (sign50_any gRb _).mono ?_); rintro e w5 ⟨rfl, hb⟩; have HB5 := qh (HB4.out.trans (below_low hb HB4.out.size)); have HR5o := qh (HR4o.out.bel hb); clear hb HB4) | (have hmk := HB3.out; clear hmk; at_builtin; go_must (refine wpList_appendT _ rfl _ _ rfl (.slice (some ⟨w2.heap.size, 0, none⟩) 1 1) [signT gLb] rfl HR3o.out.own A3 r3 c3 (rowsT false (Tr.tokss ks)) rfl (HR3x.out.own.rdm HL3.out) HL3.out (by have := HLk.out; have := HL3.out; simp only [List.length_cons, List.length_nil]; omega) ?_); intro v4 w4 ho hg hn; have hz4 := Tz.app HR3o.out ho hg hn HB3.out.size; have HB4 := qh (HB3.out.trans (grown_below hg HB3.out.size HR3o.out.new)); obtain ⟨r4, hr⟩ : ∃ r, ([signT gLb] ++ (rowsT false (Tr.tokss ks))).length = r := ⟨_, rfl⟩; obtain ⟨A4, c4, e4, -, -⟩ := Own.rd ho; rw [hr] at e4; subst e4; have HL4 := qh hr; have HR4o := qh hz4; clear ho hg hn hz4 hr HB3) | (have hmk := HB2.out; clear hmk; go_at_call 51; go_must (refine (rows51 HKs.out hK false HK.out (by have := HLk.out; omega) _ (HT.out.belw (HB2.out.trans (below_low (bel_one _ _) HB2.out.size))) (HRk.out.bel (HB2.out.trans (below_low (bel_one _ _) HB2.out.size)))).mono ?_); rintro e w3 ⟨A3, c3, r3, rfl, hl3, hz, hb⟩; have HB3 := qh (HB2.out.trans (below_low (bel_al hb) HB2.out.size)); have HR3o := qh ((qh (Tz.made w2 (signT gLb) HB2.out.size)).out.bel hb); have HR3x := qh (hz.less (Nat.le_trans HB2.out.size (alloc_le _ _))); have HL3 := qh hl3; clear hz hb HB2) | (have hmk := HB1.out; clear hmk; go_at_call 50; go_must (refine (sign50_any gLb _).mono ?_); rintro e w2 ⟨rfl, hb⟩; have HB2 := qh (HB1.out.trans (below_low hb HB1.out.size)); clear hb HB1))
 go_ret
 exact tk_fin2 HBa.out HB6.out HR6o.out HL6.out (by simp [Tr.toks, lay])
theorem tok33_8 {T : List NodeD} {A : Option Addr} {m c i : Nat} {at0 n : Int} {s : ByteArray} {kids : List Int} {ks : List Tr} {K : Nat} (hm : T.length = m) (hx : T[i]? = some ⟨8, at0, s, n, kids⟩) (hkk : kids.length = K) (hks : ks.length = K) (hK : K ≤ 1000) (h : ∀ p, p < K → ∃ (j : Nat) (k : Tr), kids[p]? = some (j : Int) ∧ ks[p]? = some k ∧ TkAt T A m c j k) (hl : (Tr.toks (.mk 8 n s ks)).length ≤ 549755813888) : TkAt T A m c i (.mk 8 n s ks) := by
 intro w hT
 unfold TkP
 have HT0 := qh hT
 have hlen : i < m := by rw [← hm]; exact (List.getElem?_eq_some_iff.1 hx).1
 obtain ⟨b0, o0, A4, c4, rfl, hb0, x0, x1, x2, x3, x4, hr4⟩ := hT.nth hx
 rw [hkk] at x4 hr4
 have HR4 := qh hr4
 clear hT hx hr4 hm
 have hll : (rowsT true (Tr.tokss ks)).length + 2 ≤ 549755813888 := by
  have h1 := hl
  simp [Tr.toks, lay] at h1
  omega
 have HLk := qh hll
 have HK := qh h
 have HKs := qh hks
 clear hll h hks hl hkk
 go_enter Tryd.func33, Tryd.ntmps33
 go_upto_region 4 with fail
 have HBa := qh (bel_one w (.cells #[.int .i64 8, .int .i64 at0, .string s, .int .i64 n, .slice A4 K c4] 51))
 have HBK := qh (Blk.new w 51 #[.int .i64 8, .int .i64 at0, .string s, .int .i64 n, .slice A4 K c4])
 have HT := qh (HT0.out.belw HBa.out)
 have HRk := qh (HR4.out.bel HBa.out)
 clear x0 x1 x2 x3 x4 HR4 hb0
 generalize w.alloc (.cells #[.int .i64 8, .int .i64 at0, .string s, .int .i64 n, .slice A4 K c4] 51) = W1 at HBa HBK HT HRk ⊢
 have g0 := HBK.out.cell 0
 have g2 := HBK.out.cell 2
 have g3 := HBK.out.cell 3
 have g4 := HBK.out.cell 4
 have glt := HBK.out.lt
 simp only [GG] at g0 g2 g3 g4
 have HB1 := qh (Below.refl W1.heap.size W1)
 go_upto_region 19 with fail
 go_wp2_with (first | (have hmk := HB5.out; clear hmk; at_builtin; go_must (refine wpList_appendT _ rfl _ _ rfl (.slice A4 r4 c4) ([signT gLp] ++ (rowsT true (Tr.tokss ks))) rfl (HR5o.out.bel (bel_one _ _)).own _ 1 1 [signT gRp] rfl (Rd.toks _ [signT gRp] _ 1 rfl rfl (by omega)) rfl (by have := HLk.out; simp only [LL]; omega) ?_); intro v6 w6 ho hg hn; have hz6 := Tz.app (HR5o.out.bel (bel_one _ _)) ho hg hn (Nat.le_trans HB5.out.size (alloc_le _ _)); have HB6 := qh ((HB5.out.trans (below_low (bel_one _ _) HB5.out.size)).trans (grown_below hg (Nat.le_trans HB5.out.size (alloc_le _ _)) HR5o.out.new)); obtain ⟨r6, hr⟩ : ∃ r, (([signT gLp] ++ (rowsT true (Tr.tokss ks))) ++ [signT gRp]).length = r := ⟨_, rfl⟩; obtain ⟨A6, c6, e6, -, -⟩ := Own.rd ho; rw [hr] at e6; subst e6; have HL6 := qh hr; have HR6o := qh hz6; clear ho hg hn hz6 hr HB5) | (have hmk := HB4.out; clear hmk; go_at_call 50; go_must (refine (sign50_any gRp _).mono ?_); rintro e w5 ⟨rfl, hb⟩; have HB5 := qh (HB4.out.trans (below_low hb HB4.out.size)); have HR5o := qh (HR4o.out.bel hb); clear hb HB4) | (have hmk := HB3.out; clear hmk; at_builtin; go_must (refine wpList_appendT _ rfl _ _ rfl (.slice (some ⟨w2.heap.size, 0, none⟩) 1 1) [signT gLp] rfl HR3o.out.own A3 r3 c3 (rowsT true (Tr.tokss ks)) rfl (HR3x.out.own.rdm HL3.out) HL3.out (by have := HLk.out; have := HL3.out; simp only [List.length_cons, List.length_nil]; omega) ?_); intro v4 w4 ho hg hn; have hz4 := Tz.app HR3o.out ho hg hn HB3.out.size; have HB4 := qh (HB3.out.trans (grown_below hg HB3.out.size HR3o.out.new)); obtain ⟨r4, hr⟩ : ∃ r, ([signT gLp] ++ (rowsT true (Tr.tokss ks))).length = r := ⟨_, rfl⟩; obtain ⟨A4, c4, e4, -, -⟩ := Own.rd ho; rw [hr] at e4; subst e4; have HL4 := qh hr; have HR4o := qh hz4; clear ho hg hn hz4 hr HB3) | (have hmk := HB2.out; clear hmk; go_at_call 51; go_must (refine (rows51 HKs.out hK true HK.out (by have := HLk.out; omega) _ (HT.out.belw (HB2.out.trans (below_low (bel_one _ _) HB2.out.size))) (HRk.out.bel (HB2.out.trans (below_low (bel_one _ _) HB2.out.size)))).mono ?_); rintro e w3 ⟨A3, c3, r3, rfl, hl3, hz, hb⟩; have HB3 := qh (HB2.out.trans (below_low (bel_al hb) HB2.out.size)); have HR3o := qh ((qh (Tz.made w2 (signT gLp) HB2.out.size)).out.bel hb); have HR3x := qh (hz.less (Nat.le_trans HB2.out.size (alloc_le _ _))); have HL3 := qh hl3; clear hz hb HB2) | (have hmk := HB1.out; clear hmk; go_at_call 50; go_must (refine (sign50_any gLp _).mono ?_); rintro e w2 ⟨rfl, hb⟩; have HB2 := qh (HB1.out.trans (below_low hb HB1.out.size)); clear hb HB1))
 go_ret
 exact tk_fin2 HBa.out HB6.out HR6o.out HL6.out (by simp [Tr.toks, lay])
end
section
open Go.RowKit
set_option linter.unusedVariables false
set_option linter.unusedSimpArgs false
theorem run_kid {W1 w0 w : World} {b o q K c j : Nat} {kids : List Int} {y : Int} (hr : Rd W1 (some ⟨b, o, none⟩) K c 1 (ics kids)) (h1 : Below W1.heap.size W1 w0) (h2 : Below W1.heap.size w0 w) (hj : kids[j]? = some y) (hK : 0 < K) (hq : q = o + j) : (Instr.loadAt 3 (.pointer (some ⟨b, q, none⟩))).run Tryd.prog w = .ok (.int .i64 y) w := by
 obtain ⟨b', o', e, hlt, hc⟩ := (hr.bel (h1.trans h2)).kid hj hK
 cases e
 subst hq
 go_simp
theorem run_str {W1 w0 w : World} {g : Nat} {cs : Array Value} {s : ByteArray} (hb : Blk W1 g 51 cs) (h1 : Below W1.heap.size W1 w0) (h2 : Below W1.heap.size w0 w) (hs : cs[2]? = some (.string s)) : (Instr.loadAt 9 (.pointer (some ⟨g, 2, none⟩))).run Tryd.prog w = .ok (.string s) w := by
 have h := hb.bel (h1.trans h2)
 have hlt := h.lt
 have hc := h.cell 2
 rw [hs] at hc
 go_simp
section
variable {gs : List Got} {ops : Array Oper} {B : Nat} {w0 : World} {a0 : Act} {i : Nat} {o : Oper}
theorem step_field {x : Operand} {p v : Value} {k : Nat} (hop : o.op = .fieldAddr 51 x k) (hx : Ev gs ops B w0 a0 i o x p) (hr : ∀ w, (Instr.fieldAt 51 p k).run Tryd.prog w = .ok v w) (hit : itOf gs i = .val v) (hd : o.dst ≠ none) : StepOk Tryd.prog gs ops B w0 a0 i o :=
 step_val (fun a w S hA => by unfold execOp; simp only [hop, hx a w S hA, Sem.run_bind, hr w, Result.andThen_ok, Sem.run_pure]) hit hd
theorem enter33 (args : Array Value) (w : World) : (callFunc 33 args).run Tryd.prog w = .ok (.enter 33 args) w := by go_simp
theorem enter49 (args : Array Value) (w : World) : (callFunc 49 args).run Tryd.prog w = .ok (.enter 49 args) w := by go_simp
theorem enter50 (args : Array Value) (w : World) : (callFunc 50 args).run Tryd.prog w = .ok (.enter 50 args) w := by go_simp
theorem enter51 (args : Array Value) (w : World) : (callFunc 51 args).run Tryd.prog w = .ok (.enter 51 args) w := by go_simp
theorem enter52 (args : Array Value) (w : World) : (callFunc 52 args).run Tryd.prog w = .ok (.enter 52 args) w := by go_simp
theorem enter53 (args : Array Value) (w : World) : (callFunc 53 args).run Tryd.prog w = .ok (.enter 53 args) w := by go_simp
theorem step_sign50 {x : Operand} {t : ByteArray} (hop : o.op = .call { callee := .value (.func 50), args := #[x], argTypes := #[9] }) (hx : Ev gs ops B w0 a0 i o x (.string t)) (hit : itOf gs i = .val (tokV (signT t))) (hd : o.dst ≠ none) : StepOk Tryd.prog gs ops B w0 a0 i o :=
 step_call enter50 (ps := [.string t]) hop (fun a w S hA => by simp [hx a w S hA]) (fun a w S hA => (sign50_any t w).mono (by rintro e w' ⟨rfl, hb⟩; exact ⟨_, rfl, hb, by rw [hit]; rfl⟩)) hd
theorem step_word49 {x : Operand} {t : ByteArray} (hop : o.op = .call { callee := .value (.func 49), args := #[x], argTypes := #[9] }) (hx : Ev gs ops B w0 a0 i o x (.string t)) (hit : itOf gs i = .val (tokV (wordT t))) (hd : o.dst ≠ none) : StepOk Tryd.prog gs ops B w0 a0 i o :=
 step_call enter49 (ps := [.string t]) hop (fun a w S hA => by simp [hx a w S hA]) (fun a w S hA => (word49_any t w).mono (by rintro e w' ⟨rfl, hb⟩; exact ⟨_, rfl, hb, by rw [hit]; rfl⟩)) hd
theorem tk_item {L : List TokD} {w : World} {f : FuncId} {ps : Array Value} {it : Item} (hit : it = .row L) (h : Calls Tryd.prog f ps w (TkP L w)) : Calls Tryd.prog f ps w fun e w' => ∃ v, e = .returned v ∧ Below w.heap.size w w' ∧ it.Is (fun g => w.heap.size ≤ g) v w' :=
 h.mono (by rintro e w' ⟨A, c, r, rfl, hl, hz, hb⟩; exact ⟨_, rfl, hb, by rw [hit]; exact ⟨hz.own, hz.new⟩⟩)
theorem step_tk2 {f : FuncId} (hf : ∀ (args : Array Value) (w : World), (callFunc f args).run Tryd.prog w = .ok (.enter f args) w) {x y : Operand} {p q : Value} {L : List TokD} {ts : Array TypeId} (hop : o.op = .call { callee := .value (.func f), args := #[x, y], argTypes := ts }) (hx : Ev gs ops B w0 a0 i o x p) (hy : Ev gs ops B w0 a0 i o y q)
  (hc : ∀ w, Below B w0 w → Calls Tryd.prog f #[p, q] w (TkP L w)) (hit : itOf gs i = .row L) (hd : o.dst ≠ none) : StepOk Tryd.prog gs ops B w0 a0 i o :=
 step_call hf (ps := [p, q]) hop (fun a w S hA => by simp [hx a w S hA, hy a w S hA]) (fun a w S hA => tk_item hit (hc w hA.bel)) hd
theorem step_tk1 {f : FuncId} (hf : ∀ (args : Array Value) (w : World), (callFunc f args).run Tryd.prog w = .ok (.enter f args) w) {x : Operand} {p : Value} {L : List TokD} {ts : Array TypeId} (hop : o.op = .call { callee := .value (.func f), args := #[x], argTypes := ts }) (hx : Ev gs ops B w0 a0 i o x p)
  (hc : ∀ w, Below B w0 w → Calls Tryd.prog f #[p] w (TkP L w)) (hit : itOf gs i = .row L) (hd : o.dst ≠ none) : StepOk Tryd.prog gs ops B w0 a0 i o :=
 step_call hf (ps := [p]) hop (fun a w S hA => by simp [hx a w S hA]) (fun a w S hA => tk_item hit (hc w hA.bel)) hd
theorem step_tk3 {f : FuncId} (hf : ∀ (args : Array Value) (w : World), (callFunc f args).run Tryd.prog w = .ok (.enter f args) w) {x y z : Operand} {p q r : Value} {L : List TokD} {ts : Array TypeId} (hop : o.op = .call { callee := .value (.func f), args := #[x, y, z], argTypes := ts }) (hx : Ev gs ops B w0 a0 i o x p) (hy : Ev gs ops B w0 a0 i o y q) (hz : Ev gs ops B w0 a0 i o z r)
  (hc : ∀ w, Below B w0 w → Calls Tryd.prog f #[p, q, r] w (TkP L w)) (hit : itOf gs i = .row L) (hd : o.dst ≠ none) : StepOk Tryd.prog gs ops B w0 a0 i o :=
 step_call hf (ps := [p, q, r]) hop (fun a w S hA => by simp [hx a w S hA, hy a w S hA, hz a w S hA]) (fun a w S hA => tk_item hit (hc w hA.bel)) hd
end
end
section
open Go.RowKit
set_option linter.unusedVariables false
set_option linter.unusedSimpArgs false
theorem insideT_len (t : List TokD) : (insideT t).length = t.length + 2 := by simp [insideT]
theorem tok33_10 {T : List NodeD} {A : Option Addr} {m c i : Nat} {at0 n : Int} {s : ByteArray} {j0 : Nat} {k0 : Tr} (hm : T.length = m) (hx : T[i]? = some ⟨10, at0, s, n, [(j0 : Int)]⟩) (h0 : TkAt T A m c j0 k0) (hl : (Tr.toks (.mk 10 n s [k0])).length ≤ 549755813888) : TkAt T A m c i (.mk 10 n s [k0]) := by
 intro w hT
 unfold TkP
 have HT0 := qh hT
 have hlen : i < m := by rw [← hm]; exact (List.getElem?_eq_some_iff.1 hx).1
 obtain ⟨b0, o0, A4, c4, rfl, hb0, x0, x1, x2, x3, x4, hr4⟩ := hT.nth hx
 obtain ⟨b4, o4, rfl, -, -⟩ := hr4.kid (j := 0) rfl (by simp)
 rw [show ([(j0 : Int)] : List Int).length = 1 from rfl] at x4 hr4
 have HR4 := qh hr4
 clear hT hx hr4 hm
 have hs : (insideT (Tr.toks k0)).length + 1 ≤ 549755813888 := by
  have h1 := hl
  simp [Tr.toks, Tr.tokss, lay, nthT] at h1
  omega
 have hi0 := insideT_len (Tr.toks k0)
 have HL0 : Hid ((Tr.toks k0).length ≤ 549755813888) := qh (by omega)
 have H0 := qh h0
 clear hi0 h0
 clear hl
 go_enter Tryd.func33, Tryd.ntmps33
 go_upto_region 4 with fail
 have HBa := qh (bel_one w (.cells #[.int .i64 10, .int .i64 at0, .string s, .int .i64 n, .slice (some ⟨b4, o4, none⟩) 1 c4] 51))
 have HBK := qh (Blk.new w 51 #[.int .i64 10, .int .i64 at0, .string s, .int .i64 n, .slice (some ⟨b4, o4, none⟩) 1 c4])
 have HT := qh (HT0.out.belw HBa.out)
 have HRk := qh (HR4.out.bel HBa.out)
 clear x0 x1 x2 x3 x4 HR4 hb0
 generalize w.alloc (.cells #[.int .i64 10, .int .i64 at0, .string s, .int .i64 n, .slice (some ⟨b4, o4, none⟩) 1 c4] 51) = W1 at HBa HBK HT HRk ⊢
 have g0 := HBK.out.cell 0
 have g2 := HBK.out.cell 2
 have g3 := HBK.out.cell 3
 have g4 := HBK.out.cell 4
 have glt := HBK.out.lt
 simp only [GG] at g0 g2 g3 g4
 have HB1 := qh (Below.refl W1.heap.size W1)
 go_upto_region 21 with fail
 refine wp_items (by kernel_rfl) [⟨70, none, .val (tokV (signT ⟨#[45]⟩))⟩, ⟨71, some 7, .row [signT ⟨#[45]⟩]⟩, ⟨72, none, .val (.slice (some ⟨b0, o0, none⟩) m c)⟩, ⟨73, none, .val (.slice (some ⟨b4, o4, none⟩) 1 c4)⟩, ⟨74, none, .val (.pointer (some ⟨b4, o4, none⟩))⟩, ⟨75, none, .val (.int .i64 (j0 : Int))⟩, ⟨76, none, .row (insideT (Tr.toks k0))⟩, ⟨77, some 8, .row ([signT ⟨#[45]⟩] ++ (insideT (Tr.toks k0)))⟩, ⟨4, none, .row ([signT ⟨#[45]⟩] ++ (insideT (Tr.toks k0)))⟩] [70, 71, 72, 73, 74, 75, 76, 77, 4] [none, some 7, none, none, none, none, none, some 8, none] rfl rfl 167 W1.heap.size (Nat.le_refl _) rfl (by kernel_rfl) [8] (by decide) (by decide) (Hold.nil W1.heap.size W1) ?_ [some 70, some 71, some 72, some 73, some 74, some 75, some 76, some 77, some 4] rfl [(4, .row ([signT ⟨#[45]⟩] ++ (insideT (Tr.toks k0))))] rfl rfl ?_
 ·exact ⟨step_sign50 rfl (Ev.const _) rfl (by simp), step_made1 rfl (Ev.item 0 (by kernel_rfl) (by kernel_rfl) rfl rfl) rfl (by simp), step_move rfl (Ev.base (by kernel_rfl) rfl) rfl (by simp), step_move rfl (Ev.base (by kernel_rfl) rfl) rfl (by simp), step_addr rfl (Ev.item 3 (by kernel_rfl) (by kernel_rfl) rfl rfl) (Ev.const _) (fun w => by go_simp) rfl (by simp), step_load rfl (Ev.item 4 (by kernel_rfl) (by kernel_rfl) rfl rfl) (fun a w S hA => run_kid HRk.out HB1.out hA.bel (show ([(j0 : Int)] : List Int)[0]? = some (j0 : Int) from rfl) (by omega) rfl) rfl (by simp), step_tk2 enter52 rfl (Ev.item 2 (by kernel_rfl) (by kernel_rfl) rfl rfl) (Ev.item 5 (by kernel_rfl) (by kernel_rfl) rfl rfl) (fun w hb => inside52 H0.out HL0.out w (HT.out.belw hb)) rfl (by simp), step_app 1 rfl (by kernel_rfl) rfl rfl rfl (EvRow.item 6 (by kernel_rfl) (by kernel_rfl) rfl rfl) (by (try simp only [LL]); omega) rfl (by simp), step_pass 7 (.inr rfl) (by kernel_rfl) rfl rfl rfl (by simp), True.intro⟩
 intro xs w9 hxs hbel hgr hh
 replace hxs : xs.length = 9 := hxs
 obtain ⟨x0, ys0, rfl, hx0⟩ := len_succ hxs
 obtain ⟨x1, ys1, rfl, hx1⟩ := len_succ hx0
 obtain ⟨x2, ys2, rfl, hx2⟩ := len_succ hx1
 obtain ⟨x3, ys3, rfl, hx3⟩ := len_succ hx2
 obtain ⟨x4, ys4, rfl, hx4⟩ := len_succ hx3
 obtain ⟨x5, ys5, rfl, hx5⟩ := len_succ hx4
 obtain ⟨x6, ys6, rfl, hx6⟩ := len_succ hx5
 obtain ⟨x7, ys7, rfl, hx7⟩ := len_succ hx6
 obtain ⟨x8, ys8, rfl, hx8⟩ := len_succ hx7
 obtain rfl := len_zero hx8
 clear hxs hx0 hx1 hx2 hx3 hx4 hx5 hx6 hx7 hx8
 replace hh : Hold W1.heap.size w9 [(x8, .row ([signT ⟨#[45]⟩] ++ (insideT (Tr.toks k0))))] := hh
 obtain ⟨A9, c9, e9, -, -⟩ := Own.rd hh.own
 have HR9 := qh (Tz.mk hh.own hh.head.2)
 obtain ⟨r9, hr9⟩ : ∃ r, (([signT ⟨#[45]⟩] ++ (insideT (Tr.toks k0)))).length = r := ⟨_, rfl⟩
 rw [hr9] at e9
 subst e9
 have HL9 := qh hr9
 have HB9 := qh (hbel)
 clear hbel hgr hr9
 simp only [List.zip_cons_cons, List.zip_nil_left, List.zip_nil_right, putAll]
 simp only [Act.put, PQ]
 clear hh
 go_wp2_with fail
 go_ret
 exact tk_fin2 HBa.out HB9.out HR9.out HL9.out (by show _ = signT gMinus :: (insideT (Tr.toks k0)); simp only [List.append_assoc, List.singleton_append, List.cons_append, List.nil_append])
theorem tok33_11 {T : List NodeD} {A : Option Addr} {m c i : Nat} {at0 n : Int} {s : ByteArray} {j0 : Nat} {k0 : Tr} (hm : T.length = m) (hx : T[i]? = some ⟨11, at0, s, n, [(j0 : Int)]⟩) (h0 : TkAt T A m c j0 k0) (hl : (Tr.toks (.mk 11 n s [k0])).length ≤ 549755813888) : TkAt T A m c i (.mk 11 n s [k0]) := by
 intro w hT
 unfold TkP
 have HT0 := qh hT
 have hlen : i < m := by rw [← hm]; exact (List.getElem?_eq_some_iff.1 hx).1
 obtain ⟨b0, o0, A4, c4, rfl, hb0, x0, x1, x2, x3, x4, hr4⟩ := hT.nth hx
 obtain ⟨b4, o4, rfl, -, -⟩ := hr4.kid (j := 0) rfl (by simp)
 rw [show ([(j0 : Int)] : List Int).length = 1 from rfl] at x4 hr4
 have HR4 := qh hr4
 clear hT hx hr4 hm
 have hs : (insideT (Tr.toks k0)).length + 1 ≤ 549755813888 := by
  have h1 := hl
  simp [Tr.toks, Tr.tokss, lay, nthT] at h1
  omega
 have hi0 := insideT_len (Tr.toks k0)
 have HL0 : Hid ((Tr.toks k0).length ≤ 549755813888) := qh (by omega)
 have H0 := qh h0
 clear hi0 h0
 clear hl
 go_enter Tryd.func33, Tryd.ntmps33
 go_upto_region 4 with fail
 have HBa := qh (bel_one w (.cells #[.int .i64 11, .int .i64 at0, .string s, .int .i64 n, .slice (some ⟨b4, o4, none⟩) 1 c4] 51))
 have HBK := qh (Blk.new w 51 #[.int .i64 11, .int .i64 at0, .string s, .int .i64 n, .slice (some ⟨b4, o4, none⟩) 1 c4])
 have HT := qh (HT0.out.belw HBa.out)
 have HRk := qh (HR4.out.bel HBa.out)
 clear x0 x1 x2 x3 x4 HR4 hb0
 generalize w.alloc (.cells #[.int .i64 11, .int .i64 at0, .string s, .int .i64 n, .slice (some ⟨b4, o4, none⟩) 1 c4] 51) = W1 at HBa HBK HT HRk ⊢
 have g0 := HBK.out.cell 0
 have g2 := HBK.out.cell 2
 have g3 := HBK.out.cell 3
 have g4 := HBK.out.cell 4
 have glt := HBK.out.lt
 simp only [GG] at g0 g2 g3 g4
 have HB1 := qh (Below.refl W1.heap.size W1)
 go_upto_region 23 with fail
 refine wp_items (by kernel_rfl) [⟨80, none, .val (tokV (wordT ⟨#[110, 111, 116]⟩))⟩, ⟨81, some 7, .row [wordT ⟨#[110, 111, 116]⟩]⟩, ⟨82, none, .val (.slice (some ⟨b0, o0, none⟩) m c)⟩, ⟨83, none, .val (.slice (some ⟨b4, o4, none⟩) 1 c4)⟩, ⟨84, none, .val (.pointer (some ⟨b4, o4, none⟩))⟩, ⟨85, none, .val (.int .i64 (j0 : Int))⟩, ⟨86, none, .row (insideT (Tr.toks k0))⟩, ⟨87, some 8, .row ([wordT ⟨#[110, 111, 116]⟩] ++ (insideT (Tr.toks k0)))⟩, ⟨4, none, .row ([wordT ⟨#[110, 111, 116]⟩] ++ (insideT (Tr.toks k0)))⟩] [80, 81, 82, 83, 84, 85, 86, 87, 4] [none, some 7, none, none, none, none, none, some 8, none] rfl rfl 167 W1.heap.size (Nat.le_refl _) rfl (by kernel_rfl) [8] (by decide) (by decide) (Hold.nil W1.heap.size W1) ?_ [some 80, some 81, some 82, some 83, some 84, some 85, some 86, some 87, some 4] rfl [(4, .row ([wordT ⟨#[110, 111, 116]⟩] ++ (insideT (Tr.toks k0))))] rfl rfl ?_
 ·exact ⟨step_word49 rfl (Ev.const _) rfl (by simp), step_made1 rfl (Ev.item 0 (by kernel_rfl) (by kernel_rfl) rfl rfl) rfl (by simp), step_move rfl (Ev.base (by kernel_rfl) rfl) rfl (by simp), step_move rfl (Ev.base (by kernel_rfl) rfl) rfl (by simp), step_addr rfl (Ev.item 3 (by kernel_rfl) (by kernel_rfl) rfl rfl) (Ev.const _) (fun w => by go_simp) rfl (by simp), step_load rfl (Ev.item 4 (by kernel_rfl) (by kernel_rfl) rfl rfl) (fun a w S hA => run_kid HRk.out HB1.out hA.bel (show ([(j0 : Int)] : List Int)[0]? = some (j0 : Int) from rfl) (by omega) rfl) rfl (by simp), step_tk2 enter52 rfl (Ev.item 2 (by kernel_rfl) (by kernel_rfl) rfl rfl) (Ev.item 5 (by kernel_rfl) (by kernel_rfl) rfl rfl) (fun w hb => inside52 H0.out HL0.out w (HT.out.belw hb)) rfl (by simp), step_app 1 rfl (by kernel_rfl) rfl rfl rfl (EvRow.item 6 (by kernel_rfl) (by kernel_rfl) rfl rfl) (by (try simp only [LL]); omega) rfl (by simp), step_pass 7 (.inr rfl) (by kernel_rfl) rfl rfl rfl (by simp), True.intro⟩
 intro xs w9 hxs hbel hgr hh
 replace hxs : xs.length = 9 := hxs
 obtain ⟨x0, ys0, rfl, hx0⟩ := len_succ hxs
 obtain ⟨x1, ys1, rfl, hx1⟩ := len_succ hx0
 obtain ⟨x2, ys2, rfl, hx2⟩ := len_succ hx1
 obtain ⟨x3, ys3, rfl, hx3⟩ := len_succ hx2
 obtain ⟨x4, ys4, rfl, hx4⟩ := len_succ hx3
 obtain ⟨x5, ys5, rfl, hx5⟩ := len_succ hx4
 obtain ⟨x6, ys6, rfl, hx6⟩ := len_succ hx5
 obtain ⟨x7, ys7, rfl, hx7⟩ := len_succ hx6
 obtain ⟨x8, ys8, rfl, hx8⟩ := len_succ hx7
 obtain rfl := len_zero hx8
 clear hxs hx0 hx1 hx2 hx3 hx4 hx5 hx6 hx7 hx8
 replace hh : Hold W1.heap.size w9 [(x8, .row ([wordT ⟨#[110, 111, 116]⟩] ++ (insideT (Tr.toks k0))))] := hh
 obtain ⟨A9, c9, e9, -, -⟩ := Own.rd hh.own
 have HR9 := qh (Tz.mk hh.own hh.head.2)
 obtain ⟨r9, hr9⟩ : ∃ r, (([wordT ⟨#[110, 111, 116]⟩] ++ (insideT (Tr.toks k0)))).length = r := ⟨_, rfl⟩
 rw [hr9] at e9
 subst e9
 have HL9 := qh hr9
 have HB9 := qh (hbel)
 clear hbel hgr hr9
 simp only [List.zip_cons_cons, List.zip_nil_left, List.zip_nil_right, putAll]
 simp only [Act.put, PQ]
 clear hh
 go_wp2_with fail
 go_ret
 exact tk_fin2 HBa.out HB9.out HR9.out HL9.out (by show _ = wordT kNot :: (insideT (Tr.toks k0)); simp only [List.append_assoc, List.singleton_append, List.cons_append, List.nil_append])
theorem tok33_12 {T : List NodeD} {A : Option Addr} {m c i : Nat} {at0 n : Int} {s : ByteArray} {j0 j1 : Nat} {k0 k1 : Tr} (hm : T.length = m) (hx : T[i]? = some ⟨12, at0, s, n, [(j0 : Int), (j1 : Int)]⟩) (h0 : TkAt T A m c j0 k0) (h1 : TkAt T A m c j1 k1) (hl : (Tr.toks (.mk 12 n s [k0, k1])).length ≤ 549755813888) : TkAt T A m c i (.mk 12 n s [k0, k1]) := by
 intro w hT
 unfold TkP
 have HT0 := qh hT
 have hlen : i < m := by rw [← hm]; exact (List.getElem?_eq_some_iff.1 hx).1
 obtain ⟨b0, o0, A4, c4, rfl, hb0, x0, x1, x2, x3, x4, hr4⟩ := hT.nth hx
 obtain ⟨b4, o4, rfl, -, -⟩ := hr4.kid (j := 0) rfl (by simp)
 rw [show ([(j0 : Int), (j1 : Int)] : List Int).length = 2 from rfl] at x4 hr4
 have HR4 := qh hr4
 clear hT hx hr4 hm
 have hs : (insideT (Tr.toks k0)).length + (opWords s).length + (insideT (Tr.toks k1)).length ≤ 549755813888 := by
  have h1 := hl
  simp [Tr.toks, Tr.tokss, lay, nthT] at h1
  omega
 have hi0 := insideT_len (Tr.toks k0)
 have HL0 : Hid ((Tr.toks k0).length ≤ 549755813888) := qh (by omega)
 have H0 := qh h0
 clear hi0 h0
 have hi1 := insideT_len (Tr.toks k1)
 have HL1 : Hid ((Tr.toks k1).length ≤ 549755813888) := qh (by omega)
 have H1 := qh h1
 clear hi1 h1
 clear hl
 go_enter Tryd.func33, Tryd.ntmps33
 go_upto_region 4 with fail
 have HBa := qh (bel_one w (.cells #[.int .i64 12, .int .i64 at0, .string s, .int .i64 n, .slice (some ⟨b4, o4, none⟩) 2 c4] 51))
 have HBK := qh (Blk.new w 51 #[.int .i64 12, .int .i64 at0, .string s, .int .i64 n, .slice (some ⟨b4, o4, none⟩) 2 c4])
 have HT := qh (HT0.out.belw HBa.out)
 have HRk := qh (HR4.out.bel HBa.out)
 clear x0 x1 x2 x3 x4 HR4 hb0
 generalize w.alloc (.cells #[.int .i64 12, .int .i64 at0, .string s, .int .i64 n, .slice (some ⟨b4, o4, none⟩) 2 c4] 51) = W1 at HBa HBK HT HRk ⊢
 have g0 := HBK.out.cell 0
 have g2 := HBK.out.cell 2
 have g3 := HBK.out.cell 3
 have g4 := HBK.out.cell 4
 have glt := HBK.out.lt
 simp only [GG] at g0 g2 g3 g4
 have HB1 := qh (Below.refl W1.heap.size W1)
 go_upto_region 26 with fail
 refine wp_items (by kernel_rfl) [⟨91, none, .val (.slice (some ⟨b0, o0, none⟩) m c)⟩, ⟨92, none, .val (.slice (some ⟨b4, o4, none⟩) 2 c4)⟩, ⟨93, none, .val (.pointer (some ⟨b4, o4, none⟩))⟩, ⟨94, none, .val (.int .i64 (j0 : Int))⟩, ⟨95, some 8, .row (insideT (Tr.toks k0))⟩, ⟨96, none, .val (.pointer (some ⟨w.heap.size, 2, none⟩))⟩, ⟨97, none, .val (.string s)⟩, ⟨98, none, .row (opWords s)⟩, ⟨99, some 14, .row ((insideT (Tr.toks k0)) ++ (opWords s))⟩, ⟨100, none, .val (.slice (some ⟨b0, o0, none⟩) m c)⟩, ⟨101, none, .val (.slice (some ⟨b4, o4, none⟩) 2 c4)⟩, ⟨102, none, .val (.pointer (some ⟨b4, o4 + 1, none⟩))⟩, ⟨103, none, .val (.int .i64 (j1 : Int))⟩, ⟨104, none, .row (insideT (Tr.toks k1))⟩, ⟨105, some 15, .row (((insideT (Tr.toks k0)) ++ (opWords s)) ++ (insideT (Tr.toks k1)))⟩, ⟨4, none, .row (((insideT (Tr.toks k0)) ++ (opWords s)) ++ (insideT (Tr.toks k1)))⟩] [91, 92, 93, 94, 95, 96, 97, 98, 99, 100, 101, 102, 103, 104, 105, 4] [none, none, none, none, some 8, none, none, none, some 14, none, none, none, none, none, some 15, none] rfl rfl 167 W1.heap.size (Nat.le_refl _) rfl (by kernel_rfl) [15] (by decide) (by decide) (Hold.nil W1.heap.size W1) ?_ [some 91, some 92, some 93, some 94, some 95, some 96, some 97, some 98, some 99, some 100, some 101, some 102, some 103, some 104, some 105, some 4] rfl [(4, .row (((insideT (Tr.toks k0)) ++ (opWords s)) ++ (insideT (Tr.toks k1))))] rfl rfl ?_
 ·exact ⟨step_move rfl (Ev.base (by kernel_rfl) rfl) rfl (by simp), step_move rfl (Ev.base (by kernel_rfl) rfl) rfl (by simp), step_addr rfl (Ev.item 1 (by kernel_rfl) (by kernel_rfl) rfl rfl) (Ev.const _) (fun w => by go_simp) rfl (by simp), step_load rfl (Ev.item 2 (by kernel_rfl) (by kernel_rfl) rfl rfl) (fun a w S hA => run_kid HRk.out HB1.out hA.bel (show ([(j0 : Int), (j1 : Int)] : List Int)[0]? = some (j0 : Int) from rfl) (by omega) rfl) rfl (by simp), step_tk2 enter52 rfl (Ev.item 0 (by kernel_rfl) (by kernel_rfl) rfl rfl) (Ev.item 3 (by kernel_rfl) (by kernel_rfl) rfl rfl) (fun w hb => inside52 H0.out HL0.out w (HT.out.belw hb)) rfl (by simp), step_field rfl (Ev.base (by kernel_rfl) rfl) (fun w => by go_simp) rfl (by simp), step_load rfl (Ev.item 5 (by kernel_rfl) (by kernel_rfl) rfl rfl) (fun a w S hA => run_str HBK.out HB1.out hA.bel rfl) rfl (by simp), step_tk1 enter53 rfl (Ev.item 6 (by kernel_rfl) (by kernel_rfl) rfl rfl) (fun w hb => words53_any s w) rfl (by simp), step_app 4 rfl (by kernel_rfl) rfl rfl rfl (EvRow.item 7 (by kernel_rfl) (by kernel_rfl) rfl rfl) (by (try simp only [LL]); omega) rfl (by simp), step_move rfl (Ev.base (by kernel_rfl) rfl) rfl (by simp), step_move rfl (Ev.base (by kernel_rfl) rfl) rfl (by simp), step_addr rfl (Ev.item 10 (by kernel_rfl) (by kernel_rfl) rfl rfl) (Ev.const _) (fun w => by go_simp) rfl (by simp), step_load rfl (Ev.item 11 (by kernel_rfl) (by kernel_rfl) rfl rfl) (fun a w S hA => run_kid HRk.out HB1.out hA.bel (show ([(j0 : Int), (j1 : Int)] : List Int)[1]? = some (j1 : Int) from rfl) (by omega) rfl) rfl (by simp), step_tk2 enter52 rfl (Ev.item 9 (by kernel_rfl) (by kernel_rfl) rfl rfl) (Ev.item 12 (by kernel_rfl) (by kernel_rfl) rfl rfl) (fun w hb => inside52 H1.out HL1.out w (HT.out.belw hb)) rfl (by simp), step_app 8 rfl (by kernel_rfl) rfl rfl rfl (EvRow.item 13 (by kernel_rfl) (by kernel_rfl) rfl rfl) (by (try simp only [LL]); omega) rfl (by simp), step_pass 14 (.inr rfl) (by kernel_rfl) rfl rfl rfl (by simp), True.intro⟩
 intro xs w9 hxs hbel hgr hh
 replace hxs : xs.length = 16 := hxs
 obtain ⟨x0, ys0, rfl, hx0⟩ := len_succ hxs
 obtain ⟨x1, ys1, rfl, hx1⟩ := len_succ hx0
 obtain ⟨x2, ys2, rfl, hx2⟩ := len_succ hx1
 obtain ⟨x3, ys3, rfl, hx3⟩ := len_succ hx2
 obtain ⟨x4, ys4, rfl, hx4⟩ := len_succ hx3
 obtain ⟨x5, ys5, rfl, hx5⟩ := len_succ hx4
 obtain ⟨x6, ys6, rfl, hx6⟩ := len_succ hx5
 obtain ⟨x7, ys7, rfl, hx7⟩ := len_succ hx6
 obtain ⟨x8, ys8, rfl, hx8⟩ := len_succ hx7
 obtain ⟨x9, ys9, rfl, hx9⟩ := len_succ hx8
 obtain ⟨x10, ys10, rfl, hx10⟩ := len_succ hx9
 obtain ⟨x11, ys11, rfl, hx11⟩ := len_succ hx10
 obtain ⟨x12, ys12, rfl, hx12⟩ := len_succ hx11
 obtain ⟨x13, ys13, rfl, hx13⟩ := len_succ hx12
 obtain ⟨x14, ys14, rfl, hx14⟩ := len_succ hx13
 obtain ⟨x15, ys15, rfl, hx15⟩ := len_succ hx14
 obtain rfl := len_zero hx15
 clear hxs hx0 hx1 hx2 hx3 hx4 hx5 hx6 hx7 hx8 hx9 hx10 hx11 hx12 hx13 hx14 hx15
 replace hh : Hold W1.heap.size w9 [(x15, .row (((insideT (Tr.toks k0)) ++ (opWords s)) ++ (insideT (Tr.toks k1))))] := hh
 obtain ⟨A9, c9, e9, -, -⟩ := Own.rd hh.own
 have HR9 := qh (Tz.mk hh.own hh.head.2)
 obtain ⟨r9, hr9⟩ : ∃ r, ((((insideT (Tr.toks k0)) ++ (opWords s)) ++ (insideT (Tr.toks k1)))).length = r := ⟨_, rfl⟩
 rw [hr9] at e9
 subst e9
 have HL9 := qh hr9
 have HB9 := qh (hbel)
 clear hbel hgr hr9
 simp only [List.zip_cons_cons, List.zip_nil_left, List.zip_nil_right, putAll]
 simp only [Act.put, PQ]
 clear hh
 go_wp2_with fail
 go_ret
 exact tk_fin2 HBa.out HB9.out HR9.out HL9.out (by show _ = (insideT (Tr.toks k0)) ++ (opWords s ++ (insideT (Tr.toks k1))); simp only [List.append_assoc, List.singleton_append, List.cons_append, List.nil_append])
theorem tok33_13 {T : List NodeD} {A : Option Addr} {m c i : Nat} {at0 n : Int} {s : ByteArray} {j0 j1 : Nat} {k0 k1 : Tr} (hm : T.length = m) (hx : T[i]? = some ⟨13, at0, s, n, [(j0 : Int), (j1 : Int)]⟩) (h0 : TkAt T A m c j0 k0) (h1 : TkAt T A m c j1 k1) (hl : (Tr.toks (.mk 13 n s [k0, k1])).length ≤ 549755813888) : TkAt T A m c i (.mk 13 n s [k0, k1]) := by
 intro w hT
 unfold TkP
 have HT0 := qh hT
 have hlen : i < m := by rw [← hm]; exact (List.getElem?_eq_some_iff.1 hx).1
 obtain ⟨b0, o0, A4, c4, rfl, hb0, x0, x1, x2, x3, x4, hr4⟩ := hT.nth hx
 obtain ⟨b4, o4, rfl, -, -⟩ := hr4.kid (j := 0) rfl (by simp)
 rw [show ([(j0 : Int), (j1 : Int)] : List Int).length = 2 from rfl] at x4 hr4
 have HR4 := qh hr4
 clear hT hx hr4 hm
 have hs : (insideT (Tr.toks k0)).length + (opWords s).length + (insideT (Tr.toks k1)).length ≤ 549755813888 := by
  have h1 := hl
  simp [Tr.toks, Tr.tokss, lay, nthT] at h1
  omega
 have hi0 := insideT_len (Tr.toks k0)
 have HL0 : Hid ((Tr.toks k0).length ≤ 549755813888) := qh (by omega)
 have H0 := qh h0
 clear hi0 h0
 have hi1 := insideT_len (Tr.toks k1)
 have HL1 : Hid ((Tr.toks k1).length ≤ 549755813888) := qh (by omega)
 have H1 := qh h1
 clear hi1 h1
 clear hl
 go_enter Tryd.func33, Tryd.ntmps33
 go_upto_region 4 with fail
 have HBa := qh (bel_one w (.cells #[.int .i64 13, .int .i64 at0, .string s, .int .i64 n, .slice (some ⟨b4, o4, none⟩) 2 c4] 51))
 have HBK := qh (Blk.new w 51 #[.int .i64 13, .int .i64 at0, .string s, .int .i64 n, .slice (some ⟨b4, o4, none⟩) 2 c4])
 have HT := qh (HT0.out.belw HBa.out)
 have HRk := qh (HR4.out.bel HBa.out)
 clear x0 x1 x2 x3 x4 HR4 hb0
 generalize w.alloc (.cells #[.int .i64 13, .int .i64 at0, .string s, .int .i64 n, .slice (some ⟨b4, o4, none⟩) 2 c4] 51) = W1 at HBa HBK HT HRk ⊢
 have g0 := HBK.out.cell 0
 have g2 := HBK.out.cell 2
 have g3 := HBK.out.cell 3
 have g4 := HBK.out.cell 4
 have glt := HBK.out.lt
 simp only [GG] at g0 g2 g3 g4
 have HB1 := qh (Below.refl W1.heap.size W1)
 go_upto_region 26 with fail
 refine wp_items (by kernel_rfl) [⟨91, none, .val (.slice (some ⟨b0, o0, none⟩) m c)⟩, ⟨92, none, .val (.slice (some ⟨b4, o4, none⟩) 2 c4)⟩, ⟨93, none, .val (.pointer (some ⟨b4, o4, none⟩))⟩, ⟨94, none, .val (.int .i64 (j0 : Int))⟩, ⟨95, some 8, .row (insideT (Tr.toks k0))⟩, ⟨96, none, .val (.pointer (some ⟨w.heap.size, 2, none⟩))⟩, ⟨97, none, .val (.string s)⟩, ⟨98, none, .row (opWords s)⟩, ⟨99, some 14, .row ((insideT (Tr.toks k0)) ++ (opWords s))⟩, ⟨100, none, .val (.slice (some ⟨b0, o0, none⟩) m c)⟩, ⟨101, none, .val (.slice (some ⟨b4, o4, none⟩) 2 c4)⟩, ⟨102, none, .val (.pointer (some ⟨b4, o4 + 1, none⟩))⟩, ⟨103, none, .val (.int .i64 (j1 : Int))⟩, ⟨104, none, .row (insideT (Tr.toks k1))⟩, ⟨105, some 15, .row (((insideT (Tr.toks k0)) ++ (opWords s)) ++ (insideT (Tr.toks k1)))⟩, ⟨4, none, .row (((insideT (Tr.toks k0)) ++ (opWords s)) ++ (insideT (Tr.toks k1)))⟩] [91, 92, 93, 94, 95, 96, 97, 98, 99, 100, 101, 102, 103, 104, 105, 4] [none, none, none, none, some 8, none, none, none, some 14, none, none, none, none, none, some 15, none] rfl rfl 167 W1.heap.size (Nat.le_refl _) rfl (by kernel_rfl) [15] (by decide) (by decide) (Hold.nil W1.heap.size W1) ?_ [some 91, some 92, some 93, some 94, some 95, some 96, some 97, some 98, some 99, some 100, some 101, some 102, some 103, some 104, some 105, some 4] rfl [(4, .row (((insideT (Tr.toks k0)) ++ (opWords s)) ++ (insideT (Tr.toks k1))))] rfl rfl ?_
 ·exact ⟨step_move rfl (Ev.base (by kernel_rfl) rfl) rfl (by simp), step_move rfl (Ev.base (by kernel_rfl) rfl) rfl (by simp), step_addr rfl (Ev.item 1 (by kernel_rfl) (by kernel_rfl) rfl rfl) (Ev.const _) (fun w => by go_simp) rfl (by simp), step_load rfl (Ev.item 2 (by kernel_rfl) (by kernel_rfl) rfl rfl) (fun a w S hA => run_kid HRk.out HB1.out hA.bel (show ([(j0 : Int), (j1 : Int)] : List Int)[0]? = some (j0 : Int) from rfl) (by omega) rfl) rfl (by simp), step_tk2 enter52 rfl (Ev.item 0 (by kernel_rfl) (by kernel_rfl) rfl rfl) (Ev.item 3 (by kernel_rfl) (by kernel_rfl) rfl rfl) (fun w hb => inside52 H0.out HL0.out w (HT.out.belw hb)) rfl (by simp), step_field rfl (Ev.base (by kernel_rfl) rfl) (fun w => by go_simp) rfl (by simp), step_load rfl (Ev.item 5 (by kernel_rfl) (by kernel_rfl) rfl rfl) (fun a w S hA => run_str HBK.out HB1.out hA.bel rfl) rfl (by simp), step_tk1 enter53 rfl (Ev.item 6 (by kernel_rfl) (by kernel_rfl) rfl rfl) (fun w hb => words53_any s w) rfl (by simp), step_app 4 rfl (by kernel_rfl) rfl rfl rfl (EvRow.item 7 (by kernel_rfl) (by kernel_rfl) rfl rfl) (by (try simp only [LL]); omega) rfl (by simp), step_move rfl (Ev.base (by kernel_rfl) rfl) rfl (by simp), step_move rfl (Ev.base (by kernel_rfl) rfl) rfl (by simp), step_addr rfl (Ev.item 10 (by kernel_rfl) (by kernel_rfl) rfl rfl) (Ev.const _) (fun w => by go_simp) rfl (by simp), step_load rfl (Ev.item 11 (by kernel_rfl) (by kernel_rfl) rfl rfl) (fun a w S hA => run_kid HRk.out HB1.out hA.bel (show ([(j0 : Int), (j1 : Int)] : List Int)[1]? = some (j1 : Int) from rfl) (by omega) rfl) rfl (by simp), step_tk2 enter52 rfl (Ev.item 9 (by kernel_rfl) (by kernel_rfl) rfl rfl) (Ev.item 12 (by kernel_rfl) (by kernel_rfl) rfl rfl) (fun w hb => inside52 H1.out HL1.out w (HT.out.belw hb)) rfl (by simp), step_app 8 rfl (by kernel_rfl) rfl rfl rfl (EvRow.item 13 (by kernel_rfl) (by kernel_rfl) rfl rfl) (by (try simp only [LL]); omega) rfl (by simp), step_pass 14 (.inr rfl) (by kernel_rfl) rfl rfl rfl (by simp), True.intro⟩
 intro xs w9 hxs hbel hgr hh
 replace hxs : xs.length = 16 := hxs
 obtain ⟨x0, ys0, rfl, hx0⟩ := len_succ hxs
 obtain ⟨x1, ys1, rfl, hx1⟩ := len_succ hx0
 obtain ⟨x2, ys2, rfl, hx2⟩ := len_succ hx1
 obtain ⟨x3, ys3, rfl, hx3⟩ := len_succ hx2
 obtain ⟨x4, ys4, rfl, hx4⟩ := len_succ hx3
 obtain ⟨x5, ys5, rfl, hx5⟩ := len_succ hx4
 obtain ⟨x6, ys6, rfl, hx6⟩ := len_succ hx5
 obtain ⟨x7, ys7, rfl, hx7⟩ := len_succ hx6
 obtain ⟨x8, ys8, rfl, hx8⟩ := len_succ hx7
 obtain ⟨x9, ys9, rfl, hx9⟩ := len_succ hx8
 obtain ⟨x10, ys10, rfl, hx10⟩ := len_succ hx9
 obtain ⟨x11, ys11, rfl, hx11⟩ := len_succ hx10
 obtain ⟨x12, ys12, rfl, hx12⟩ := len_succ hx11
 obtain ⟨x13, ys13, rfl, hx13⟩ := len_succ hx12
 obtain ⟨x14, ys14, rfl, hx14⟩ := len_succ hx13
 obtain ⟨x15, ys15, rfl, hx15⟩ := len_succ hx14
 obtain rfl := len_zero hx15
 clear hxs hx0 hx1 hx2 hx3 hx4 hx5 hx6 hx7 hx8 hx9 hx10 hx11 hx12 hx13 hx14 hx15
 replace hh : Hold W1.heap.size w9 [(x15, .row (((insideT (Tr.toks k0)) ++ (opWords s)) ++ (insideT (Tr.toks k1))))] := hh
 obtain ⟨A9, c9, e9, -, -⟩ := Own.rd hh.own
 have HR9 := qh (Tz.mk hh.own hh.head.2)
 obtain ⟨r9, hr9⟩ : ∃ r, ((((insideT (Tr.toks k0)) ++ (opWords s)) ++ (insideT (Tr.toks k1)))).length = r := ⟨_, rfl⟩
 rw [hr9] at e9
 subst e9
 have HL9 := qh hr9
 have HB9 := qh (hbel)
 clear hbel hgr hr9
 simp only [List.zip_cons_cons, List.zip_nil_left, List.zip_nil_right, putAll]
 simp only [Act.put, PQ]
 clear hh
 go_wp2_with fail
 go_ret
 exact tk_fin2 HBa.out HB9.out HR9.out HL9.out (by show _ = (insideT (Tr.toks k0)) ++ (opWords s ++ (insideT (Tr.toks k1))); simp only [List.append_assoc, List.singleton_append, List.cons_append, List.nil_append])
theorem tok33_14 {T : List NodeD} {A : Option Addr} {m c i : Nat} {at0 n : Int} {s : ByteArray} {j0 j1 : Nat} {k0 k1 : Tr} (hm : T.length = m) (hx : T[i]? = some ⟨14, at0, s, n, [(j0 : Int), (j1 : Int)]⟩) (h0 : TkAt T A m c j0 k0) (h1 : TkAt T A m c j1 k1) (hl : (Tr.toks (.mk 14 n s [k0, k1])).length ≤ 549755813888) : TkAt T A m c i (.mk 14 n s [k0, k1]) := by
 intro w hT
 unfold TkP
 have HT0 := qh hT
 have hlen : i < m := by rw [← hm]; exact (List.getElem?_eq_some_iff.1 hx).1
 obtain ⟨b0, o0, A4, c4, rfl, hb0, x0, x1, x2, x3, x4, hr4⟩ := hT.nth hx
 obtain ⟨b4, o4, rfl, -, -⟩ := hr4.kid (j := 0) rfl (by simp)
 rw [show ([(j0 : Int), (j1 : Int)] : List Int).length = 2 from rfl] at x4 hr4
 have HR4 := qh hr4
 clear hT hx hr4 hm
 have hs : (insideT (Tr.toks k0)).length + (insideT (Tr.toks k1)).length + 1 ≤ 549755813888 := by
  have h1 := hl
  simp [Tr.toks, Tr.tokss, lay, nthT] at h1
  omega
 have hi0 := insideT_len (Tr.toks k0)
 have HL0 : Hid ((Tr.toks k0).length ≤ 549755813888) := qh (by omega)
 have H0 := qh h0
 clear hi0 h0
 have hi1 := insideT_len (Tr.toks k1)
 have HL1 : Hid ((Tr.toks k1).length ≤ 549755813888) := qh (by omega)
 have H1 := qh h1
 clear hi1 h1
 clear hl
 go_enter Tryd.func33, Tryd.ntmps33
 go_upto_region 4 with fail
 have HBa := qh (bel_one w (.cells #[.int .i64 14, .int .i64 at0, .string s, .int .i64 n, .slice (some ⟨b4, o4, none⟩) 2 c4] 51))
 have HBK := qh (Blk.new w 51 #[.int .i64 14, .int .i64 at0, .string s, .int .i64 n, .slice (some ⟨b4, o4, none⟩) 2 c4])
 have HT := qh (HT0.out.belw HBa.out)
 have HRk := qh (HR4.out.bel HBa.out)
 clear x0 x1 x2 x3 x4 HR4 hb0
 generalize w.alloc (.cells #[.int .i64 14, .int .i64 at0, .string s, .int .i64 n, .slice (some ⟨b4, o4, none⟩) 2 c4] 51) = W1 at HBa HBK HT HRk ⊢
 have g0 := HBK.out.cell 0
 have g2 := HBK.out.cell 2
 have g3 := HBK.out.cell 3
 have g4 := HBK.out.cell 4
 have glt := HBK.out.lt
 simp only [GG] at g0 g2 g3 g4
 have HB1 := qh (Below.refl W1.heap.size W1)
 go_upto_region 28 with fail
 refine wp_items (by kernel_rfl) [⟨108, none, .val (.slice (some ⟨b0, o0, none⟩) m c)⟩, ⟨109, none, .val (.slice (some ⟨b4, o4, none⟩) 2 c4)⟩, ⟨110, none, .val (.pointer (some ⟨b4, o4, none⟩))⟩, ⟨111, none, .val (.int .i64 (j0 : Int))⟩, ⟨112, some 7, .row (insideT (Tr.toks k0))⟩, ⟨113, none, .val (tokV (wordT ⟨#[97, 110, 100]⟩))⟩, ⟨114, none, .row [wordT ⟨#[97, 110, 100]⟩]⟩, ⟨115, some 13, .row ((insideT (Tr.toks k0)) ++ [wordT ⟨#[97, 110, 100]⟩])⟩, ⟨116, none, .val (.slice (some ⟨b0, o0, none⟩) m c)⟩, ⟨117, none, .val (.slice (some ⟨b4, o4, none⟩) 2 c4)⟩, ⟨118, none, .val (.pointer (some ⟨b4, o4 + 1, none⟩))⟩, ⟨119, none, .val (.int .i64 (j1 : Int))⟩, ⟨120, none, .row (insideT (Tr.toks k1))⟩, ⟨121, some 14, .row (((insideT (Tr.toks k0)) ++ [wordT ⟨#[97, 110, 100]⟩]) ++ (insideT (Tr.toks k1)))⟩, ⟨4, none, .row (((insideT (Tr.toks k0)) ++ [wordT ⟨#[97, 110, 100]⟩]) ++ (insideT (Tr.toks k1)))⟩] [108, 109, 110, 111, 112, 113, 114, 115, 116, 117, 118, 119, 120, 121, 4] [none, none, none, none, some 7, none, none, some 13, none, none, none, none, none, some 14, none] rfl rfl 167 W1.heap.size (Nat.le_refl _) rfl (by kernel_rfl) [14] (by decide) (by decide) (Hold.nil W1.heap.size W1) ?_ [some 108, some 109, some 110, some 111, some 112, some 113, some 114, some 115, some 116, some 117, some 118, some 119, some 120, some 121, some 4] rfl [(4, .row (((insideT (Tr.toks k0)) ++ [wordT ⟨#[97, 110, 100]⟩]) ++ (insideT (Tr.toks k1))))] rfl rfl ?_
 ·exact ⟨step_move rfl (Ev.base (by kernel_rfl) rfl) rfl (by simp), step_move rfl (Ev.base (by kernel_rfl) rfl) rfl (by simp), step_addr rfl (Ev.item 1 (by kernel_rfl) (by kernel_rfl) rfl rfl) (Ev.const _) (fun w => by go_simp) rfl (by simp), step_load rfl (Ev.item 2 (by kernel_rfl) (by kernel_rfl) rfl rfl) (fun a w S hA => run_kid HRk.out HB1.out hA.bel (show ([(j0 : Int), (j1 : Int)] : List Int)[0]? = some (j0 : Int) from rfl) (by omega) rfl) rfl (by simp), step_tk2 enter52 rfl (Ev.item 0 (by kernel_rfl) (by kernel_rfl) rfl rfl) (Ev.item 3 (by kernel_rfl) (by kernel_rfl) rfl rfl) (fun w hb => inside52 H0.out HL0.out w (HT.out.belw hb)) rfl (by simp), step_word49 rfl (Ev.const _) rfl (by simp), step_made1 rfl (Ev.item 5 (by kernel_rfl) (by kernel_rfl) rfl rfl) rfl (by simp), step_app 4 rfl (by kernel_rfl) rfl rfl rfl (EvRow.item 6 (by kernel_rfl) (by kernel_rfl) rfl rfl) (by (try simp only [LL]); omega) rfl (by simp), step_move rfl (Ev.base (by kernel_rfl) rfl) rfl (by simp), step_move rfl (Ev.base (by kernel_rfl) rfl) rfl (by simp), step_addr rfl (Ev.item 9 (by kernel_rfl) (by kernel_rfl) rfl rfl) (Ev.const _) (fun w => by go_simp) rfl (by simp), step_load rfl (Ev.item 10 (by kernel_rfl) (by kernel_rfl) rfl rfl) (fun a w S hA => run_kid HRk.out HB1.out hA.bel (show ([(j0 : Int), (j1 : Int)] : List Int)[1]? = some (j1 : Int) from rfl) (by omega) rfl) rfl (by simp), step_tk2 enter52 rfl (Ev.item 8 (by kernel_rfl) (by kernel_rfl) rfl rfl) (Ev.item 11 (by kernel_rfl) (by kernel_rfl) rfl rfl) (fun w hb => inside52 H1.out HL1.out w (HT.out.belw hb)) rfl (by simp), step_app 7 rfl (by kernel_rfl) rfl rfl rfl (EvRow.item 12 (by kernel_rfl) (by kernel_rfl) rfl rfl) (by (try simp only [LL]); omega) rfl (by simp), step_pass 13 (.inr rfl) (by kernel_rfl) rfl rfl rfl (by simp), True.intro⟩
 intro xs w9 hxs hbel hgr hh
 replace hxs : xs.length = 15 := hxs
 obtain ⟨x0, ys0, rfl, hx0⟩ := len_succ hxs
 obtain ⟨x1, ys1, rfl, hx1⟩ := len_succ hx0
 obtain ⟨x2, ys2, rfl, hx2⟩ := len_succ hx1
 obtain ⟨x3, ys3, rfl, hx3⟩ := len_succ hx2
 obtain ⟨x4, ys4, rfl, hx4⟩ := len_succ hx3
 obtain ⟨x5, ys5, rfl, hx5⟩ := len_succ hx4
 obtain ⟨x6, ys6, rfl, hx6⟩ := len_succ hx5
 obtain ⟨x7, ys7, rfl, hx7⟩ := len_succ hx6
 obtain ⟨x8, ys8, rfl, hx8⟩ := len_succ hx7
 obtain ⟨x9, ys9, rfl, hx9⟩ := len_succ hx8
 obtain ⟨x10, ys10, rfl, hx10⟩ := len_succ hx9
 obtain ⟨x11, ys11, rfl, hx11⟩ := len_succ hx10
 obtain ⟨x12, ys12, rfl, hx12⟩ := len_succ hx11
 obtain ⟨x13, ys13, rfl, hx13⟩ := len_succ hx12
 obtain ⟨x14, ys14, rfl, hx14⟩ := len_succ hx13
 obtain rfl := len_zero hx14
 clear hxs hx0 hx1 hx2 hx3 hx4 hx5 hx6 hx7 hx8 hx9 hx10 hx11 hx12 hx13 hx14
 replace hh : Hold W1.heap.size w9 [(x14, .row (((insideT (Tr.toks k0)) ++ [wordT ⟨#[97, 110, 100]⟩]) ++ (insideT (Tr.toks k1))))] := hh
 obtain ⟨A9, c9, e9, -, -⟩ := Own.rd hh.own
 have HR9 := qh (Tz.mk hh.own hh.head.2)
 obtain ⟨r9, hr9⟩ : ∃ r, ((((insideT (Tr.toks k0)) ++ [wordT ⟨#[97, 110, 100]⟩]) ++ (insideT (Tr.toks k1)))).length = r := ⟨_, rfl⟩
 rw [hr9] at e9
 subst e9
 have HL9 := qh hr9
 have HB9 := qh (hbel)
 clear hbel hgr hr9
 simp only [List.zip_cons_cons, List.zip_nil_left, List.zip_nil_right, putAll]
 simp only [Act.put, PQ]
 clear hh
 go_wp2_with fail
 go_ret
 exact tk_fin2 HBa.out HB9.out HR9.out HL9.out (by show _ = (insideT (Tr.toks k0)) ++ (wordT kAnd :: (insideT (Tr.toks k1))); simp only [List.append_assoc, List.singleton_append, List.cons_append, List.nil_append])
theorem tok33_15 {T : List NodeD} {A : Option Addr} {m c i : Nat} {at0 n : Int} {s : ByteArray} {j0 j1 : Nat} {k0 k1 : Tr} (hm : T.length = m) (hx : T[i]? = some ⟨15, at0, s, n, [(j0 : Int), (j1 : Int)]⟩) (h0 : TkAt T A m c j0 k0) (h1 : TkAt T A m c j1 k1) (hl : (Tr.toks (.mk 15 n s [k0, k1])).length ≤ 549755813888) : TkAt T A m c i (.mk 15 n s [k0, k1]) := by
 intro w hT
 unfold TkP
 have HT0 := qh hT
 have hlen : i < m := by rw [← hm]; exact (List.getElem?_eq_some_iff.1 hx).1
 obtain ⟨b0, o0, A4, c4, rfl, hb0, x0, x1, x2, x3, x4, hr4⟩ := hT.nth hx
 obtain ⟨b4, o4, rfl, -, -⟩ := hr4.kid (j := 0) rfl (by simp)
 rw [show ([(j0 : Int), (j1 : Int)] : List Int).length = 2 from rfl] at x4 hr4
 have HR4 := qh hr4
 clear hT hx hr4 hm
 have hs : (insideT (Tr.toks k0)).length + (insideT (Tr.toks k1)).length + 1 ≤ 549755813888 := by
  have h1 := hl
  simp [Tr.toks, Tr.tokss, lay, nthT] at h1
  omega
 have hi0 := insideT_len (Tr.toks k0)
 have HL0 : Hid ((Tr.toks k0).length ≤ 549755813888) := qh (by omega)
 have H0 := qh h0
 clear hi0 h0
 have hi1 := insideT_len (Tr.toks k1)
 have HL1 : Hid ((Tr.toks k1).length ≤ 549755813888) := qh (by omega)
 have H1 := qh h1
 clear hi1 h1
 clear hl
 go_enter Tryd.func33, Tryd.ntmps33
 go_upto_region 4 with fail
 have HBa := qh (bel_one w (.cells #[.int .i64 15, .int .i64 at0, .string s, .int .i64 n, .slice (some ⟨b4, o4, none⟩) 2 c4] 51))
 have HBK := qh (Blk.new w 51 #[.int .i64 15, .int .i64 at0, .string s, .int .i64 n, .slice (some ⟨b4, o4, none⟩) 2 c4])
 have HT := qh (HT0.out.belw HBa.out)
 have HRk := qh (HR4.out.bel HBa.out)
 clear x0 x1 x2 x3 x4 HR4 hb0
 generalize w.alloc (.cells #[.int .i64 15, .int .i64 at0, .string s, .int .i64 n, .slice (some ⟨b4, o4, none⟩) 2 c4] 51) = W1 at HBa HBK HT HRk ⊢
 have g0 := HBK.out.cell 0
 have g2 := HBK.out.cell 2
 have g3 := HBK.out.cell 3
 have g4 := HBK.out.cell 4
 have glt := HBK.out.lt
 simp only [GG] at g0 g2 g3 g4
 have HB1 := qh (Below.refl W1.heap.size W1)
 go_upto_region 30 with fail
 refine wp_items (by kernel_rfl) [⟨124, none, .val (.slice (some ⟨b0, o0, none⟩) m c)⟩, ⟨125, none, .val (.slice (some ⟨b4, o4, none⟩) 2 c4)⟩, ⟨126, none, .val (.pointer (some ⟨b4, o4, none⟩))⟩, ⟨127, none, .val (.int .i64 (j0 : Int))⟩, ⟨128, some 7, .row (insideT (Tr.toks k0))⟩, ⟨129, none, .val (tokV (wordT ⟨#[111, 114]⟩))⟩, ⟨130, none, .row [wordT ⟨#[111, 114]⟩]⟩, ⟨131, some 13, .row ((insideT (Tr.toks k0)) ++ [wordT ⟨#[111, 114]⟩])⟩, ⟨132, none, .val (.slice (some ⟨b0, o0, none⟩) m c)⟩, ⟨133, none, .val (.slice (some ⟨b4, o4, none⟩) 2 c4)⟩, ⟨134, none, .val (.pointer (some ⟨b4, o4 + 1, none⟩))⟩, ⟨135, none, .val (.int .i64 (j1 : Int))⟩, ⟨136, none, .row (insideT (Tr.toks k1))⟩, ⟨137, some 14, .row (((insideT (Tr.toks k0)) ++ [wordT ⟨#[111, 114]⟩]) ++ (insideT (Tr.toks k1)))⟩, ⟨4, none, .row (((insideT (Tr.toks k0)) ++ [wordT ⟨#[111, 114]⟩]) ++ (insideT (Tr.toks k1)))⟩] [124, 125, 126, 127, 128, 129, 130, 131, 132, 133, 134, 135, 136, 137, 4] [none, none, none, none, some 7, none, none, some 13, none, none, none, none, none, some 14, none] rfl rfl 167 W1.heap.size (Nat.le_refl _) rfl (by kernel_rfl) [14] (by decide) (by decide) (Hold.nil W1.heap.size W1) ?_ [some 124, some 125, some 126, some 127, some 128, some 129, some 130, some 131, some 132, some 133, some 134, some 135, some 136, some 137, some 4] rfl [(4, .row (((insideT (Tr.toks k0)) ++ [wordT ⟨#[111, 114]⟩]) ++ (insideT (Tr.toks k1))))] rfl rfl ?_
 ·exact ⟨step_move rfl (Ev.base (by kernel_rfl) rfl) rfl (by simp), step_move rfl (Ev.base (by kernel_rfl) rfl) rfl (by simp), step_addr rfl (Ev.item 1 (by kernel_rfl) (by kernel_rfl) rfl rfl) (Ev.const _) (fun w => by go_simp) rfl (by simp), step_load rfl (Ev.item 2 (by kernel_rfl) (by kernel_rfl) rfl rfl) (fun a w S hA => run_kid HRk.out HB1.out hA.bel (show ([(j0 : Int), (j1 : Int)] : List Int)[0]? = some (j0 : Int) from rfl) (by omega) rfl) rfl (by simp), step_tk2 enter52 rfl (Ev.item 0 (by kernel_rfl) (by kernel_rfl) rfl rfl) (Ev.item 3 (by kernel_rfl) (by kernel_rfl) rfl rfl) (fun w hb => inside52 H0.out HL0.out w (HT.out.belw hb)) rfl (by simp), step_word49 rfl (Ev.const _) rfl (by simp), step_made1 rfl (Ev.item 5 (by kernel_rfl) (by kernel_rfl) rfl rfl) rfl (by simp), step_app 4 rfl (by kernel_rfl) rfl rfl rfl (EvRow.item 6 (by kernel_rfl) (by kernel_rfl) rfl rfl) (by (try simp only [LL]); omega) rfl (by simp), step_move rfl (Ev.base (by kernel_rfl) rfl) rfl (by simp), step_move rfl (Ev.base (by kernel_rfl) rfl) rfl (by simp), step_addr rfl (Ev.item 9 (by kernel_rfl) (by kernel_rfl) rfl rfl) (Ev.const _) (fun w => by go_simp) rfl (by simp), step_load rfl (Ev.item 10 (by kernel_rfl) (by kernel_rfl) rfl rfl) (fun a w S hA => run_kid HRk.out HB1.out hA.bel (show ([(j0 : Int), (j1 : Int)] : List Int)[1]? = some (j1 : Int) from rfl) (by omega) rfl) rfl (by simp), step_tk2 enter52 rfl (Ev.item 8 (by kernel_rfl) (by kernel_rfl) rfl rfl) (Ev.item 11 (by kernel_rfl) (by kernel_rfl) rfl rfl) (fun w hb => inside52 H1.out HL1.out w (HT.out.belw hb)) rfl (by simp), step_app 7 rfl (by kernel_rfl) rfl rfl rfl (EvRow.item 12 (by kernel_rfl) (by kernel_rfl) rfl rfl) (by (try simp only [LL]); omega) rfl (by simp), step_pass 13 (.inr rfl) (by kernel_rfl) rfl rfl rfl (by simp), True.intro⟩
 intro xs w9 hxs hbel hgr hh
 replace hxs : xs.length = 15 := hxs
 obtain ⟨x0, ys0, rfl, hx0⟩ := len_succ hxs
 obtain ⟨x1, ys1, rfl, hx1⟩ := len_succ hx0
 obtain ⟨x2, ys2, rfl, hx2⟩ := len_succ hx1
 obtain ⟨x3, ys3, rfl, hx3⟩ := len_succ hx2
 obtain ⟨x4, ys4, rfl, hx4⟩ := len_succ hx3
 obtain ⟨x5, ys5, rfl, hx5⟩ := len_succ hx4
 obtain ⟨x6, ys6, rfl, hx6⟩ := len_succ hx5
 obtain ⟨x7, ys7, rfl, hx7⟩ := len_succ hx6
 obtain ⟨x8, ys8, rfl, hx8⟩ := len_succ hx7
 obtain ⟨x9, ys9, rfl, hx9⟩ := len_succ hx8
 obtain ⟨x10, ys10, rfl, hx10⟩ := len_succ hx9
 obtain ⟨x11, ys11, rfl, hx11⟩ := len_succ hx10
 obtain ⟨x12, ys12, rfl, hx12⟩ := len_succ hx11
 obtain ⟨x13, ys13, rfl, hx13⟩ := len_succ hx12
 obtain ⟨x14, ys14, rfl, hx14⟩ := len_succ hx13
 obtain rfl := len_zero hx14
 clear hxs hx0 hx1 hx2 hx3 hx4 hx5 hx6 hx7 hx8 hx9 hx10 hx11 hx12 hx13 hx14
 replace hh : Hold W1.heap.size w9 [(x14, .row (((insideT (Tr.toks k0)) ++ [wordT ⟨#[111, 114]⟩]) ++ (insideT (Tr.toks k1))))] := hh
 obtain ⟨A9, c9, e9, -, -⟩ := Own.rd hh.own
 have HR9 := qh (Tz.mk hh.own hh.head.2)
 obtain ⟨r9, hr9⟩ : ∃ r, ((((insideT (Tr.toks k0)) ++ [wordT ⟨#[111, 114]⟩]) ++ (insideT (Tr.toks k1)))).length = r := ⟨_, rfl⟩
 rw [hr9] at e9
 subst e9
 have HL9 := qh hr9
 have HB9 := qh (hbel)
 clear hbel hgr hr9
 simp only [List.zip_cons_cons, List.zip_nil_left, List.zip_nil_right, putAll]
 simp only [Act.put, PQ]
 clear hh
 go_wp2_with fail
 go_ret
 exact tk_fin2 HBa.out HB9.out HR9.out HL9.out (by show _ = (insideT (Tr.toks k0)) ++ (wordT kOr :: (insideT (Tr.toks k1))); simp only [List.append_assoc, List.singleton_append, List.cons_append, List.nil_append])
theorem tok33_16 {T : List NodeD} {A : Option Addr} {m c i : Nat} {at0 n : Int} {s : ByteArray} {j0 j1 j2 : Nat} {k0 k1 k2 : Tr} (hm : T.length = m) (hx : T[i]? = some ⟨16, at0, s, n, [(j0 : Int), (j1 : Int), (j2 : Int)]⟩) (h0 : TkAt T A m c j0 k0) (h1 : TkAt T A m c j1 k1) (h2 : TkAt T A m c j2 k2) (hl : (Tr.toks (.mk 16 n s [k0, k1, k2])).length ≤ 549755813888) : TkAt T A m c i (.mk 16 n s [k0, k1, k2]) := by
 intro w hT
 unfold TkP
 have HT0 := qh hT
 have hlen : i < m := by rw [← hm]; exact (List.getElem?_eq_some_iff.1 hx).1
 obtain ⟨b0, o0, A4, c4, rfl, hb0, x0, x1, x2, x3, x4, hr4⟩ := hT.nth hx
 obtain ⟨b4, o4, rfl, -, -⟩ := hr4.kid (j := 0) rfl (by simp)
 rw [show ([(j0 : Int), (j1 : Int), (j2 : Int)] : List Int).length = 3 from rfl] at x4 hr4
 have HR4 := qh hr4
 clear hT hx hr4 hm
 have hs : (insideT (Tr.toks k0)).length + (insideT (Tr.toks k1)).length + (insideT (Tr.toks k2)).length + 2 ≤ 549755813888 := by
  have h1 := hl
  simp [Tr.toks, Tr.tokss, lay, nthT] at h1
  omega
 have hi0 := insideT_len (Tr.toks k0)
 have HL0 : Hid ((Tr.toks k0).length ≤ 549755813888) := qh (by omega)
 have H0 := qh h0
 clear hi0 h0
 have hi1 := insideT_len (Tr.toks k1)
 have HL1 : Hid ((Tr.toks k1).length ≤ 549755813888) := qh (by omega)
 have H1 := qh h1
 clear hi1 h1
 have hi2 := insideT_len (Tr.toks k2)
 have HL2 : Hid ((Tr.toks k2).length ≤ 549755813888) := qh (by omega)
 have H2 := qh h2
 clear hi2 h2
 clear hl
 go_enter Tryd.func33, Tryd.ntmps33
 go_upto_region 4 with fail
 have HBa := qh (bel_one w (.cells #[.int .i64 16, .int .i64 at0, .string s, .int .i64 n, .slice (some ⟨b4, o4, none⟩) 3 c4] 51))
 have HBK := qh (Blk.new w 51 #[.int .i64 16, .int .i64 at0, .string s, .int .i64 n, .slice (some ⟨b4, o4, none⟩) 3 c4])
 have HT := qh (HT0.out.belw HBa.out)
 have HRk := qh (HR4.out.bel HBa.out)
 clear x0 x1 x2 x3 x4 HR4 hb0
 generalize w.alloc (.cells #[.int .i64 16, .int .i64 at0, .string s, .int .i64 n, .slice (some ⟨b4, o4, none⟩) 3 c4] 51) = W1 at HBa HBK HT HRk ⊢
 have g0 := HBK.out.cell 0
 have g2 := HBK.out.cell 2
 have g3 := HBK.out.cell 3
 have g4 := HBK.out.cell 4
 have glt := HBK.out.lt
 simp only [GG] at g0 g2 g3 g4
 have HB1 := qh (Below.refl W1.heap.size W1)
 go_upto_region 32 with fail
 refine wp_items (by kernel_rfl) [⟨140, none, .val (.slice (some ⟨b0, o0, none⟩) m c)⟩, ⟨141, none, .val (.slice (some ⟨b4, o4, none⟩) 3 c4)⟩, ⟨142, none, .val (.pointer (some ⟨b4, o4, none⟩))⟩, ⟨143, none, .val (.int .i64 (j0 : Int))⟩, ⟨144, some 7, .row (insideT (Tr.toks k0))⟩, ⟨145, none, .val (tokV (wordT ⟨#[105, 102]⟩))⟩, ⟨146, none, .row [wordT ⟨#[105, 102]⟩]⟩, ⟨147, some 13, .row ((insideT (Tr.toks k0)) ++ [wordT ⟨#[105, 102]⟩])⟩, ⟨148, none, .val (.slice (some ⟨b0, o0, none⟩) m c)⟩, ⟨149, none, .val (.slice (some ⟨b4, o4, none⟩) 3 c4)⟩, ⟨150, none, .val (.pointer (some ⟨b4, o4 + 1, none⟩))⟩, ⟨151, none, .val (.int .i64 (j1 : Int))⟩, ⟨152, none, .row (insideT (Tr.toks k1))⟩, ⟨153, some 14, .row (((insideT (Tr.toks k0)) ++ [wordT ⟨#[105, 102]⟩]) ++ (insideT (Tr.toks k1)))⟩, ⟨7, none, .row (((insideT (Tr.toks k0)) ++ [wordT ⟨#[105, 102]⟩]) ++ (insideT (Tr.toks k1)))⟩] [140, 141, 142, 143, 144, 145, 146, 147, 148, 149, 150, 151, 152, 153, 7] [none, none, none, none, some 7, none, none, some 13, none, none, none, none, none, some 14, none] rfl rfl 167 W1.heap.size (Nat.le_refl _) rfl (by kernel_rfl) [14] (by decide) (by decide) (Hold.nil W1.heap.size W1) ?_ [some 140, some 141, some 142, some 143, some 144, some 145, some 146, some 147, some 148, some 149, some 150, some 151, some 152, some 153, some 7] rfl [(7, .row (((insideT (Tr.toks k0)) ++ [wordT ⟨#[105, 102]⟩]) ++ (insideT (Tr.toks k1))))] rfl rfl ?_
 ·exact ⟨step_move rfl (Ev.base (by kernel_rfl) rfl) rfl (by simp), step_move rfl (Ev.base (by kernel_rfl) rfl) rfl (by simp), step_addr rfl (Ev.item 1 (by kernel_rfl) (by kernel_rfl) rfl rfl) (Ev.const _) (fun w => by go_simp) rfl (by simp), step_load rfl (Ev.item 2 (by kernel_rfl) (by kernel_rfl) rfl rfl) (fun a w S hA => run_kid HRk.out HB1.out hA.bel (show ([(j0 : Int), (j1 : Int), (j2 : Int)] : List Int)[0]? = some (j0 : Int) from rfl) (by omega) rfl) rfl (by simp), step_tk2 enter52 rfl (Ev.item 0 (by kernel_rfl) (by kernel_rfl) rfl rfl) (Ev.item 3 (by kernel_rfl) (by kernel_rfl) rfl rfl) (fun w hb => inside52 H0.out HL0.out w (HT.out.belw hb)) rfl (by simp), step_word49 rfl (Ev.const _) rfl (by simp), step_made1 rfl (Ev.item 5 (by kernel_rfl) (by kernel_rfl) rfl rfl) rfl (by simp), step_app 4 rfl (by kernel_rfl) rfl rfl rfl (EvRow.item 6 (by kernel_rfl) (by kernel_rfl) rfl rfl) (by (try simp only [LL]); omega) rfl (by simp), step_move rfl (Ev.base (by kernel_rfl) rfl) rfl (by simp), step_move rfl (Ev.base (by kernel_rfl) rfl) rfl (by simp), step_addr rfl (Ev.item 9 (by kernel_rfl) (by kernel_rfl) rfl rfl) (Ev.const _) (fun w => by go_simp) rfl (by simp), step_load rfl (Ev.item 10 (by kernel_rfl) (by kernel_rfl) rfl rfl) (fun a w S hA => run_kid HRk.out HB1.out hA.bel (show ([(j0 : Int), (j1 : Int), (j2 : Int)] : List Int)[1]? = some (j1 : Int) from rfl) (by omega) rfl) rfl (by simp), step_tk2 enter52 rfl (Ev.item 8 (by kernel_rfl) (by kernel_rfl) rfl rfl) (Ev.item 11 (by kernel_rfl) (by kernel_rfl) rfl rfl) (fun w hb => inside52 H1.out HL1.out w (HT.out.belw hb)) rfl (by simp), step_app 7 rfl (by kernel_rfl) rfl rfl rfl (EvRow.item 12 (by kernel_rfl) (by kernel_rfl) rfl rfl) (by (try simp only [LL]); omega) rfl (by simp), step_pass 13 (.inr rfl) (by kernel_rfl) rfl rfl rfl (by simp), True.intro⟩
 intro xs w8 hxs hbel hgr hh
 replace hxs : xs.length = 15 := hxs
 obtain ⟨x0, ys0, rfl, hx0⟩ := len_succ hxs
 obtain ⟨x1, ys1, rfl, hx1⟩ := len_succ hx0
 obtain ⟨x2, ys2, rfl, hx2⟩ := len_succ hx1
 obtain ⟨x3, ys3, rfl, hx3⟩ := len_succ hx2
 obtain ⟨x4, ys4, rfl, hx4⟩ := len_succ hx3
 obtain ⟨x5, ys5, rfl, hx5⟩ := len_succ hx4
 obtain ⟨x6, ys6, rfl, hx6⟩ := len_succ hx5
 obtain ⟨x7, ys7, rfl, hx7⟩ := len_succ hx6
 obtain ⟨x8, ys8, rfl, hx8⟩ := len_succ hx7
 obtain ⟨x9, ys9, rfl, hx9⟩ := len_succ hx8
 obtain ⟨x10, ys10, rfl, hx10⟩ := len_succ hx9
 obtain ⟨x11, ys11, rfl, hx11⟩ := len_succ hx10
 obtain ⟨x12, ys12, rfl, hx12⟩ := len_succ hx11
 obtain ⟨x13, ys13, rfl, hx13⟩ := len_succ hx12
 obtain ⟨x14, ys14, rfl, hx14⟩ := len_succ hx13
 obtain rfl := len_zero hx14
 clear hxs hx0 hx1 hx2 hx3 hx4 hx5 hx6 hx7 hx8 hx9 hx10 hx11 hx12 hx13 hx14
 replace hh : Hold W1.heap.size w8 [(x14, .row (((insideT (Tr.toks k0)) ++ [wordT ⟨#[105, 102]⟩]) ++ (insideT (Tr.toks k1))))] := hh
 obtain ⟨A8, c8, e8, -, -⟩ := Own.rd hh.own
 have HR8 := qh (Tz.mk hh.own hh.head.2)
 obtain ⟨r8, hr8⟩ : ∃ r, ((((insideT (Tr.toks k0)) ++ [wordT ⟨#[105, 102]⟩]) ++ (insideT (Tr.toks k1)))).length = r := ⟨_, rfl⟩
 rw [hr8] at e8
 subst e8
 have HL8 := qh hr8
 have HB8 := qh (hbel)
 clear hbel hgr hr8
 simp only [List.zip_cons_cons, List.zip_nil_left, List.zip_nil_right, putAll]
 simp only [Act.put, PQ]
 go_upto_region 33 with fail
 refine wp_items (by kernel_rfl) [⟨154, some 3, .row (((insideT (Tr.toks k0)) ++ [wordT ⟨#[105, 102]⟩]) ++ (insideT (Tr.toks k1)))⟩, ⟨155, none, .val (tokV (wordT ⟨#[101, 108, 115, 101]⟩))⟩, ⟨156, none, .row [wordT ⟨#[101, 108, 115, 101]⟩]⟩, ⟨157, some 9, .row ((((insideT (Tr.toks k0)) ++ [wordT ⟨#[105, 102]⟩]) ++ (insideT (Tr.toks k1))) ++ [wordT ⟨#[101, 108, 115, 101]⟩])⟩, ⟨158, none, .val (.slice (some ⟨b0, o0, none⟩) m c)⟩, ⟨159, none, .val (.slice (some ⟨b4, o4, none⟩) 3 c4)⟩, ⟨160, none, .val (.pointer (some ⟨b4, o4 + 2, none⟩))⟩, ⟨161, none, .val (.int .i64 (j2 : Int))⟩, ⟨162, none, .row (insideT (Tr.toks k2))⟩, ⟨163, some 10, .row (((((insideT (Tr.toks k0)) ++ [wordT ⟨#[105, 102]⟩]) ++ (insideT (Tr.toks k1))) ++ [wordT ⟨#[101, 108, 115, 101]⟩]) ++ (insideT (Tr.toks k2)))⟩, ⟨4, none, .row (((((insideT (Tr.toks k0)) ++ [wordT ⟨#[105, 102]⟩]) ++ (insideT (Tr.toks k1))) ++ [wordT ⟨#[101, 108, 115, 101]⟩]) ++ (insideT (Tr.toks k2)))⟩, ⟨7, some 0, .row (((insideT (Tr.toks k0)) ++ [wordT ⟨#[105, 102]⟩]) ++ (insideT (Tr.toks k1)))⟩] [154, 155, 156, 157, 158, 159, 160, 161, 162, 163, 4, 7] [some 3, none, none, some 9, none, none, none, none, none, some 10, none, some 0] rfl rfl 167 W1.heap.size HB8.out.size rfl (by kernel_rfl) [10] (by decide) (by decide) hh ?_ [some 154, some 155, some 156, some 157, some 158, some 159, some 160, some 161, some 162, some 163, some 4] rfl [(4, .row (((((insideT (Tr.toks k0)) ++ [wordT ⟨#[105, 102]⟩]) ++ (insideT (Tr.toks k1))) ++ [wordT ⟨#[101, 108, 115, 101]⟩]) ++ (insideT (Tr.toks k2))))] rfl rfl ?_
 ·exact ⟨step_pass 11 (.inl rfl) (by kernel_rfl) rfl rfl rfl (by simp), step_word49 rfl (Ev.const _) rfl (by simp), step_made1 rfl (Ev.item 1 (by kernel_rfl) (by kernel_rfl) rfl rfl) rfl (by simp), step_app 0 rfl (by kernel_rfl) rfl rfl rfl (EvRow.item 2 (by kernel_rfl) (by kernel_rfl) rfl rfl) (by (try simp only [LL]); omega) rfl (by simp), step_move rfl (Ev.base (by kernel_rfl) rfl) rfl (by simp), step_move rfl (Ev.base (by kernel_rfl) rfl) rfl (by simp), step_addr rfl (Ev.item 5 (by kernel_rfl) (by kernel_rfl) rfl rfl) (Ev.const _) (fun w => by go_simp) rfl (by simp), step_load rfl (Ev.item 6 (by kernel_rfl) (by kernel_rfl) rfl rfl) (fun a w S hA => run_kid HRk.out HB8.out hA.bel (show ([(j0 : Int), (j1 : Int), (j2 : Int)] : List Int)[2]? = some (j2 : Int) from rfl) (by omega) rfl) rfl (by simp), step_tk2 enter52 rfl (Ev.item 4 (by kernel_rfl) (by kernel_rfl) rfl rfl) (Ev.item 7 (by kernel_rfl) (by kernel_rfl) rfl rfl) (fun w hb => inside52 H2.out HL2.out w (HT.out.belw (HB8.out.trans hb))) rfl (by simp), step_app 3 rfl (by kernel_rfl) rfl rfl rfl (EvRow.item 8 (by kernel_rfl) (by kernel_rfl) rfl rfl) (by (try simp only [LL]); omega) rfl (by simp), step_pass 9 (.inr rfl) (by kernel_rfl) rfl rfl rfl (by simp), True.intro⟩
 clear hh
 intro xs w9 hxs hbel hgr hh
 replace hxs : xs.length = 11 := hxs
 obtain ⟨x0, ys0, rfl, hx0⟩ := len_succ hxs
 obtain ⟨x1, ys1, rfl, hx1⟩ := len_succ hx0
 obtain ⟨x2, ys2, rfl, hx2⟩ := len_succ hx1
 obtain ⟨x3, ys3, rfl, hx3⟩ := len_succ hx2
 obtain ⟨x4, ys4, rfl, hx4⟩ := len_succ hx3
 obtain ⟨x5, ys5, rfl, hx5⟩ := len_succ hx4
 obtain ⟨x6, ys6, rfl, hx6⟩ := len_succ hx5
 obtain ⟨x7, ys7, rfl, hx7⟩ := len_succ hx6
 obtain ⟨x8, ys8, rfl, hx8⟩ := len_succ hx7
 obtain ⟨x9, ys9, rfl, hx9⟩ := len_succ hx8
 obtain ⟨x10, ys10, rfl, hx10⟩ := len_succ hx9
 obtain rfl := len_zero hx10
 clear hxs hx0 hx1 hx2 hx3 hx4 hx5 hx6 hx7 hx8 hx9 hx10
 replace hh : Hold W1.heap.size w9 [(x10, .row (((((insideT (Tr.toks k0)) ++ [wordT ⟨#[105, 102]⟩]) ++ (insideT (Tr.toks k1))) ++ [wordT ⟨#[101, 108, 115, 101]⟩]) ++ (insideT (Tr.toks k2))))] := hh
 obtain ⟨A9, c9, e9, -, -⟩ := Own.rd hh.own
 have HR9 := qh (Tz.mk hh.own hh.head.2)
 obtain ⟨r9, hr9⟩ : ∃ r, ((((((insideT (Tr.toks k0)) ++ [wordT ⟨#[105, 102]⟩]) ++ (insideT (Tr.toks k1))) ++ [wordT ⟨#[101, 108, 115, 101]⟩]) ++ (insideT (Tr.toks k2)))).length = r := ⟨_, rfl⟩
 rw [hr9] at e9
 subst e9
 have HL9 := qh hr9
 have HB9 := qh (HB8.out.trans hbel)
 clear hbel hgr hr9
 simp only [List.zip_cons_cons, List.zip_nil_left, List.zip_nil_right, putAll]
 simp only [Act.put, PQ]
 clear hh
 go_wp2_with fail
 go_ret
 exact tk_fin2 HBa.out HB9.out HR9.out HL9.out (by show _ = (insideT (Tr.toks k0)) ++ (wordT kIf :: ((insideT (Tr.toks k1)) ++ (wordT kElse :: (insideT (Tr.toks k2))))); simp only [List.append_assoc, List.singleton_append, List.cons_append, List.nil_append])
end
end Go.Proofs.YtjdcicopjipmnaaDoor
