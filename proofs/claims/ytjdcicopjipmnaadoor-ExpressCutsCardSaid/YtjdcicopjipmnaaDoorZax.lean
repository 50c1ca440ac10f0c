/- Tokens: a part of a row of kids. Tokens: what stands behind something. Tokens: those that more writes. Steps of drawn regions: a length, a sum, a part of a row of kids. Tokens: dicts, lambdas. Tokens: a call. Tokens: dicts. -/
import Derived.Test.YtjdcicopjipmnaaDoorZav
import Derived.Test.YtjdcicopjipmnaaDoorZaw
namespace Go.Proofs.YtjdcicopjipmnaaDoor
set_option maxRecDepth 100000
set_option maxHeartbeats 8000000
section
open Go.RowKit
set_option linter.unusedVariables false
theorem Rd.from1 {w : World} {b o K c : Nat} {y : Int} {l : List Int} (h : Rd w (some ⟨b, o, none⟩) (K + 1) c 1 (ics (y :: l))) : Rd w (some ⟨b, o + 1, none⟩) K (c - 1) 1 (ics l) := by
 obtain ⟨h1, h2, h3, h4⟩ := h
 obtain ⟨b', o', e, hb, hc⟩ := h4 (by omega)
 cases e
 refine ⟨by omega, by omega, by simp [ics] at h3 ⊢; omega, fun _ => ⟨b, o + 1, rfl, hb, fun j u hj => ?_⟩⟩
 have := hc (j + 1) u (by simpa [ics] using hj)
 rw [show o + 1 + j = o + (j + 1) from by omega]
 exact this
end
section
open Go.RowKit
set_option linter.unusedVariables false
set_option linter.unusedSimpArgs false
def MoreAt (T : List NodeD) (A : Option Addr) (m c j : Nat) (k : Tr) : Prop := ∀ w, RowN (fun _ => False) w (.slice A m c) T → Calls Tryd.prog 54 #[.slice A m c, .int .i64 j] w (TkP (Tr.toks k) w)
theorem more54_18 {T : List NodeD} {A : Option Addr} {m c i : Nat} {at0 n : Int} {s : ByteArray} {j0 : Nat} {k0 : Tr} (hm : T.length = m) (hx : T[i]? = some ⟨18, at0, s, n, [(j0 : Int)]⟩) (h0 : TkAt T A m c j0 k0) (hl : (Tr.toks (.mk 18 n s [k0])).length ≤ 549755813888) : MoreAt T A m c i (.mk 18 n s [k0]) := by
 intro w hT
 unfold TkP
 have HT0 := qh hT
 have hlen : i < m := by rw [← hm]; exact (List.getElem?_eq_some_iff.1 hx).1
 obtain ⟨b0, o0, A4, c4, rfl, hb0, x0, x1, x2, x3, x4, hr4⟩ := hT.nth hx
 obtain ⟨b4, o4, rfl, -, -⟩ := hr4.kid (j := 0) rfl (by simp)
 rw [show ([(j0 : Int)] : List Int).length = 1 from rfl] at x4 hr4
 have HR4 := qh hr4
 clear hT hx hr4 hm
 have hs : (insideT (Tr.toks k0)).length + 2 ≤ 549755813888 := by
  have h1 := hl
  simp [Tr.toks, Tr.tokss, lay, nthT] at h1
  omega
 have hi0 := insideT_len (Tr.toks k0)
 have HL0 : Hid ((Tr.toks k0).length ≤ 549755813888) := qh (by omega)
 have H0 := qh h0
 clear hi0 h0
 clear hl
 go_enter Tryd.func54, Tryd.ntmps54
 go_upto_region 4 with fail
 have HBa := qh (bel_one w (.cells #[.int .i64 18, .int .i64 at0, .string s, .int .i64 n, .slice (some ⟨b4, o4, none⟩) 1 c4] 51))
 have HBK := qh (Blk.new w 51 #[.int .i64 18, .int .i64 at0, .string s, .int .i64 n, .slice (some ⟨b4, o4, none⟩) 1 c4])
 have HT := qh (HT0.out.belw HBa.out)
 have HRk := qh (HR4.out.bel HBa.out)
 clear x0 x1 x2 x3 x4 HR4 hb0
 generalize w.alloc (.cells #[.int .i64 18, .int .i64 at0, .string s, .int .i64 n, .slice (some ⟨b4, o4, none⟩) 1 c4] 51) = W1 at HBa HBK HT HRk ⊢
 have g0 := HBK.out.cell 0
 have g2 := HBK.out.cell 2
 have g3 := HBK.out.cell 3
 have g4 := HBK.out.cell 4
 have glt := HBK.out.lt
 simp only [GG] at g0 g2 g3 g4
 have HB1 := qh (Below.refl W1.heap.size W1)
 go_upto_region 15 with fail
 refine wp_items (by kernel_rfl) [⟨80, none, .val (.slice (some ⟨b0, o0, none⟩) m c)⟩, ⟨81, none, .val (.slice (some ⟨b4, o4, none⟩) 1 c4)⟩, ⟨82, none, .val (.pointer (some ⟨b4, o4, none⟩))⟩, ⟨83, none, .val (.int .i64 (j0 : Int))⟩, ⟨84, some 10, .row (insideT (Tr.toks k0))⟩, ⟨85, none, .val (tokV (signT ⟨#[46]⟩))⟩, ⟨86, none, .val (.pointer (some ⟨w.heap.size, 2, none⟩))⟩, ⟨87, none, .val (.string s)⟩, ⟨88, none, .val (tokV (wordT s))⟩, ⟨89, none, .row [signT ⟨#[46]⟩, wordT s]⟩, ⟨90, some 11, .row ((insideT (Tr.toks k0)) ++ [signT ⟨#[46]⟩, wordT s])⟩, ⟨4, none, .row ((insideT (Tr.toks k0)) ++ [signT ⟨#[46]⟩, wordT s])⟩] [80, 81, 82, 83, 84, 85, 86, 87, 88, 89, 90, 4] [none, none, none, none, some 10, none, none, none, none, none, some 11, none] rfl rfl 183 W1.heap.size (Nat.le_refl _) rfl (by kernel_rfl) [11] (by decide) (by decide) (Hold.nil W1.heap.size W1) ?_ [some 80, some 81, some 82, some 83, some 84, some 85, some 86, some 87, some 88, some 89, some 90, some 4] rfl [(4, .row ((insideT (Tr.toks k0)) ++ [signT ⟨#[46]⟩, wordT s]))] rfl rfl ?_
 ·exact ⟨step_move rfl (Ev.base (by kernel_rfl) rfl) rfl (by simp), step_move rfl (Ev.base (by kernel_rfl) rfl) rfl (by simp), step_addr rfl (Ev.item 1 (by kernel_rfl) (by kernel_rfl) rfl rfl) (Ev.const _) (fun w => by go_simp) rfl (by simp), step_load rfl (Ev.item 2 (by kernel_rfl) (by kernel_rfl) rfl rfl) (fun a w S hA => run_kid HRk.out HB1.out hA.bel (show ([(j0 : Int)] : List Int)[0]? = some (j0 : Int) from rfl) (by omega) rfl) rfl (by simp), step_tk2 enter52 rfl (Ev.item 0 (by kernel_rfl) (by kernel_rfl) rfl rfl) (Ev.item 3 (by kernel_rfl) (by kernel_rfl) rfl rfl) (fun w hb => inside52 H0.out HL0.out w (HT.out.belw hb)) rfl (by simp), step_sign50 rfl (Ev.const _) rfl (by simp), step_field rfl (Ev.base (by kernel_rfl) rfl) (fun w => by go_simp) rfl (by simp), step_load rfl (Ev.item 6 (by kernel_rfl) (by kernel_rfl) rfl rfl) (fun a w S hA => run_str HBK.out HB1.out hA.bel rfl) rfl (by simp), step_word49 rfl (Ev.item 7 (by kernel_rfl) (by kernel_rfl) rfl rfl) rfl (by simp), step_made2 rfl (Ev.item 5 (by kernel_rfl) (by kernel_rfl) rfl rfl) (Ev.item 8 (by kernel_rfl) (by kernel_rfl) rfl rfl) rfl (by simp), step_app 4 rfl (by kernel_rfl) rfl rfl rfl (EvRow.item 9 (by kernel_rfl) (by kernel_rfl) rfl rfl) (by (try simp only [LL]); omega) rfl (by simp), step_pass 10 (.inr rfl) (by kernel_rfl) rfl rfl rfl (by simp), True.intro⟩
 intro xs w9 hxs hbel hgr hh
 replace hxs : xs.length = 12 := hxs
 obtain ⟨x0, ys0, rfl, hx0⟩ := len_succ hxs
 obtain ⟨x1, ys1, rfl, hx1⟩ := len_succ hx0
 obtain ⟨x2, ys2, rfl, hx2⟩ := len_succ hx1
 obtain ⟨x3, ys3, rfl, hx3⟩ := len_succ hx2
 obtain ⟨x4, ys4, rfl, hx4⟩ := len_succ hx3
 obtain ⟨x5, ys5, rfl, hx5⟩ := len_succ hx4
 obtain ⟨x6, ys6, rfl, hx6⟩ := len_succ hx5
 obtain ⟨x7, ys7, rfl, hx7⟩ := len_succ hx6
 obtain ⟨x8, ys8, rfl, hx8⟩ := len_succ hx7
 obtain ⟨x9, ys9, rfl, hx9⟩ := len_succ hx8
 obtain ⟨x10, ys10, rfl, hx10⟩ := len_succ hx9
 obtain ⟨x11, ys11, rfl, hx11⟩ := len_succ hx10
 obtain rfl := len_zero hx11
 clear hxs hx0 hx1 hx2 hx3 hx4 hx5 hx6 hx7 hx8 hx9 hx10 hx11
 replace hh : Hold W1.heap.size w9 [(x11, .row ((insideT (Tr.toks k0)) ++ [signT ⟨#[46]⟩, wordT s]))] := hh
 obtain ⟨A9, c9, e9, -, -⟩ := Own.rd hh.own
 have HR9 := qh (Tz.mk hh.own hh.head.2)
 obtain ⟨r9, hr9⟩ : ∃ r, (((insideT (Tr.toks k0)) ++ [signT ⟨#[46]⟩, wordT s])).length = r := ⟨_, rfl⟩
 rw [hr9] at e9
 subst e9
 have HL9 := qh hr9
 have HB9 := qh (hbel)
 clear hbel hgr hr9
 simp only [List.zip_cons_cons, List.zip_nil_left, List.zip_nil_right, putAll]
 simp only [Act.put, PQ]
 clear hh
 go_wp2_with fail
 go_ret
 exact tk_fin2 HBa.out HB9.out HR9.out HL9.out (by show _ = (insideT (Tr.toks k0)) ++ [signT gDot, wordT s]; simp only [List.append_assoc, List.singleton_append, List.cons_append, List.nil_append])
theorem more54_20 {T : List NodeD} {A : Option Addr} {m c i : Nat} {at0 n : Int} {s : ByteArray} {j0 j1 j2 : Nat} {k0 k1 k2 : Tr} (hm : T.length = m) (hx : T[i]? = some ⟨20, at0, s, n, [(j0 : Int), (j1 : Int), (j2 : Int)]⟩) (h0 : TkAt T A m c j0 k0) (h1 : TkAt T A m c j1 k1) (h2 : TkAt T A m c j2 k2) (hl : (Tr.toks (.mk 20 n s [k0, k1, k2])).length ≤ 549755813888) : MoreAt T A m c i (.mk 20 n s [k0, k1, k2]) := by
 intro w hT
 unfold TkP
 have HT0 := qh hT
 have hlen : i < m := by rw [← hm]; exact (List.getElem?_eq_some_iff.1 hx).1
 obtain ⟨b0, o0, A4, c4, rfl, hb0, x0, x1, x2, x3, x4, hr4⟩ := hT.nth hx
 obtain ⟨b4, o4, rfl, -, -⟩ := hr4.kid (j := 0) rfl (by simp)
 rw [show ([(j0 : Int), (j1 : Int), (j2 : Int)] : List Int).length = 3 from rfl] at x4 hr4
 have HR4 := qh hr4
 clear hT hx hr4 hm
 have hs : (insideT (Tr.toks k0)).length + (Tr.toks k1).length + (Tr.toks k2).length + 3 ≤ 549755813888 := by
  have h1 := hl
  simp [Tr.toks, Tr.tokss, lay, nthT] at h1
  omega
 have hi0 := insideT_len (Tr.toks k0)
 have HL0 : Hid ((Tr.toks k0).length ≤ 549755813888) := qh (by omega)
 have H0 := qh h0
 clear hi0 h0
 have hi1 := insideT_len (Tr.toks k1)
 have HL1 : Hid ((Tr.toks k1).length ≤ 549755813888) := qh (by omega)
 have H1 := qh h1
 clear hi1 h1
 have hi2 := insideT_len (Tr.toks k2)
 have HL2 : Hid ((Tr.toks k2).length ≤ 549755813888) := qh (by omega)
 have H2 := qh h2
 clear hi2 h2
 clear hl
 go_enter Tryd.func54, Tryd.ntmps54
 go_upto_region 4 with fail
 have HBa := qh (bel_one w (.cells #[.int .i64 20, .int .i64 at0, .string s, .int .i64 n, .slice (some ⟨b4, o4, none⟩) 3 c4] 51))
 have HBK := qh (Blk.new w 51 #[.int .i64 20, .int .i64 at0, .string s, .int .i64 n, .slice (some ⟨b4, o4, none⟩) 3 c4])
 have HT := qh (HT0.out.belw HBa.out)
 have HRk := qh (HR4.out.bel HBa.out)
 clear x0 x1 x2 x3 x4 HR4 hb0
 generalize w.alloc (.cells #[.int .i64 20, .int .i64 at0, .string s, .int .i64 n, .slice (some ⟨b4, o4, none⟩) 3 c4] 51) = W1 at HBa HBK HT HRk ⊢
 have g0 := HBK.out.cell 0
 have g2 := HBK.out.cell 2
 have g3 := HBK.out.cell 3
 have g4 := HBK.out.cell 4
 have glt := HBK.out.lt
 simp only [GG] at g0 g2 g3 g4
 have HB1 := qh (Below.refl W1.heap.size W1)
 go_upto_region 20 with fail
 refine wp_items (by kernel_rfl) [⟨113, none, .val (.slice (some ⟨b0, o0, none⟩) m c)⟩, ⟨114, none, .val (.slice (some ⟨b4, o4, none⟩) 3 c4)⟩, ⟨115, none, .val (.pointer (some ⟨b4, o4, none⟩))⟩, ⟨116, none, .val (.int .i64 (j0 : Int))⟩, ⟨117, some 7, .row (insideT (Tr.toks k0))⟩, ⟨118, none, .val (tokV (signT ⟨#[91]⟩))⟩, ⟨119, none, .row [signT ⟨#[91]⟩]⟩, ⟨120, some 13, .row ((insideT (Tr.toks k0)) ++ [signT ⟨#[91]⟩])⟩, ⟨121, none, .val (.slice (some ⟨b0, o0, none⟩) m c)⟩, ⟨122, none, .val (.slice (some ⟨b4, o4, none⟩) 3 c4)⟩, ⟨123, none, .val (.pointer (some ⟨b4, o4 + 1, none⟩))⟩, ⟨124, none, .val (.int .i64 (j1 : Int))⟩, ⟨125, none, .row (Tr.toks k1)⟩, ⟨126, some 14, .row (((insideT (Tr.toks k0)) ++ [signT ⟨#[91]⟩]) ++ (Tr.toks k1))⟩, ⟨11, none, .row (((insideT (Tr.toks k0)) ++ [signT ⟨#[91]⟩]) ++ (Tr.toks k1))⟩] [113, 114, 115, 116, 117, 118, 119, 120, 121, 122, 123, 124, 125, 126, 11] [none, none, none, none, some 7, none, none, some 13, none, none, none, none, none, some 14, none] rfl rfl 183 W1.heap.size (Nat.le_refl _) rfl (by kernel_rfl) [14] (by decide) (by decide) (Hold.nil W1.heap.size W1) ?_ [some 113, some 114, some 115, some 116, some 117, some 118, some 119, some 120, some 121, some 122, some 123, some 124, some 125, some 126, some 11] rfl [(11, .row (((insideT (Tr.toks k0)) ++ [signT ⟨#[91]⟩]) ++ (Tr.toks k1)))] rfl rfl ?_
 ·exact ⟨step_move rfl (Ev.base (by kernel_rfl) rfl) rfl (by simp), step_move rfl (Ev.base (by kernel_rfl) rfl) rfl (by simp), step_addr rfl (Ev.item 1 (by kernel_rfl) (by kernel_rfl) rfl rfl) (Ev.const _) (fun w => by go_simp) rfl (by simp), step_load rfl (Ev.item 2 (by kernel_rfl) (by kernel_rfl) rfl rfl) (fun a w S hA => run_kid HRk.out HB1.out hA.bel (show ([(j0 : Int), (j1 : Int), (j2 : Int)] : List Int)[0]? = some (j0 : Int) from rfl) (by omega) rfl) rfl (by simp), step_tk2 enter52 rfl (Ev.item 0 (by kernel_rfl) (by kernel_rfl) rfl rfl) (Ev.item 3 (by kernel_rfl) (by kernel_rfl) rfl rfl) (fun w hb => inside52 H0.out HL0.out w (HT.out.belw hb)) rfl (by simp), step_sign50 rfl (Ev.const _) rfl (by simp), step_made1 rfl (Ev.item 5 (by kernel_rfl) (by kernel_rfl) rfl rfl) rfl (by simp), step_app 4 rfl (by kernel_rfl) rfl rfl rfl (EvRow.item 6 (by kernel_rfl) (by kernel_rfl) rfl rfl) (by (try simp only [LL]); omega) rfl (by simp), step_move rfl (Ev.base (by kernel_rfl) rfl) rfl (by simp), step_move rfl (Ev.base (by kernel_rfl) rfl) rfl (by simp), step_addr rfl (Ev.item 9 (by kernel_rfl) (by kernel_rfl) rfl rfl) (Ev.const _) (fun w => by go_simp) rfl (by simp), step_load rfl (Ev.item 10 (by kernel_rfl) (by kernel_rfl) rfl rfl) (fun a w S hA => run_kid HRk.out HB1.out hA.bel (show ([(j0 : Int), (j1 : Int), (j2 : Int)] : List Int)[1]? = some (j1 : Int) from rfl) (by omega) rfl) rfl (by simp), step_tk2 enter33 rfl (Ev.item 8 (by kernel_rfl) (by kernel_rfl) rfl rfl) (Ev.item 11 (by kernel_rfl) (by kernel_rfl) rfl rfl) (fun w hb => H1.out w (HT.out.belw hb)) rfl (by simp), step_app 7 rfl (by kernel_rfl) rfl rfl rfl (EvRow.item 12 (by kernel_rfl) (by kernel_rfl) rfl rfl) (by (try simp only [LL]); omega) rfl (by simp), step_pass 13 (.inr rfl) (by kernel_rfl) rfl rfl rfl (by simp), True.intro⟩
 intro xs w8 hxs hbel hgr hh
 replace hxs : xs.length = 15 := hxs
 obtain ⟨x0, ys0, rfl, hx0⟩ := len_succ hxs
 obtain ⟨x1, ys1, rfl, hx1⟩ := len_succ hx0
 obtain ⟨x2, ys2, rfl, hx2⟩ := len_succ hx1
 obtain ⟨x3, ys3, rfl, hx3⟩ := len_succ hx2
 obtain ⟨x4, ys4, rfl, hx4⟩ := len_succ hx3
 obtain ⟨x5, ys5, rfl, hx5⟩ := len_succ hx4
 obtain ⟨x6, ys6, rfl, hx6⟩ := len_succ hx5
 obtain ⟨x7, ys7, rfl, hx7⟩ := len_succ hx6
 obtain ⟨x8, ys8, rfl, hx8⟩ := len_succ hx7
 obtain ⟨x9, ys9, rfl, hx9⟩ := len_succ hx8
 obtain ⟨x10, ys10, rfl, hx10⟩ := len_succ hx9
 obtain ⟨x11, ys11, rfl, hx11⟩ := len_succ hx10
 obtain ⟨x12, ys12, rfl, hx12⟩ := len_succ hx11
 obtain ⟨x13, ys13, rfl, hx13⟩ := len_succ hx12
 obtain ⟨x14, ys14, rfl, hx14⟩ := len_succ hx13
 obtain rfl := len_zero hx14
 clear hxs hx0 hx1 hx2 hx3 hx4 hx5 hx6 hx7 hx8 hx9 hx10 hx11 hx12 hx13 hx14
 replace hh : Hold W1.heap.size w8 [(x14, .row (((insideT (Tr.toks k0)) ++ [signT ⟨#[91]⟩]) ++ (Tr.toks k1)))] := hh
 obtain ⟨A8, c8, e8, -, -⟩ := Own.rd hh.own
 have HR8 := qh (Tz.mk hh.own hh.head.2)
 obtain ⟨r8, hr8⟩ : ∃ r, ((((insideT (Tr.toks k0)) ++ [signT ⟨#[91]⟩]) ++ (Tr.toks k1))).length = r := ⟨_, rfl⟩
 rw [hr8] at e8
 subst e8
 have HL8 := qh hr8
 have HB8 := qh (hbel)
 clear hbel hgr hr8
 simp only [List.zip_cons_cons, List.zip_nil_left, List.zip_nil_right, putAll]
 simp only [Act.put, PQ]
 go_upto_region 21 with fail
 refine wp_items (by kernel_rfl) [⟨127, some 3, .row (((insideT (Tr.toks k0)) ++ [signT ⟨#[91]⟩]) ++ (Tr.toks k1))⟩, ⟨128, none, .val (tokV (signT ⟨#[58]⟩))⟩, ⟨129, none, .row [signT ⟨#[58]⟩]⟩, ⟨130, some 9, .row ((((insideT (Tr.toks k0)) ++ [signT ⟨#[91]⟩]) ++ (Tr.toks k1)) ++ [signT ⟨#[58]⟩])⟩, ⟨131, none, .val (.slice (some ⟨b0, o0, none⟩) m c)⟩, ⟨132, none, .val (.slice (some ⟨b4, o4, none⟩) 3 c4)⟩, ⟨133, none, .val (.pointer (some ⟨b4, o4 + 2, none⟩))⟩, ⟨134, none, .val (.int .i64 (j2 : Int))⟩, ⟨135, none, .row (Tr.toks k2)⟩, ⟨136, some 12, .row (((((insideT (Tr.toks k0)) ++ [signT ⟨#[91]⟩]) ++ (Tr.toks k1)) ++ [signT ⟨#[58]⟩]) ++ (Tr.toks k2))⟩, ⟨137, none, .val (tokV (signT ⟨#[93]⟩))⟩, ⟨138, none, .row [signT ⟨#[93]⟩]⟩, ⟨139, some 13, .row ((((((insideT (Tr.toks k0)) ++ [signT ⟨#[91]⟩]) ++ (Tr.toks k1)) ++ [signT ⟨#[58]⟩]) ++ (Tr.toks k2)) ++ [signT ⟨#[93]⟩])⟩, ⟨4, none, .row ((((((insideT (Tr.toks k0)) ++ [signT ⟨#[91]⟩]) ++ (Tr.toks k1)) ++ [signT ⟨#[58]⟩]) ++ (Tr.toks k2)) ++ [signT ⟨#[93]⟩])⟩, ⟨11, some 0, .row (((insideT (Tr.toks k0)) ++ [signT ⟨#[91]⟩]) ++ (Tr.toks k1))⟩] [127, 128, 129, 130, 131, 132, 133, 134, 135, 136, 137, 138, 139, 4, 11] [some 3, none, none, some 9, none, none, none, none, none, some 12, none, none, some 13, none, some 0] rfl rfl 183 W1.heap.size HB8.out.size rfl (by kernel_rfl) [13] (by decide) (by decide) hh ?_ [some 127, some 128, some 129, some 130, some 131, some 132, some 133, some 134, some 135, some 136, some 137, some 138, some 139, some 4] rfl [(4, .row ((((((insideT (Tr.toks k0)) ++ [signT ⟨#[91]⟩]) ++ (Tr.toks k1)) ++ [signT ⟨#[58]⟩]) ++ (Tr.toks k2)) ++ [signT ⟨#[93]⟩]))] rfl rfl ?_
 ·exact ⟨step_pass 14 (.inl rfl) (by kernel_rfl) rfl rfl rfl (by simp), step_sign50 rfl (Ev.const _) rfl (by simp), step_made1 rfl (Ev.item 1 (by kernel_rfl) (by kernel_rfl) rfl rfl) rfl (by simp), step_app 0 rfl (by kernel_rfl) rfl rfl rfl (EvRow.item 2 (by kernel_rfl) (by kernel_rfl) rfl rfl) (by (try simp only [LL]); omega) rfl (by simp), step_move rfl (Ev.base (by kernel_rfl) rfl) rfl (by simp), step_move rfl (Ev.base (by kernel_rfl) rfl) rfl (by simp), step_addr rfl (Ev.item 5 (by kernel_rfl) (by kernel_rfl) rfl rfl) (Ev.const _) (fun w => by go_simp) rfl (by simp), step_load rfl (Ev.item 6 (by kernel_rfl) (by kernel_rfl) rfl rfl) (fun a w S hA => run_kid HRk.out HB8.out hA.bel (show ([(j0 : Int), (j1 : Int), (j2 : Int)] : List Int)[2]? = some (j2 : Int) from rfl) (by omega) rfl) rfl (by simp), step_tk2 enter33 rfl (Ev.item 4 (by kernel_rfl) (by kernel_rfl) rfl rfl) (Ev.item 7 (by kernel_rfl) (by kernel_rfl) rfl rfl) (fun w hb => H2.out w (HT.out.belw (HB8.out.trans hb))) rfl (by simp), step_app 3 rfl (by kernel_rfl) rfl rfl rfl (EvRow.item 8 (by kernel_rfl) (by kernel_rfl) rfl rfl) (by (try simp only [LL]); omega) rfl (by simp), step_sign50 rfl (Ev.const _) rfl (by simp), step_made1 rfl (Ev.item 10 (by kernel_rfl) (by kernel_rfl) rfl rfl) rfl (by simp), step_app 9 rfl (by kernel_rfl) rfl rfl rfl (EvRow.item 11 (by kernel_rfl) (by kernel_rfl) rfl rfl) (by (try simp only [LL]); omega) rfl (by simp), step_pass 12 (.inr rfl) (by kernel_rfl) rfl rfl rfl (by simp), True.intro⟩
 clear hh
 intro xs w9 hxs hbel hgr hh
 replace hxs : xs.length = 14 := hxs
 obtain ⟨x0, ys0, rfl, hx0⟩ := len_succ hxs
 obtain ⟨x1, ys1, rfl, hx1⟩ := len_succ hx0
 obtain ⟨x2, ys2, rfl, hx2⟩ := len_succ hx1
 obtain ⟨x3, ys3, rfl, hx3⟩ := len_succ hx2
 obtain ⟨x4, ys4, rfl, hx4⟩ := len_succ hx3
 obtain ⟨x5, ys5, rfl, hx5⟩ := len_succ hx4
 obtain ⟨x6, ys6, rfl, hx6⟩ := len_succ hx5
 obtain ⟨x7, ys7, rfl, hx7⟩ := len_succ hx6
 obtain ⟨x8, ys8, rfl, hx8⟩ := len_succ hx7
 obtain ⟨x9, ys9, rfl, hx9⟩ := len_succ hx8
 obtain ⟨x10, ys10, rfl, hx10⟩ := len_succ hx9
 obtain ⟨x11, ys11, rfl, hx11⟩ := len_succ hx10
 obtain ⟨x12, ys12, rfl, hx12⟩ := len_succ hx11
 obtain ⟨x13, ys13, rfl, hx13⟩ := len_succ hx12
 obtain rfl := len_zero hx13
 clear hxs hx0 hx1 hx2 hx3 hx4 hx5 hx6 hx7 hx8 hx9 hx10 hx11 hx12 hx13
 replace hh : Hold W1.heap.size w9 [(x13, .row ((((((insideT (Tr.toks k0)) ++ [signT ⟨#[91]⟩]) ++ (Tr.toks k1)) ++ [signT ⟨#[58]⟩]) ++ (Tr.toks k2)) ++ [signT ⟨#[93]⟩]))] := hh
 obtain ⟨A9, c9, e9, -, -⟩ := Own.rd hh.own
 have HR9 := qh (Tz.mk hh.own hh.head.2)
 obtain ⟨r9, hr9⟩ : ∃ r, (((((((insideT (Tr.toks k0)) ++ [signT ⟨#[91]⟩]) ++ (Tr.toks k1)) ++ [signT ⟨#[58]⟩]) ++ (Tr.toks k2)) ++ [signT ⟨#[93]⟩])).length = r := ⟨_, rfl⟩
 rw [hr9] at e9
 subst e9
 have HL9 := qh hr9
 have HB9 := qh (HB8.out.trans hbel)
 clear hbel hgr hr9
 simp only [List.zip_cons_cons, List.zip_nil_left, List.zip_nil_right, putAll]
 simp only [Act.put, PQ]
 clear hh
 go_wp2_with fail
 go_ret
 exact tk_fin2 HBa.out HB9.out HR9.out HL9.out (by show _ = (insideT (Tr.toks k0)) ++ (signT gLb :: (Tr.toks k1 ++ (signT gColon :: (Tr.toks k2 ++ [signT gRb])))); simp only [List.append_assoc, List.singleton_append, List.cons_append, List.nil_append])
theorem more54_19 {T : List NodeD} {A : Option Addr} {m c i : Nat} {at0 n : Int} {s : ByteArray} {j0 j1 : Nat} {k0 k1 : Tr} (hm : T.length = m) (hx : T[i]? = some ⟨19, at0, s, n, [(j0 : Int), (j1 : Int)]⟩) (h0 : TkAt T A m c j0 k0) (h1 : TkAt T A m c j1 k1) (hl : (Tr.toks (.mk 19 n s [k0, k1])).length ≤ 549755813888) : MoreAt T A m c i (.mk 19 n s [k0, k1]) := by
 intro w hT
 unfold TkP
 have HT0 := qh hT
 have hlen : i < m := by rw [← hm]; exact (List.getElem?_eq_some_iff.1 hx).1
 obtain ⟨b0, o0, A4, c4, rfl, hb0, x0, x1, x2, x3, x4, hr4⟩ := hT.nth hx
 obtain ⟨b4, o4, rfl, -, -⟩ := hr4.kid (j := 0) rfl (by simp)
 rw [show ([(j0 : Int), (j1 : Int)] : List Int).length = 2 from rfl] at x4 hr4
 have HR4 := qh hr4
 clear hT hx hr4 hm
 have hs : (insideT (Tr.toks k0)).length + (Tr.toks k1).length + 2 ≤ 549755813888 := by
  have h1 := hl
  simp [Tr.toks, Tr.tokss, lay, nthT] at h1
  omega
 have hi0 := insideT_len (Tr.toks k0)
 have HL0 : Hid ((Tr.toks k0).length ≤ 549755813888) := qh (by omega)
 have H0 := qh h0
 clear hi0 h0
 have hi1 := insideT_len (Tr.toks k1)
 have HL1 : Hid ((Tr.toks k1).length ≤ 549755813888) := qh (by omega)
 have H1 := qh h1
 clear hi1 h1
 clear hl
 go_enter Tryd.func54, Tryd.ntmps54
 go_upto_region 4 with fail
 have HBa := qh (bel_one w (.cells #[.int .i64 19, .int .i64 at0, .string s, .int .i64 n, .slice (some ⟨b4, o4, none⟩) 2 c4] 51))
 have HBK := qh (Blk.new w 51 #[.int .i64 19, .int .i64 at0, .string s, .int .i64 n, .slice (some ⟨b4, o4, none⟩) 2 c4])
 have HT := qh (HT0.out.belw HBa.out)
 have HRk := qh (HR4.out.bel HBa.out)
 clear x0 x1 x2 x3 x4 HR4 hb0
 generalize w.alloc (.cells #[.int .i64 19, .int .i64 at0, .string s, .int .i64 n, .slice (some ⟨b4, o4, none⟩) 2 c4] 51) = W1 at HBa HBK HT HRk ⊢
 have g0 := HBK.out.cell 0
 have g2 := HBK.out.cell 2
 have g3 := HBK.out.cell 3
 have g4 := HBK.out.cell 4
 have glt := HBK.out.lt
 simp only [GG] at g0 g2 g3 g4
 have HB1 := qh (Below.refl W1.heap.size W1)
 go_upto_region 17 with fail
 obtain ⟨b5, o5, e5, y5l, y0⟩ := (HRk.out.bel HB1.out).kid (j := 0) rfl (by decide)
 cases e5
 rw [Nat.add_zero] at y0
 go_upto_region 18 with (first | (have hmk := HB3.out; clear hmk; at_builtin; go_must (refine wpList_appendT _ rfl _ _ rfl (.slice A2 r2 c2) (insideT (Tr.toks k0)) rfl (HR3o.out.bel (bel_one _ _)).own _ 1 1 [signT gLb] rfl (Rd.toks _ [signT gLb] _ 1 rfl rfl (by omega)) rfl (by (try simp only [LL]); omega) ?_); intro v4 w4 ho hg hn; have hz4 := Tz.app (HR3o.out.bel (bel_one _ _)) ho hg hn (Nat.le_trans HB3.out.size (alloc_le _ _)); have HB4 := qh ((HB3.out.trans (below_low (bel_one _ _) HB3.out.size)).trans (grown_below hg (Nat.le_trans HB3.out.size (alloc_le _ _)) HR3o.out.new)); obtain ⟨r4, hr⟩ : ∃ r, ((insideT (Tr.toks k0)) ++ [signT gLb]).length = r := ⟨_, rfl⟩; obtain ⟨A4, c4, e4, -, -⟩ := Own.rd ho; rw [hr] at e4; subst e4; have HL4 := qh hr; have HR4o := qh hz4; clear ho hg hn hz4 hr HB3) | (have hmk := HB2.out; clear hmk; go_at_call 50; go_must (refine (sign50_any gLb _).mono ?_); rintro e w3 ⟨rfl, hb⟩; have HB3 := qh (HB2.out.trans (below_low hb HB2.out.size)); have HR3o := qh (HR2o.out.bel hb); clear hb HB2) | (have hmk := HB1.out; clear hmk; go_at_call 52; go_must (refine (inside52 H0.out HL0.out _ (HT.out.belw HB1.out)).mono ?_); rintro e w2 ⟨A2, c2, r2, rfl, hl2, hz, hb⟩; have HB2 := qh (HB1.out.trans (below_low hb HB1.out.size)); have HR2o := qh (hz.less HB1.out.size); have HL2 := qh hl2; clear hz hb HB1))
 clear y0 y5l
 obtain ⟨b5, o5, e5, y5l, y1⟩ := (HRk.out.bel HB4.out).kid (j := 1) rfl (by decide)
 cases e5
 go_wp2_with (first | (have hmk := HB7.out; clear hmk; at_builtin; go_must (refine wpList_appendT _ rfl _ _ rfl (.slice A6 r6 c6) (((insideT (Tr.toks k0)) ++ [signT gLb]) ++ (Tr.toks k1)) rfl (HR7o.out.bel (bel_one _ _)).own _ 1 1 [signT gRb] rfl (Rd.toks _ [signT gRb] _ 1 rfl rfl (by omega)) rfl (by (try simp only [LL]); omega) ?_); intro v8 w8 ho hg hn; have hz8 := Tz.app (HR7o.out.bel (bel_one _ _)) ho hg hn (Nat.le_trans HB7.out.size (alloc_le _ _)); have HB8 := qh ((HB7.out.trans (below_low (bel_one _ _) HB7.out.size)).trans (grown_below hg (Nat.le_trans HB7.out.size (alloc_le _ _)) HR7o.out.new)); obtain ⟨r8, hr⟩ : ∃ r, ((((insideT (Tr.toks k0)) ++ [signT gLb]) ++ (Tr.toks k1)) ++ [signT gRb]).length = r := ⟨_, rfl⟩; obtain ⟨A8, c8, e8, -, -⟩ := Own.rd ho; rw [hr] at e8; subst e8; have HL8 := qh hr; have HR8o := qh hz8; clear ho hg hn hz8 hr HB7) | (have hmk := HB6.out; clear hmk; go_at_call 50; go_must (refine (sign50_any gRb _).mono ?_); rintro e w7 ⟨rfl, hb⟩; have HB7 := qh (HB6.out.trans (below_low hb HB6.out.size)); have HR7o := qh (HR6o.out.bel hb); clear hb HB6) | (have hmk := HB5.out; clear hmk; at_builtin; go_must (refine wpList_appendT _ rfl _ _ rfl (.slice A4 r4 c4) ((insideT (Tr.toks k0)) ++ [signT gLb]) rfl HR5o.out.own A5 r5 c5 (Tr.toks k1) rfl (HR5x.out.own.rdm HL5.out) HL5.out (by have := HL5.out; simp only [LL]; omega) ?_); intro v6 w6 ho hg hn; have hz6 := Tz.app HR5o.out ho hg hn HB5.out.size; have HB6 := qh (HB5.out.trans (grown_below hg HB5.out.size HR5o.out.new)); obtain ⟨r6, hr⟩ : ∃ r, (((insideT (Tr.toks k0)) ++ [signT gLb]) ++ (Tr.toks k1)).length = r := ⟨_, rfl⟩; obtain ⟨A6, c6, e6, -, -⟩ := Own.rd ho; rw [hr] at e6; subst e6; have HL6 := qh hr; have HR6o := qh hz6; clear ho hg hn hz6 hr HB5) | (have hmk := HB4.out; clear hmk; go_at_call 33; go_must (refine (H1.out _ (HT.out.belw HB4.out)).mono ?_); rintro e w5 ⟨A5, c5, r5, rfl, hl5, hz, hb⟩; have HB5 := qh (HB4.out.trans (below_low hb HB4.out.size)); have HR5o := qh (HR4o.out.bel hb); have HR5x := qh (hz.less HB4.out.size); have HL5 := qh hl5; clear hz hb HB4))
 go_ret
 exact tk_fin2 HBa.out HB8.out HR8o.out HL8.out (by show _ = (insideT (Tr.toks k0)) ++ (signT gLb :: (Tr.toks k1 ++ [signT gRb])); simp only [List.append_assoc, List.singleton_append, List.cons_append, List.nil_append])
theorem more54_22 {T : List NodeD} {A : Option Addr} {m c i : Nat} {at0 n : Int} {s : ByteArray} (hm : T.length = m) (hx : T[i]? = some ⟨22, at0, s, n, []⟩) : MoreAt T A m c i (.mk 22 n s []) := by
 intro w hT
 unfold TkP
 have HT0 := qh hT
 have hlen : i < m := by rw [← hm]; exact (List.getElem?_eq_some_iff.1 hx).1
 obtain ⟨b0, o0, A4, c4, rfl, hb0, x0, x1, x2, x3, x4, hr4⟩ := hT.nth hx
 rw [show ([] : List Int).length = 0 from rfl] at x4 hr4
 have HR4 := qh hr4
 clear hT hx hr4 hm
 go_enter Tryd.func54, Tryd.ntmps54
 go_upto_region 4 with fail
 have HBa := qh (bel_one w (.cells #[.int .i64 22, .int .i64 at0, .string s, .int .i64 n, .slice A4 0 c4] 51))
 have HBK := qh (Blk.new w 51 #[.int .i64 22, .int .i64 at0, .string s, .int .i64 n, .slice A4 0 c4])
 have HT := qh (HT0.out.belw HBa.out)
 have HRk := qh (HR4.out.bel HBa.out)
 clear x0 x1 x2 x3 x4 HR4 hb0
 generalize w.alloc (.cells #[.int .i64 22, .int .i64 at0, .string s, .int .i64 n, .slice A4 0 c4] 51) = W1 at HBa HBK HT HRk ⊢
 have g0 := HBK.out.cell 0
 have g2 := HBK.out.cell 2
 have g3 := HBK.out.cell 3
 have g4 := HBK.out.cell 4
 have glt := HBK.out.lt
 simp only [GG] at g0 g2 g3 g4
 have HB1 := qh (Below.refl W1.heap.size W1)
 go_wp2_with (go_at_call 49; go_must (refine (word49_any _ _).mono ?_); rintro e w2 ⟨rfl, hb⟩; have HB2 := qh (HB1.out.trans hb); clear hb)
 go_ret
 exact tk_fin2 HBa.out (HB2.out.trans (below_low (bel_one _ _) HB2.out.size)) (Tz.made w2 (wordT s) HB2.out.size) rfl (by simp [Tr.toks, Tr.tokss, lay])
end
section
open Go.RowKit
set_option linter.unusedVariables false
set_option linter.unusedSimpArgs false
theorem tok33_9 {T : List NodeD} {A : Option Addr} {m c i : Nat} {at0 n : Int} {s : ByteArray} {kids : List Int} {k : Tr} {K : Nat} (hm : T.length = m) (hx : T[i]? = some ⟨9, at0, s, n, kids⟩) (hkk : kids.length = K) (h : MoreAt T A m c i k) : TkAt T A m c i k := by
 intro w hT
 unfold TkP
 have HT0 := qh hT
 have hlen : i < m := by rw [← hm]; exact (List.getElem?_eq_some_iff.1 hx).1
 obtain ⟨b0, o0, A4, c4, rfl, hb0, x0, x1, x2, x3, x4, hr4⟩ := hT.nth hx
 rw [hkk] at x4 hr4
 have HR4 := qh hr4
 clear hT hx hr4 hm
 have HM := qh h
 clear h hkk
 go_enter Tryd.func33, Tryd.ntmps33
 go_upto_region 4 with fail
 have HBa := qh (bel_one w (.cells #[.int .i64 9, .int .i64 at0, .string s, .int .i64 n, .slice A4 K c4] 51))
 have HBK := qh (Blk.new w 51 #[.int .i64 9, .int .i64 at0, .string s, .int .i64 n, .slice A4 K c4])
 have HT := qh (HT0.out.belw HBa.out)
 have HRk := qh (HR4.out.bel HBa.out)
 clear x0 x1 x2 x3 x4 HR4 hb0
 generalize w.alloc (.cells #[.int .i64 9, .int .i64 at0, .string s, .int .i64 n, .slice A4 K c4] 51) = W1 at HBa HBK HT HRk ⊢
 have g0 := HBK.out.cell 0
 have g2 := HBK.out.cell 2
 have g3 := HBK.out.cell 3
 have g4 := HBK.out.cell 4
 have glt := HBK.out.lt
 simp only [GG] at g0 g2 g3 g4
 have HB1 := qh (Below.refl W1.heap.size W1)
 go_wp2_with (go_at_call 54; go_must (refine (HM.out _ (HT.out.belw HB1.out)).mono ?_); rintro e w2 ⟨A2, c2, r2, rfl, hl, hz, hb⟩; have HB2 := qh (HB1.out.trans hb); have HR2 := qh hz; have HL2 := qh hl; clear hb hz hl)
 go_ret
 exact tk_fin2 HBa.out HB2.out HR2.out HL2.out rfl
theorem tok33_17 {T : List NodeD} {A : Option Addr} {m c i : Nat} {at0 n : Int} {s : ByteArray} {kids : List Int} {k : Tr} {K : Nat} (hm : T.length = m) (hx : T[i]? = some ⟨17, at0, s, n, kids⟩) (hkk : kids.length = K) (h : MoreAt T A m c i k) : TkAt T A m c i k := by
 intro w hT
 unfold TkP
 have HT0 := qh hT
 have hlen : i < m := by rw [← hm]; exact (List.getElem?_eq_some_iff.1 hx).1
 obtain ⟨b0, o0, A4, c4, rfl, hb0, x0, x1, x2, x3, x4, hr4⟩ := hT.nth hx
 rw [hkk] at x4 hr4
 have HR4 := qh hr4
 clear hT hx hr4 hm
 have HM := qh h
 clear h hkk
 go_enter Tryd.func33, Tryd.ntmps33
 go_upto_region 4 with fail
 have HBa := qh (bel_one w (.cells #[.int .i64 17, .int .i64 at0, .string s, .int .i64 n, .slice A4 K c4] 51))
 have HBK := qh (Blk.new w 51 #[.int .i64 17, .int .i64 at0, .string s, .int .i64 n, .slice A4 K c4])
 have HT := qh (HT0.out.belw HBa.out)
 have HRk := qh (HR4.out.bel HBa.out)
 clear x0 x1 x2 x3 x4 HR4 hb0
 generalize w.alloc (.cells #[.int .i64 17, .int .i64 at0, .string s, .int .i64 n, .slice A4 K c4] 51) = W1 at HBa HBK HT HRk ⊢
 have g0 := HBK.out.cell 0
 have g2 := HBK.out.cell 2
 have g3 := HBK.out.cell 3
 have g4 := HBK.out.cell 4
 have glt := HBK.out.lt
 simp only [GG] at g0 g2 g3 g4
 have HB1 := qh (Below.refl W1.heap.size W1)
 go_wp2_with (go_at_call 54; go_must (refine (HM.out _ (HT.out.belw HB1.out)).mono ?_); rintro e w2 ⟨A2, c2, r2, rfl, hl, hz, hb⟩; have HB2 := qh (HB1.out.trans hb); have HR2 := qh hz; have HL2 := qh hl; clear hb hz hl)
 go_ret
 exact tk_fin2 HBa.out HB2.out HR2.out HL2.out rfl
theorem tok33_18 {T : List NodeD} {A : Option Addr} {m c i : Nat} {at0 n : Int} {s : ByteArray} {kids : List Int} {k : Tr} {K : Nat} (hm : T.length = m) (hx : T[i]? = some ⟨18, at0, s, n, kids⟩) (hkk : kids.length = K) (h : MoreAt T A m c i k) : TkAt T A m c i k := by
 intro w hT
 unfold TkP
 have HT0 := qh hT
 have hlen : i < m := by rw [← hm]; exact (List.getElem?_eq_some_iff.1 hx).1
 obtain ⟨b0, o0, A4, c4, rfl, hb0, x0, x1, x2, x3, x4, hr4⟩ := hT.nth hx
 rw [hkk] at x4 hr4
 have HR4 := qh hr4
 clear hT hx hr4 hm
 have HM := qh h
 clear h hkk
 go_enter Tryd.func33, Tryd.ntmps33
 go_upto_region 4 with fail
 have HBa := qh (bel_one w (.cells #[.int .i64 18, .int .i64 at0, .string s, .int .i64 n, .slice A4 K c4] 51))
 have HBK := qh (Blk.new w 51 #[.int .i64 18, .int .i64 at0, .string s, .int .i64 n, .slice A4 K c4])
 have HT := qh (HT0.out.belw HBa.out)
 have HRk := qh (HR4.out.bel HBa.out)
 clear x0 x1 x2 x3 x4 HR4 hb0
 generalize w.alloc (.cells #[.int .i64 18, .int .i64 at0, .string s, .int .i64 n, .slice A4 K c4] 51) = W1 at HBa HBK HT HRk ⊢
 have g0 := HBK.out.cell 0
 have g2 := HBK.out.cell 2
 have g3 := HBK.out.cell 3
 have g4 := HBK.out.cell 4
 have glt := HBK.out.lt
 simp only [GG] at g0 g2 g3 g4
 have HB1 := qh (Below.refl W1.heap.size W1)
 go_wp2_with (go_at_call 54; go_must (refine (HM.out _ (HT.out.belw HB1.out)).mono ?_); rintro e w2 ⟨A2, c2, r2, rfl, hl, hz, hb⟩; have HB2 := qh (HB1.out.trans hb); have HR2 := qh hz; have HL2 := qh hl; clear hb hz hl)
 go_ret
 exact tk_fin2 HBa.out HB2.out HR2.out HL2.out rfl
theorem tok33_19 {T : List NodeD} {A : Option Addr} {m c i : Nat} {at0 n : Int} {s : ByteArray} {kids : List Int} {k : Tr} {K : Nat} (hm : T.length = m) (hx : T[i]? = some ⟨19, at0, s, n, kids⟩) (hkk : kids.length = K) (h : MoreAt T A m c i k) : TkAt T A m c i k := by
 intro w hT
 unfold TkP
 have HT0 := qh hT
 have hlen : i < m := by rw [← hm]; exact (List.getElem?_eq_some_iff.1 hx).1
 obtain ⟨b0, o0, A4, c4, rfl, hb0, x0, x1, x2, x3, x4, hr4⟩ := hT.nth hx
 rw [hkk] at x4 hr4
 have HR4 := qh hr4
 clear hT hx hr4 hm
 have HM := qh h
 clear h hkk
 go_enter Tryd.func33, Tryd.ntmps33
 go_upto_region 4 with fail
 have HBa := qh (bel_one w (.cells #[.int .i64 19, .int .i64 at0, .string s, .int .i64 n, .slice A4 K c4] 51))
 have HBK := qh (Blk.new w 51 #[.int .i64 19, .int .i64 at0, .string s, .int .i64 n, .slice A4 K c4])
 have HT := qh (HT0.out.belw HBa.out)
 have HRk := qh (HR4.out.bel HBa.out)
 clear x0 x1 x2 x3 x4 HR4 hb0
 generalize w.alloc (.cells #[.int .i64 19, .int .i64 at0, .string s, .int .i64 n, .slice A4 K c4] 51) = W1 at HBa HBK HT HRk ⊢
 have g0 := HBK.out.cell 0
 have g2 := HBK.out.cell 2
 have g3 := HBK.out.cell 3
 have g4 := HBK.out.cell 4
 have glt := HBK.out.lt
 simp only [GG] at g0 g2 g3 g4
 have HB1 := qh (Below.refl W1.heap.size W1)
 go_wp2_with (go_at_call 54; go_must (refine (HM.out _ (HT.out.belw HB1.out)).mono ?_); rintro e w2 ⟨A2, c2, r2, rfl, hl, hz, hb⟩; have HB2 := qh (HB1.out.trans hb); have HR2 := qh hz; have HL2 := qh hl; clear hb hz hl)
 go_ret
 exact tk_fin2 HBa.out HB2.out HR2.out HL2.out rfl
theorem tok33_20 {T : List NodeD} {A : Option Addr} {m c i : Nat} {at0 n : Int} {s : ByteArray} {kids : List Int} {k : Tr} {K : Nat} (hm : T.length = m) (hx : T[i]? = some ⟨20, at0, s, n, kids⟩) (hkk : kids.length = K) (h : MoreAt T A m c i k) : TkAt T A m c i k := by
 intro w hT
 unfold TkP
 have HT0 := qh hT
 have hlen : i < m := by rw [← hm]; exact (List.getElem?_eq_some_iff.1 hx).1
 obtain ⟨b0, o0, A4, c4, rfl, hb0, x0, x1, x2, x3, x4, hr4⟩ := hT.nth hx
 rw [hkk] at x4 hr4
 have HR4 := qh hr4
 clear hT hx hr4 hm
 have HM := qh h
 clear h hkk
 go_enter Tryd.func33, Tryd.ntmps33
 go_upto_region 4 with fail
 have HBa := qh (bel_one w (.cells #[.int .i64 20, .int .i64 at0, .string s, .int .i64 n, .slice A4 K c4] 51))
 have HBK := qh (Blk.new w 51 #[.int .i64 20, .int .i64 at0, .string s, .int .i64 n, .slice A4 K c4])
 have HT := qh (HT0.out.belw HBa.out)
 have HRk := qh (HR4.out.bel HBa.out)
 clear x0 x1 x2 x3 x4 HR4 hb0
 generalize w.alloc (.cells #[.int .i64 20, .int .i64 at0, .string s, .int .i64 n, .slice A4 K c4] 51) = W1 at HBa HBK HT HRk ⊢
 have g0 := HBK.out.cell 0
 have g2 := HBK.out.cell 2
 have g3 := HBK.out.cell 3
 have g4 := HBK.out.cell 4
 have glt := HBK.out.lt
 simp only [GG] at g0 g2 g3 g4
 have HB1 := qh (Below.refl W1.heap.size W1)
 go_wp2_with (go_at_call 54; go_must (refine (HM.out _ (HT.out.belw HB1.out)).mono ?_); rintro e w2 ⟨A2, c2, r2, rfl, hl, hz, hb⟩; have HB2 := qh (HB1.out.trans hb); have HR2 := qh hz; have HL2 := qh hl; clear hb hz hl)
 go_ret
 exact tk_fin2 HBa.out HB2.out HR2.out HL2.out rfl
theorem tok33_21 {T : List NodeD} {A : Option Addr} {m c i : Nat} {at0 n : Int} {s : ByteArray} {kids : List Int} {k : Tr} {K : Nat} (hm : T.length = m) (hx : T[i]? = some ⟨21, at0, s, n, kids⟩) (hkk : kids.length = K) (h : MoreAt T A m c i k) : TkAt T A m c i k := by
 intro w hT
 unfold TkP
 have HT0 := qh hT
 have hlen : i < m := by rw [← hm]; exact (List.getElem?_eq_some_iff.1 hx).1
 obtain ⟨b0, o0, A4, c4, rfl, hb0, x0, x1, x2, x3, x4, hr4⟩ := hT.nth hx
 rw [hkk] at x4 hr4
 have HR4 := qh hr4
 clear hT hx hr4 hm
 have HM := qh h
 clear h hkk
 go_enter Tryd.func33, Tryd.ntmps33
 go_upto_region 4 with fail
 have HBa := qh (bel_one w (.cells #[.int .i64 21, .int .i64 at0, .string s, .int .i64 n, .slice A4 K c4] 51))
 have HBK := qh (Blk.new w 51 #[.int .i64 21, .int .i64 at0, .string s, .int .i64 n, .slice A4 K c4])
 have HT := qh (HT0.out.belw HBa.out)
 have HRk := qh (HR4.out.bel HBa.out)
 clear x0 x1 x2 x3 x4 HR4 hb0
 generalize w.alloc (.cells #[.int .i64 21, .int .i64 at0, .string s, .int .i64 n, .slice A4 K c4] 51) = W1 at HBa HBK HT HRk ⊢
 have g0 := HBK.out.cell 0
 have g2 := HBK.out.cell 2
 have g3 := HBK.out.cell 3
 have g4 := HBK.out.cell 4
 have glt := HBK.out.lt
 simp only [GG] at g0 g2 g3 g4
 have HB1 := qh (Below.refl W1.heap.size W1)
 go_wp2_with (go_at_call 54; go_must (refine (HM.out _ (HT.out.belw HB1.out)).mono ?_); rintro e w2 ⟨A2, c2, r2, rfl, hl, hz, hb⟩; have HB2 := qh (HB1.out.trans hb); have HR2 := qh hz; have HL2 := qh hl; clear hb hz hl)
 go_ret
 exact tk_fin2 HBa.out HB2.out HR2.out HL2.out rfl
theorem tok33_22 {T : List NodeD} {A : Option Addr} {m c i : Nat} {at0 n : Int} {s : ByteArray} {kids : List Int} {k : Tr} {K : Nat} (hm : T.length = m) (hx : T[i]? = some ⟨22, at0, s, n, kids⟩) (hkk : kids.length = K) (h : MoreAt T A m c i k) : TkAt T A m c i k := by
 intro w hT
 unfold TkP
 have HT0 := qh hT
 have hlen : i < m := by rw [← hm]; exact (List.getElem?_eq_some_iff.1 hx).1
 obtain ⟨b0, o0, A4, c4, rfl, hb0, x0, x1, x2, x3, x4, hr4⟩ := hT.nth hx
 rw [hkk] at x4 hr4
 have HR4 := qh hr4
 clear hT hx hr4 hm
 have HM := qh h
 clear h hkk
 go_enter Tryd.func33, Tryd.ntmps33
 go_upto_region 4 with fail
 have HBa := qh (bel_one w (.cells #[.int .i64 22, .int .i64 at0, .string s, .int .i64 n, .slice A4 K c4] 51))
 have HBK := qh (Blk.new w 51 #[.int .i64 22, .int .i64 at0, .string s, .int .i64 n, .slice A4 K c4])
 have HT := qh (HT0.out.belw HBa.out)
 have HRk := qh (HR4.out.bel HBa.out)
 clear x0 x1 x2 x3 x4 HR4 hb0
 generalize w.alloc (.cells #[.int .i64 22, .int .i64 at0, .string s, .int .i64 n, .slice A4 K c4] 51) = W1 at HBa HBK HT HRk ⊢
 have g0 := HBK.out.cell 0
 have g2 := HBK.out.cell 2
 have g3 := HBK.out.cell 3
 have g4 := HBK.out.cell 4
 have glt := HBK.out.lt
 simp only [GG] at g0 g2 g3 g4
 have HB1 := qh (Below.refl W1.heap.size W1)
 go_wp2_with (go_at_call 54; go_must (refine (HM.out _ (HT.out.belw HB1.out)).mono ?_); rintro e w2 ⟨A2, c2, r2, rfl, hl, hz, hb⟩; have HB2 := qh (HB1.out.trans hb); have HR2 := qh hz; have HL2 := qh hl; clear hb hz hl)
 go_ret
 exact tk_fin2 HBa.out HB2.out HR2.out HL2.out rfl
end
section
open Go.RowKit
set_option linter.unusedVariables false
set_option linter.unusedSimpArgs false
theorem Rd.take1 {w : World} {b o c : Nat} {y z : Int} (h : Rd w (some ⟨b, o, none⟩) 2 c 1 (ics [y, z])) : Rd w (some ⟨b, o, none⟩) 1 c 1 (ics [y]) := by
 obtain ⟨h1, h2, h3, h4⟩ := h
 obtain ⟨b', o', e, hb, hc⟩ := h4 (by omega)
 cases e
 refine ⟨by omega, by omega, rfl, fun _ => ⟨b, o, rfl, hb, fun j u hj => ?_⟩⟩
 refine hc j u ?_
 cases j with
 | zero => simpa [ics] using hj
 | succ j => simp [ics] at hj
theorem Hold.tz {B : Nat} {w : World} {v : Value} {L : List TokD} (h : Tz B w v L) : Hold B w [(v, .row L)] := ⟨fun _ => 0, fun i p hp => by
 cases i with
 | zero =>
  obtain rfl := Option.some.inj hp
  exact ⟨h.own, fun b e => ⟨h.new b e, rfl⟩⟩
 | succ i => cases hp⟩
section
variable {gs : List Got} {ops : Array Oper} {B : Nat} {w0 : World} {a0 : Act} {i : Nat} {o : Oper}
theorem step_lenI {x : Nat} {A : Option Addr} {n c : Nat} {v : Int} (hop : o.op = .call { callee := .builtin .len, args := #[.tmp x], argTypes := #[22] }) (hx : Ev gs ops B w0 a0 i o (.tmp x) (.slice A n c)) (hv : (n : Int) = v) (hit : itOf gs i = .val (.int .i64 v)) (hd : o.dst ≠ none) : StepOk Tryd.prog gs ops B w0 a0 i o :=
 step_val (fun a w S hA => by
  subst hv
  have e1 := hx a w S hA
  unfold Act.eval at e1
  simp only at e1
  unfold execOp
  simp only [hop]
  go_simp) hit hd
theorem step_add3 {x y : Operand} {p q v : Int} (hop : o.op = .binOp .add 3 x y 3) (hx : Ev gs ops B w0 a0 i o x (.int .i64 p)) (hy : Ev gs ops B w0 a0 i o y (.int .i64 q)) (hv : IntKind.i64.wrap (p + q) = v) (hit : itOf gs i = .val (.int .i64 v)) (hd : o.dst ≠ none) : StepOk Tryd.prog gs ops B w0 a0 i o :=
 step_val (fun a w S hA => by
  have e1 := hx a w S hA
  have e2 := hy a w S hA
  unfold execOp
  simp only [hop, e1, e2]
  go_simp
  try exact hv) hit hd
theorem step_sub3 {x y : Operand} {p q v : Int} (hop : o.op = .binOp .sub 3 x y 3) (hx : Ev gs ops B w0 a0 i o x (.int .i64 p)) (hy : Ev gs ops B w0 a0 i o y (.int .i64 q)) (hv : IntKind.i64.wrap (p - q) = v) (hit : itOf gs i = .val (.int .i64 v)) (hd : o.dst ≠ none) : StepOk Tryd.prog gs ops B w0 a0 i o :=
 step_val (fun a w S hA => by
  have e1 := hx a w S hA
  have e2 := hy a w S hA
  unfold execOp
  simp only [hop, e1, e2]
  go_simp
  try exact hv) hit hd
theorem step_slice {x z : Operand} {p q v : Value} (hop : o.op = .slice 22 x none (some z) none) (hx : Ev gs ops B w0 a0 i o x p) (hz : Ev gs ops B w0 a0 i o z q) (hr : ∀ w, (Instr.sliceAt 22 p none (some q) none).run Tryd.prog w = .ok v w) (hit : itOf gs i = .val v) (hd : o.dst ≠ none) : StepOk Tryd.prog gs ops B w0 a0 i o :=
 step_val (fun a w S hA => by
  have e1 := hx a w S hA
  have e2 := hz a w S hA
  unfold execOp
  simp only [hop, e1, e2, Option.map_none, Option.map_some, Sem.run_bind, hr w, Result.andThen_ok, Sem.run_pure]) hit hd
end
end
section
open Go.RowKit
set_option linter.unusedVariables false
set_option linter.unusedSimpArgs false
theorem more54_21 {T : List NodeD} {A : Option Addr} {m c i : Nat} {at0 n : Int} {s : ByteArray} {j0 j1 : Nat} {k0 k1 : Tr} (hm : T.length = m) (hx : T[i]? = some ⟨21, at0, s, n, [(j0 : Int), (j1 : Int)]⟩) (h0 : TkAt T A m c j0 k0) (h1 : TkAt T A m c j1 k1) (hl : (Tr.toks (.mk 21 n s [k0, k1])).length ≤ 549755813888) : MoreAt T A m c i (.mk 21 n s [k0, k1]) := by
 intro w hT
 unfold TkP
 have HT0 := qh hT
 have hlen : i < m := by rw [← hm]; exact (List.getElem?_eq_some_iff.1 hx).1
 obtain ⟨b0, o0, A4, c4, rfl, hb0, x0, x1, x2, x3, x4, hr4⟩ := hT.nth hx
 obtain ⟨b4, o4, rfl, -, -⟩ := hr4.kid (j := 0) rfl (by simp)
 rw [show ([(j0 : Int), (j1 : Int)] : List Int).length = 2 from rfl] at x4 hr4
 have HR4 := qh hr4
 clear hT hx hr4 hm
 have hs : 1 + (rowsT false [Tr.toks k0]).length + 1 + (Tr.toks k1).length ≤ 549755813888 := by
  have h1 := hl
  simp [Tr.toks, Tr.tokss, lay, nthT, rowsT] at h1 ⊢
  omega
 have hi0 : (Tr.toks k0).length ≤ (rowsT false [Tr.toks k0]).length := by simp [rowsT]
 have HL0 : Hid ((Tr.toks k0).length ≤ 549755813888) := qh (by omega)
 have H0 := qh h0
 clear hi0 h0
 have hi1 := insideT_len (Tr.toks k1)
 have HL1 : Hid ((Tr.toks k1).length ≤ 549755813888) := qh (by omega)
 have H1 := qh h1
 clear hi1 h1
 clear hl
 go_enter Tryd.func54, Tryd.ntmps54
 go_upto_region 4 with fail
 have HBa := qh (bel_one w (.cells #[.int .i64 21, .int .i64 at0, .string s, .int .i64 n, .slice (some ⟨b4, o4, none⟩) 2 c4] 51))
 have HBK := qh (Blk.new w 51 #[.int .i64 21, .int .i64 at0, .string s, .int .i64 n, .slice (some ⟨b4, o4, none⟩) 2 c4])
 have HT := qh (HT0.out.belw HBa.out)
 have HRk := qh (HR4.out.bel HBa.out)
 clear x0 x1 x2 x3 x4 HR4 hb0
 generalize w.alloc (.cells #[.int .i64 21, .int .i64 at0, .string s, .int .i64 n, .slice (some ⟨b4, o4, none⟩) 2 c4] 51) = W1 at HBa HBK HT HRk ⊢
 have g0 := HBK.out.cell 0
 have g2 := HBK.out.cell 2
 have g3 := HBK.out.cell 3
 have g4 := HBK.out.cell 4
 have glt := HBK.out.lt
 simp only [GG] at g0 g2 g3 g4
 have HB1 := qh (Below.refl W1.heap.size W1)
 have hc4 : 2 ≤ c4 := HRk.out.1
 have hc41 : ¬ ((c4 : Int) < 1) := by omega
 go_upto_region 27 with fail
 refine wp_items (by kernel_rfl) [⟨160, none, .val (tokV (wordT ⟨#[108, 97, 109, 98, 100, 97]⟩))⟩, ⟨161, some 9, .row [wordT ⟨#[108, 97, 109, 98, 100, 97]⟩]⟩, ⟨162, none, .val (.slice (some ⟨b0, o0, none⟩) m c)⟩, ⟨163, none, .val (.slice (some ⟨b4, o4, none⟩) 2 c4)⟩, ⟨164, none, .val (.slice (some ⟨b4, o4, none⟩) 2 c4)⟩, ⟨165, none, .val (.int .i64 2)⟩, ⟨166, none, .val (.int .i64 1)⟩, ⟨167, none, .val (.slice (some ⟨b4, o4, none⟩) 1 c4)⟩, ⟨168, none, .row (rowsT false [Tr.toks k0])⟩, ⟨169, some 10, .row ([wordT ⟨#[108, 97, 109, 98, 100, 97]⟩] ++ (rowsT false [Tr.toks k0]))⟩, ⟨13, none, .row ([wordT ⟨#[108, 97, 109, 98, 100, 97]⟩] ++ (rowsT false [Tr.toks k0]))⟩] [160, 161, 162, 163, 164, 165, 166, 167, 168, 169, 13] [none, some 9, none, none, none, none, none, none, none, some 10, none] rfl rfl 183 W1.heap.size (Nat.le_refl _) rfl (by kernel_rfl) [10] (by decide) (by decide) (Hold.nil W1.heap.size W1) ?_ [some 160, some 161, some 162, some 163, some 164, some 165, some 166, some 167, some 168, some 169, some 13] rfl [(13, .row ([wordT ⟨#[108, 97, 109, 98, 100, 97]⟩] ++ (rowsT false [Tr.toks k0])))] rfl rfl ?_
 ·exact ⟨step_word49 rfl (Ev.const _) rfl (by simp), step_made1 rfl (Ev.item 0 (by kernel_rfl) (by kernel_rfl) rfl rfl) rfl (by simp), step_move rfl (Ev.base (by kernel_rfl) rfl) rfl (by simp), step_move rfl (Ev.base (by kernel_rfl) rfl) rfl (by simp), step_move rfl (Ev.base (by kernel_rfl) rfl) rfl (by simp), step_lenI rfl (Ev.item 4 (by kernel_rfl) (by kernel_rfl) rfl rfl) rfl rfl (by simp), step_sub3 rfl (Ev.item 5 (by kernel_rfl) (by kernel_rfl) rfl rfl) (Ev.const _) (by decide) rfl (by simp), step_slice rfl (Ev.item 3 (by kernel_rfl) (by kernel_rfl) rfl rfl) (Ev.item 6 (by kernel_rfl) (by kernel_rfl) rfl rfl) (fun w => by go_simp) rfl (by simp), step_tk3 enter51 rfl (Ev.item 2 (by kernel_rfl) (by kernel_rfl) rfl rfl) (Ev.item 7 (by kernel_rfl) (by kernel_rfl) rfl rfl) (Ev.const _) (fun w hb => rows51 (ks := [k0]) (l := [(j0 : Int)]) rfl (by simp) false (fun p hp => by obtain rfl : p = 0 := (by simpa using hp); exact ⟨j0, k0, rfl, rfl, H0.out⟩) (show (rowsT false [Tr.toks k0]).length ≤ _ by omega) w (HT.out.belw hb) (HRk.out.bel hb).take1) rfl (by simp), step_app 1 rfl (by kernel_rfl) rfl rfl rfl (EvRow.item 8 (by kernel_rfl) (by kernel_rfl) rfl rfl) (by (try simp only [LL]); omega) rfl (by simp), step_pass 9 (.inr rfl) (by kernel_rfl) rfl rfl rfl (by simp), True.intro⟩
 intro xs w8 hxs hbel hgr hh
 replace hxs : xs.length = 11 := hxs
 obtain ⟨x0, ys0, rfl, hx0⟩ := len_succ hxs
 obtain ⟨x1, ys1, rfl, hx1⟩ := len_succ hx0
 obtain ⟨x2, ys2, rfl, hx2⟩ := len_succ hx1
 obtain ⟨x3, ys3, rfl, hx3⟩ := len_succ hx2
 obtain ⟨x4, ys4, rfl, hx4⟩ := len_succ hx3
 obtain ⟨x5, ys5, rfl, hx5⟩ := len_succ hx4
 obtain ⟨x6, ys6, rfl, hx6⟩ := len_succ hx5
 obtain ⟨x7, ys7, rfl, hx7⟩ := len_succ hx6
 obtain ⟨x8, ys8, rfl, hx8⟩ := len_succ hx7
 obtain ⟨x9, ys9, rfl, hx9⟩ := len_succ hx8
 obtain ⟨x10, ys10, rfl, hx10⟩ := len_succ hx9
 obtain rfl := len_zero hx10
 clear hxs hx0 hx1 hx2 hx3 hx4 hx5 hx6 hx7 hx8 hx9 hx10
 replace hh : Hold W1.heap.size w8 [(x10, .row ([wordT ⟨#[108, 97, 109, 98, 100, 97]⟩] ++ (rowsT false [Tr.toks k0])))] := hh
 obtain ⟨A8, c8, e8, -, -⟩ := Own.rd hh.own
 have HR8 := qh (Tz.mk hh.own hh.head.2)
 obtain ⟨r8, hr8⟩ : ∃ r, (([wordT ⟨#[108, 97, 109, 98, 100, 97]⟩] ++ (rowsT false [Tr.toks k0]))).length = r := ⟨_, rfl⟩
 rw [hr8] at e8
 subst e8
 have HL8 := qh hr8
 have HB8 := qh (hbel)
 clear hbel hgr hr8
 simp only [List.zip_cons_cons, List.zip_nil_left, List.zip_nil_right, putAll]
 simp only [Act.put, PQ]
 go_upto_region 28 with fail
 refine wp_items (by kernel_rfl) [⟨170, some 3, .row ([wordT ⟨#[108, 97, 109, 98, 100, 97]⟩] ++ (rowsT false [Tr.toks k0]))⟩, ⟨171, none, .val (tokV (signT ⟨#[58]⟩))⟩, ⟨172, none, .row [signT ⟨#[58]⟩]⟩, ⟨173, some 12, .row (([wordT ⟨#[108, 97, 109, 98, 100, 97]⟩] ++ (rowsT false [Tr.toks k0])) ++ [signT ⟨#[58]⟩])⟩, ⟨174, none, .val (.slice (some ⟨b0, o0, none⟩) m c)⟩, ⟨175, none, .val (.slice (some ⟨b4, o4, none⟩) 2 c4)⟩, ⟨176, none, .val (.slice (some ⟨b4, o4, none⟩) 2 c4)⟩, ⟨177, none, .val (.int .i64 2)⟩, ⟨178, none, .val (.int .i64 1)⟩, ⟨179, none, .val (.pointer (some ⟨b4, o4 + 1, none⟩))⟩, ⟨180, none, .val (.int .i64 (j1 : Int))⟩, ⟨181, none, .row (Tr.toks k1)⟩, ⟨182, some 13, .row ((([wordT ⟨#[108, 97, 109, 98, 100, 97]⟩] ++ (rowsT false [Tr.toks k0])) ++ [signT ⟨#[58]⟩]) ++ (Tr.toks k1))⟩, ⟨4, none, .row ((([wordT ⟨#[108, 97, 109, 98, 100, 97]⟩] ++ (rowsT false [Tr.toks k0])) ++ [signT ⟨#[58]⟩]) ++ (Tr.toks k1))⟩, ⟨13, some 0, .row ([wordT ⟨#[108, 97, 109, 98, 100, 97]⟩] ++ (rowsT false [Tr.toks k0]))⟩] [170, 171, 172, 173, 174, 175, 176, 177, 178, 179, 180, 181, 182, 4, 13] [some 3, none, none, some 12, none, none, none, none, none, none, none, none, some 13, none, some 0] rfl rfl 183 W1.heap.size HB8.out.size rfl (by kernel_rfl) [13] (by decide) (by decide) hh ?_ [some 170, some 171, some 172, some 173, some 174, some 175, some 176, some 177, some 178, some 179, some 180, some 181, some 182, some 4] rfl [(4, .row ((([wordT ⟨#[108, 97, 109, 98, 100, 97]⟩] ++ (rowsT false [Tr.toks k0])) ++ [signT ⟨#[58]⟩]) ++ (Tr.toks k1)))] rfl rfl ?_
 ·exact ⟨step_pass 14 (.inl rfl) (by kernel_rfl) rfl rfl rfl (by simp), step_sign50 rfl (Ev.const _) rfl (by simp), step_made1 rfl (Ev.item 1 (by kernel_rfl) (by kernel_rfl) rfl rfl) rfl (by simp), step_app 0 rfl (by kernel_rfl) rfl rfl rfl (EvRow.item 2 (by kernel_rfl) (by kernel_rfl) rfl rfl) (by (try simp only [LL]); omega) rfl (by simp), step_move rfl (Ev.base (by kernel_rfl) rfl) rfl (by simp), step_move rfl (Ev.base (by kernel_rfl) rfl) rfl (by simp), step_move rfl (Ev.base (by kernel_rfl) rfl) rfl (by simp), step_lenI rfl (Ev.item 6 (by kernel_rfl) (by kernel_rfl) rfl rfl) rfl rfl (by simp), step_sub3 rfl (Ev.item 7 (by kernel_rfl) (by kernel_rfl) rfl rfl) (Ev.const _) (by decide) rfl (by simp), step_addr rfl (Ev.item 5 (by kernel_rfl) (by kernel_rfl) rfl rfl) (Ev.item 8 (by kernel_rfl) (by kernel_rfl) rfl rfl) (fun w => by go_simp) rfl (by simp), step_load rfl (Ev.item 9 (by kernel_rfl) (by kernel_rfl) rfl rfl) (fun a w S hA => run_kid HRk.out HB8.out hA.bel (show ([(j0 : Int), (j1 : Int)] : List Int)[1]? = some (j1 : Int) from rfl) (by omega) rfl) rfl (by simp), step_tk2 enter33 rfl (Ev.item 4 (by kernel_rfl) (by kernel_rfl) rfl rfl) (Ev.item 10 (by kernel_rfl) (by kernel_rfl) rfl rfl) (fun w hb => H1.out w (HT.out.belw (HB8.out.trans hb))) rfl (by simp), step_app 3 rfl (by kernel_rfl) rfl rfl rfl (EvRow.item 11 (by kernel_rfl) (by kernel_rfl) rfl rfl) (by (try simp only [LL]); omega) rfl (by simp), step_pass 12 (.inr rfl) (by kernel_rfl) rfl rfl rfl (by simp), True.intro⟩
 clear hh
 intro xs w9 hxs hbel hgr hh
 replace hxs : xs.length = 14 := hxs
 obtain ⟨x0, ys0, rfl, hx0⟩ := len_succ hxs
 obtain ⟨x1, ys1, rfl, hx1⟩ := len_succ hx0
 obtain ⟨x2, ys2, rfl, hx2⟩ := len_succ hx1
 obtain ⟨x3, ys3, rfl, hx3⟩ := len_succ hx2
 obtain ⟨x4, ys4, rfl, hx4⟩ := len_succ hx3
 obtain ⟨x5, ys5, rfl, hx5⟩ := len_succ hx4
 obtain ⟨x6, ys6, rfl, hx6⟩ := len_succ hx5
 obtain ⟨x7, ys7, rfl, hx7⟩ := len_succ hx6
 obtain ⟨x8, ys8, rfl, hx8⟩ := len_succ hx7
 obtain ⟨x9, ys9, rfl, hx9⟩ := len_succ hx8
 obtain ⟨x10, ys10, rfl, hx10⟩ := len_succ hx9
 obtain ⟨x11, ys11, rfl, hx11⟩ := len_succ hx10
 obtain ⟨x12, ys12, rfl, hx12⟩ := len_succ hx11
 obtain ⟨x13, ys13, rfl, hx13⟩ := len_succ hx12
 obtain rfl := len_zero hx13
 clear hxs hx0 hx1 hx2 hx3 hx4 hx5 hx6 hx7 hx8 hx9 hx10 hx11 hx12 hx13
 replace hh : Hold W1.heap.size w9 [(x13, .row ((([wordT ⟨#[108, 97, 109, 98, 100, 97]⟩] ++ (rowsT false [Tr.toks k0])) ++ [signT ⟨#[58]⟩]) ++ (Tr.toks k1)))] := hh
 obtain ⟨A9, c9, e9, -, -⟩ := Own.rd hh.own
 have HR9 := qh (Tz.mk hh.own hh.head.2)
 obtain ⟨r9, hr9⟩ : ∃ r, (((([wordT ⟨#[108, 97, 109, 98, 100, 97]⟩] ++ (rowsT false [Tr.toks k0])) ++ [signT ⟨#[58]⟩]) ++ (Tr.toks k1))).length = r := ⟨_, rfl⟩
 rw [hr9] at e9
 subst e9
 have HL9 := qh hr9
 have HB9 := qh (HB8.out.trans hbel)
 clear hbel hgr hr9
 simp only [List.zip_cons_cons, List.zip_nil_left, List.zip_nil_right, putAll]
 simp only [Act.put, PQ]
 clear hh
 go_wp2_with fail
 go_ret
 exact tk_fin2 HBa.out HB9.out HR9.out HL9.out (by show _ = wordT kLambda :: ((rowsT false [Tr.toks k0]) ++ (signT gColon :: Tr.toks k1)); simp only [List.append_assoc, List.singleton_append, List.cons_append, List.nil_append])
end
section
open Go.RowKit
set_option linter.unusedVariables false
set_option linter.unusedSimpArgs false
theorem more54_17 {T : List NodeD} {A : Option Addr} {m c i : Nat} {at0 n : Int} {s : ByteArray} {j0 : Nat} {k0 : Tr} {kids : List Int} {ks : List Tr} {K : Nat} (hm : T.length = m) (hx : T[i]? = some ⟨17, at0, s, n, (j0 : Int) :: kids⟩) (hkk : kids.length = K) (hks : ks.length = K) (hK : K ≤ 1000) (h0 : TkAt T A m c j0 k0) (h : ∀ p, p < K → ∃ (j : Nat) (k : Tr), kids[p]? = some (j : Int) ∧ ks[p]? = some k ∧ TkAt T A m c j k) (hl : (Tr.toks (.mk 17 n s (k0 :: ks))).length ≤ 549755813888) : MoreAt T A m c i (.mk 17 n s (k0 :: ks)) := by
 intro w hT
 unfold TkP
 have HT0 := qh hT
 have hlen : i < m := by rw [← hm]; exact (List.getElem?_eq_some_iff.1 hx).1
 obtain ⟨b0, o0, A4, c4, rfl, hb0, x0, x1, x2, x3, x4, hr4⟩ := hT.nth hx
 obtain ⟨b4, o4, rfl, -, -⟩ := hr4.kid (j := 0) rfl (by simp)
 obtain ⟨K1, hK1⟩ : ∃ K1, K1 = K + 1 := ⟨_, rfl⟩
 rw [show ((j0 : Int) :: kids).length = K1 from by rw [List.length_cons, hkk, hK1]] at x4 hr4
 have hk1 : 0 < K1 := by omega
 have hk2 : K1 - 1 = K := by omega
 have hk3 : K1 ≤ 1001 := by omega
 obtain ⟨A7, hA7⟩ : ∃ A7, (if c4 = 1 then some (⟨b4, o4, none⟩ : Addr) else some ⟨b4, o4 + 1, none⟩) = A7 := ⟨_, rfl⟩
 have HR7 : Hid (∀ w', Below w.heap.size w w' → Rd w' A7 K (c4 - 1) 1 (ics kids)) := qh fun w' hb => by
  have h1 := hr4.bel hb
  rw [hK1] at h1
  rw [← hA7]
  split
  ·have h2 := h1.1
   obtain rfl : K = 0 := by omega
   obtain rfl : kids = [] := List.length_eq_zero_iff.1 hkk
   exact ⟨by omega, by have := h1.2.1; omega, rfl, fun h => absurd h (by omega)⟩
  ·exact h1.from1
 clear hK1
 have HR4 := qh hr4
 clear hT hx hr4 hm
 have hs : (insideT (Tr.toks k0)).length + (rowsT false (Tr.tokss ks)).length + 2 ≤ 549755813888 := by
  have h1 := hl
  simp [Tr.toks, Tr.tokss, lay, nthT] at h1
  omega
 have hi0 := insideT_len (Tr.toks k0)
 have HL0 : Hid ((Tr.toks k0).length ≤ 549755813888) := qh (by omega)
 have H0 := qh h0
 have HK := qh h
 have HKs := qh hks
 clear hi0 h0 h hks hl hkk
 go_enter Tryd.func54, Tryd.ntmps54
 go_upto_region 4 with fail
 have HBa := qh (bel_one w (.cells #[.int .i64 17, .int .i64 at0, .string s, .int .i64 n, .slice (some ⟨b4, o4, none⟩) K1 c4] 51))
 have HBK := qh (Blk.new w 51 #[.int .i64 17, .int .i64 at0, .string s, .int .i64 n, .slice (some ⟨b4, o4, none⟩) K1 c4])
 have HT := qh (HT0.out.belw HBa.out)
 have HRk := qh (HR4.out.bel HBa.out)
 clear x0 x1 x2 x3 x4 HR4 hb0
 generalize w.alloc (.cells #[.int .i64 17, .int .i64 at0, .string s, .int .i64 n, .slice (some ⟨b4, o4, none⟩) K1 c4] 51) = W1 at HBa HBK HT HRk ⊢
 have g0 := HBK.out.cell 0
 have g2 := HBK.out.cell 2
 have g3 := HBK.out.cell 3
 have g4 := HBK.out.cell 4
 have glt := HBK.out.lt
 simp only [GG] at g0 g2 g3 g4
 have HB1 := qh (Below.refl W1.heap.size W1)
 go_upto_region 12 with fail
 obtain ⟨b5, o5, e5, y5l, y0⟩ := (HRk.out.bel HB1.out).kid (j := 0) rfl (by omega)
 cases e5
 rw [Nat.add_zero] at y0
 go_upto_region 13 with (first | (have hmk := HB3.out; clear hmk; at_builtin; go_must (refine wpList_appendT _ rfl _ _ rfl (.slice A2 r2 c2) (insideT (Tr.toks k0)) rfl (HR3o.out.bel (bel_one _ _)).own _ 1 1 [signT gLp] rfl (Rd.toks _ [signT gLp] _ 1 rfl rfl (by omega)) rfl (by (try simp only [LL]); omega) ?_); intro v4 w4 ho hg hn; have hz4 := Tz.app (HR3o.out.bel (bel_one _ _)) ho hg hn (Nat.le_trans HB3.out.size (alloc_le _ _)); have HB4 := qh ((HB3.out.trans (below_low (bel_one _ _) HB3.out.size)).trans (grown_below hg (Nat.le_trans HB3.out.size (alloc_le _ _)) HR3o.out.new)); obtain ⟨r4, hr⟩ : ∃ r, ((insideT (Tr.toks k0)) ++ [signT gLp]).length = r := ⟨_, rfl⟩; obtain ⟨A4, c4, e4, -, -⟩ := Own.rd ho; rw [hr] at e4; subst e4; have HL4 := qh hr; have HR4o := qh hz4; clear ho hg hn hz4 hr HB3) | (have hmk := HB2.out; clear hmk; go_at_call 50; go_must (refine (sign50_any gLp _).mono ?_); rintro e w3 ⟨rfl, hb⟩; have HB3 := qh (HB2.out.trans (below_low hb HB2.out.size)); have HR3o := qh (HR2o.out.bel hb); clear hb HB2) | (have hmk := HB1.out; clear hmk; go_at_call 52; go_must (refine (inside52 H0.out HL0.out _ (HT.out.belw HB1.out)).mono ?_); rintro e w2 ⟨A2, c2, r2, rfl, hl2, hz, hb⟩; have HB2 := qh (HB1.out.trans (below_low hb HB1.out.size)); have HR2o := qh (hz.less HB1.out.size); have HL2 := qh hl2; clear hz hb HB1))
 clear y0 y5l
 go_wp2_with (first | (have hmk := HB7.out; clear hmk; at_builtin; go_must (refine wpList_appendT _ rfl _ _ rfl (.slice A6 r6 c6) (((insideT (Tr.toks k0)) ++ [signT gLp]) ++ (rowsT false (Tr.tokss ks))) rfl (HR7o.out.bel (bel_one _ _)).own _ 1 1 [signT gRp] rfl (Rd.toks _ [signT gRp] _ 1 rfl rfl (by omega)) rfl (by (try simp only [LL]); omega) ?_); intro v8 w8 ho hg hn; have hz8 := Tz.app (HR7o.out.bel (bel_one _ _)) ho hg hn (Nat.le_trans HB7.out.size (alloc_le _ _)); have HB8 := qh ((HB7.out.trans (below_low (bel_one _ _) HB7.out.size)).trans (grown_below hg (Nat.le_trans HB7.out.size (alloc_le _ _)) HR7o.out.new)); obtain ⟨r8, hr⟩ : ∃ r, ((((insideT (Tr.toks k0)) ++ [signT gLp]) ++ (rowsT false (Tr.tokss ks))) ++ [signT gRp]).length = r := ⟨_, rfl⟩; obtain ⟨A8, c8, e8, -, -⟩ := Own.rd ho; rw [hr] at e8; subst e8; have HL8 := qh hr; have HR8o := qh hz8; clear ho hg hn hz8 hr HB7) | (have hmk := HB6.out; clear hmk; go_at_call 50; go_must (refine (sign50_any gRp _).mono ?_); rintro e w7 ⟨rfl, hb⟩; have HB7 := qh (HB6.out.trans (below_low hb HB6.out.size)); have HR7o := qh (HR6o.out.bel hb); clear hb HB6) | (have hmk := HB5.out; clear hmk; at_builtin; go_must (refine wpList_appendT _ rfl _ _ rfl (.slice A4 r4 c4) ((insideT (Tr.toks k0)) ++ [signT gLp]) rfl HR5o.out.own A5 r5 c5 (rowsT false (Tr.tokss ks)) rfl (HR5x.out.own.rdm HL5.out) HL5.out (by have := HL5.out; (try simp only [LL]); omega) ?_); intro v6 w6 ho hg hn; have hz6 := Tz.app HR5o.out ho hg hn HB5.out.size; have HB6 := qh (HB5.out.trans (grown_below hg HB5.out.size HR5o.out.new)); obtain ⟨r6, hr⟩ : ∃ r, (((insideT (Tr.toks k0)) ++ [signT gLp]) ++ (rowsT false (Tr.tokss ks))).length = r := ⟨_, rfl⟩; obtain ⟨A6, c6, e6, -, -⟩ := Own.rd ho; rw [hr] at e6; subst e6; have HL6 := qh hr; have HR6o := qh hz6; clear ho hg hn hz6 hr HB5) | (have hmk := HB4.out; clear hmk; go_at_call 51; go_must (refine (rows51 HKs.out hK false HK.out (by omega) _ (HT.out.belw HB4.out) (HR7.out _ (HBa.out.trans (below_low HB4.out HBa.out.size)))).mono ?_); rintro e w5 ⟨A5, c5, r5, rfl, hl5, hz, hb⟩; have HB5 := qh (HB4.out.trans (below_low hb HB4.out.size)); have HR5o := qh (HR4o.out.bel hb); have HR5x := qh (hz.less HB4.out.size); have HL5 := qh hl5; clear hz hb HB4))
 go_ret
 exact tk_fin2 HBa.out HB8.out HR8o.out HL8.out (by show _ = (insideT (Tr.toks k0)) ++ (signT gLp :: ((rowsT false (Tr.tokss ks)) ++ [signT gRp])); simp only [List.append_assoc, List.singleton_append, List.cons_append, List.nil_append])
end
section
open Go.RowKit
set_option linter.unusedVariables false
set_option linter.unusedSimpArgs false
theorem more54_9 {T : List NodeD} {A : Option Addr} {m c i : Nat} {at0 n : Int} {s : ByteArray} {kids : List Int} {ks : List Tr} {K : Nat} (hm : T.length = m) (hx : T[i]? = some ⟨9, at0, s, n, kids⟩) (hkk : kids.length = K) (hks : ks.length = K) (hev : ks.length % 2 = 0) (hK : K ≤ 1000) (h : ∀ p, p < K → ∃ (j : Nat) (k : Tr), kids[p]? = some (j : Int) ∧ ks[p]? = some k ∧ TkAt T A m c j k) (hl : (Tr.toks (.mk 9 n s ks)).length ≤ 549755813888) : MoreAt T A m c i (.mk 9 n s ks) := by
 intro w hT
 unfold TkP
 have HT0 := qh hT
 have hlen : i < m := by rw [← hm]; exact (List.getElem?_eq_some_iff.1 hx).1
 obtain ⟨b0, o0, A4, c4, rfl, hb0, x0, x1, x2, x3, x4, hr4⟩ := hT.nth hx
 rw [hkk] at x4 hr4
 have HR4 := qh hr4
 clear hT hx hr4 hm
 have hs : (pairsT (Tr.tokss ks)).length + 2 ≤ 549755813888 := by
  have h1 := hl
  simp [Tr.toks, lay] at h1
  omega
 have HLs := qh hs
 have HK := qh h
 have HKs := qh hks
 rw [hks] at hev
 clear hs h hks hl hkk
 go_enter Tryd.func54, Tryd.ntmps54
 go_upto_region 4 with fail
 have HBa := qh (bel_one w (.cells #[.int .i64 9, .int .i64 at0, .string s, .int .i64 n, .slice A4 K c4] 51))
 have HBK := qh (Blk.new w 51 #[.int .i64 9, .int .i64 at0, .string s, .int .i64 n, .slice A4 K c4])
 have HT := qh (HT0.out.belw HBa.out)
 have HRk := qh (HR4.out.bel HBa.out)
 clear x0 x1 x2 x3 x4 HR4 hb0
 generalize w.alloc (.cells #[.int .i64 9, .int .i64 at0, .string s, .int .i64 n, .slice A4 K c4] 51) = W1 at HBa HBK HT HRk ⊢
 have g0 := HBK.out.cell 0
 have g2 := HBK.out.cell 2
 have g3 := HBK.out.cell 3
 have g4 := HBK.out.cell 4
 have glt := HBK.out.lt
 simp only [GG] at g0 g2 g3 g4
 have HB1 := qh (Below.refl W1.heap.size W1)
 go_upto_region 5 with fail
 go_upto_region 7 with (first | (have hmk := HB1.out; clear hmk; go_at_call 50; go_must (refine (sign50_any gLc _).mono ?_); rintro e w2 ⟨rfl, hb⟩; have HB2 := qh (HB1.out.trans (below_low hb HB1.out.size)); clear hb HB1))
 have HR0 := (qh (Tz.made w2 (signT gLc) HB2.out.size))
 have HB0 : Hid (Below W1.heap.size W1 (w2.alloc (.cells ([signT gLc].flatMap tcs).toArray 39))) := qh (HB2.out.trans (below_low (bel_one _ _) HB2.out.size))
 go_loopw [7, 8] (fun v7 v8 wr => ∃ (i : Nat) (A1 : Option Addr) (c1 rM : Nat) (M : List TokD), i ≤ K ∧ i % 2 = 0 ∧ v8 = .int .i64 i ∧ v7 = .slice A1 rM c1 ∧ Hid (M.length = rM) ∧ Hid (M ++ pairsT ((Tr.tokss ks).drop i) = signT gLc :: (pairsT (Tr.tokss ks))) ∧ Hid (Tz W1.heap.size wr (.slice A1 rM c1) M) ∧ Hid (Below W1.heap.size W1 wr)) (fun _ v8 _ => K - (intOf v8).toNat)
 case atStart => exact ⟨0, _, _, 1, [signT gLc], Nat.zero_le _, rfl, rfl, rfl, qh rfl, qh rfl, HR0, HB0⟩
 case round =>
  obtain ⟨i, A1, c1, rM, M, hi, hi2, rfl, rfl, HLM, HI, HR4o, HB4⟩ := hrel
  obtain ⟨i1, hi1⟩ : ∃ i1, i1 = i + 1 := ⟨_, rfl⟩
  have hw1 : wrap64 ((i : Int) + 1) = (i1 : Int) := by unfold wrap64; omega
  clear HR0 HB0 HB2
  by_cases hlt : i < K
  ·have d1 : decide ((i1 : Int) < (K : Int)) = true := decide_eq_true (by omega)
   obtain ⟨j0, k0, hl0, hk0, ht0⟩ := HK.out i hlt
   obtain ⟨j1, k1, hl1, hk1, ht1⟩ := HK.out i1 (by omega)
   have H0 := qh ht0
   have H1 := qh ht1
   have HL0 := qh hl0
   have HL1 := qh hl1
   obtain ⟨b4, o4, rfl, -, -⟩ := HRk.out.kid hl0 (by omega)
   have hd : pairsT ((Tr.tokss ks).drop i) = Tr.toks k0 ++ (signT gColon :: (Tr.toks k1 ++ (signT gComma :: pairsT ((Tr.tokss ks).drop (i + 2))))) := by
    rw [tokss_drop hk0, ← hi1, tokss_drop hk1, hi1]
    rfl
   have HD := qh hd
   have hbd : M.length + (Tr.toks k0).length + (Tr.toks k1).length + 2 ≤ 549755813888 := by
    have h1 := congrArg List.length HI.out
    rw [hd] at h1
    simp only [List.length_append, List.length_cons] at h1
    have := HLs.out
    omega
   have hi1K : i1 < K := by omega
   have HI1 := qh hi1
   clear hl0 hk0 ht0 hl1 hk1 ht1 hd hi1
   go_upto_region 9 with fail
   have HH := qh (Hold.tz HR4o.out)
   refine wp_items (by kernel_rfl) [⟨33, some 7, .row M⟩, ⟨34, none, .val (.slice (some ⟨b0, o0, none⟩) m c)⟩, ⟨35, none, .val (.slice (some ⟨b4, o4, none⟩) K c4)⟩, ⟨36, none, .val (.int .i64 (i : Int))⟩, ⟨37, none, .val (.pointer (some ⟨b4, o4 + i, none⟩))⟩, ⟨38, none, .val (.int .i64 (j0 : Int))⟩, ⟨39, none, .row (Tr.toks k0)⟩, ⟨40, some 10, .row (M ++ (Tr.toks k0))⟩, ⟨41, none, .val (tokV (signT ⟨#[58]⟩))⟩, ⟨42, none, .row [signT ⟨#[58]⟩]⟩, ⟨43, some 18, .row ((M ++ (Tr.toks k0)) ++ [signT ⟨#[58]⟩])⟩, ⟨44, none, .val (.slice (some ⟨b0, o0, none⟩) m c)⟩, ⟨45, none, .val (.slice (some ⟨b4, o4, none⟩) K c4)⟩, ⟨46, none, .val (.int .i64 (i : Int))⟩, ⟨47, none, .val (.int .i64 (i1 : Int))⟩, ⟨48, none, .val (.pointer (some ⟨b4, o4 + i1, none⟩))⟩, ⟨49, none, .val (.int .i64 (j1 : Int))⟩, ⟨50, none, .row (Tr.toks k1)⟩, ⟨51, some 21, .row (((M ++ (Tr.toks k0)) ++ [signT ⟨#[58]⟩]) ++ (Tr.toks k1))⟩, ⟨52, none, .val (tokV (signT ⟨#[44]⟩))⟩, ⟨53, none, .row [signT ⟨#[44]⟩]⟩, ⟨54, some 22, .row ((((M ++ (Tr.toks k0)) ++ [signT ⟨#[58]⟩]) ++ (Tr.toks k1)) ++ [signT ⟨#[44]⟩])⟩, ⟨7, none, .row ((((M ++ (Tr.toks k0)) ++ [signT ⟨#[58]⟩]) ++ (Tr.toks k1)) ++ [signT ⟨#[44]⟩])⟩, ⟨7, some 0, .row M⟩] [33, 34, 35, 36, 37, 38, 39, 40, 41, 42, 43, 44, 45, 46, 47, 48, 49, 50, 51, 52, 53, 54, 7, 7] [some 7, none, none, none, none, none, none, some 10, none, none, some 18, none, none, none, none, none, none, none, some 21, none, none, some 22, none, some 0] rfl rfl 183 W1.heap.size HB4.out.size rfl (by kernel_rfl) [22] (by decide) (by decide) HH.out ?_ [some 33, some 34, some 35, some 36, some 37, some 38, some 39, some 40, some 41, some 42, some 43, some 44, some 45, some 46, some 47, some 48, some 49, some 50, some 51, some 52, some 53, some 54, some 7] rfl [(7, .row ((((M ++ (Tr.toks k0)) ++ [signT ⟨#[58]⟩]) ++ (Tr.toks k1)) ++ [signT ⟨#[44]⟩]))] rfl rfl ?_
   ·exact ⟨step_pass 23 (.inl rfl) (by kernel_rfl) rfl rfl rfl (by simp), step_move rfl (Ev.base (by kernel_rfl) rfl) rfl (by simp), step_move rfl (Ev.base (by kernel_rfl) rfl) rfl (by simp), step_move rfl (Ev.base (by kernel_rfl) rfl) rfl (by simp), step_addr rfl (Ev.item 2 (by kernel_rfl) (by kernel_rfl) rfl rfl) (Ev.item 3 (by kernel_rfl) (by kernel_rfl) rfl rfl) (fun w => by go_simp) rfl (by simp), step_load rfl (Ev.item 4 (by kernel_rfl) (by kernel_rfl) rfl rfl) (fun a w S hA => run_kid HRk.out HB4.out hA.bel HL0.out (by omega) rfl) rfl (by simp), step_tk2 enter33 rfl (Ev.item 1 (by kernel_rfl) (by kernel_rfl) rfl rfl) (Ev.item 5 (by kernel_rfl) (by kernel_rfl) rfl rfl) (fun w hb => H0.out w (HT.out.belw (HB4.out.trans hb))) rfl (by simp), step_app 0 rfl (by kernel_rfl) rfl rfl rfl (EvRow.item 6 (by kernel_rfl) (by kernel_rfl) rfl rfl) (by (try simp only [LL]); omega) rfl (by simp), step_sign50 rfl (Ev.const _) rfl (by simp), step_made1 rfl (Ev.item 8 (by kernel_rfl) (by kernel_rfl) rfl rfl) rfl (by simp), step_app 7 rfl (by kernel_rfl) rfl rfl rfl (EvRow.item 9 (by kernel_rfl) (by kernel_rfl) rfl rfl) (by (try simp only [LL]); omega) rfl (by simp), step_move rfl (Ev.base (by kernel_rfl) rfl) rfl (by simp), step_move rfl (Ev.base (by kernel_rfl) rfl) rfl (by simp), step_move rfl (Ev.base (by kernel_rfl) rfl) rfl (by simp), step_add3 rfl (Ev.item 13 (by kernel_rfl) (by kernel_rfl) rfl rfl) (Ev.const _) (by have := HI1.out; exact (IntWalk.i64_in _ (by omega)).trans (by omega)) rfl (by simp), step_addr rfl (Ev.item 12 (by kernel_rfl) (by kernel_rfl) rfl rfl) (Ev.item 14 (by kernel_rfl) (by kernel_rfl) rfl rfl) (fun w => by go_simp) rfl (by simp), step_load rfl (Ev.item 15 (by kernel_rfl) (by kernel_rfl) rfl rfl) (fun a w S hA => run_kid HRk.out HB4.out hA.bel HL1.out (by omega) rfl) rfl (by simp), step_tk2 enter33 rfl (Ev.item 11 (by kernel_rfl) (by kernel_rfl) rfl rfl) (Ev.item 16 (by kernel_rfl) (by kernel_rfl) rfl rfl) (fun w hb => H1.out w (HT.out.belw (HB4.out.trans hb))) rfl (by simp), step_app 10 rfl (by kernel_rfl) rfl rfl rfl (EvRow.item 17 (by kernel_rfl) (by kernel_rfl) rfl rfl) (by (try simp only [LL]); omega) rfl (by simp), step_sign50 rfl (Ev.const _) rfl (by simp), step_made1 rfl (Ev.item 19 (by kernel_rfl) (by kernel_rfl) rfl rfl) rfl (by simp), step_app 18 rfl (by kernel_rfl) rfl rfl rfl (EvRow.item 20 (by kernel_rfl) (by kernel_rfl) rfl rfl) (by (try simp only [LL]); omega) rfl (by simp), step_pass 21 (.inr rfl) (by kernel_rfl) rfl rfl rfl (by simp), True.intro⟩
   intro xs w9 hxs hbel hgr hh
   replace hxs : xs.length = 23 := hxs
   obtain ⟨x0, ys0, rfl, hx0⟩ := len_succ hxs
   obtain ⟨x1, ys1, rfl, hx1⟩ := len_succ hx0
   obtain ⟨x2, ys2, rfl, hx2⟩ := len_succ hx1
   obtain ⟨x3, ys3, rfl, hx3⟩ := len_succ hx2
   obtain ⟨x4, ys4, rfl, hx4⟩ := len_succ hx3
   obtain ⟨x5, ys5, rfl, hx5⟩ := len_succ hx4
   obtain ⟨x6, ys6, rfl, hx6⟩ := len_succ hx5
   obtain ⟨x7, ys7, rfl, hx7⟩ := len_succ hx6
   obtain ⟨x8, ys8, rfl, hx8⟩ := len_succ hx7
   obtain ⟨x9, ys9, rfl, hx9⟩ := len_succ hx8
   obtain ⟨x10, ys10, rfl, hx10⟩ := len_succ hx9
   obtain ⟨x11, ys11, rfl, hx11⟩ := len_succ hx10
   obtain ⟨x12, ys12, rfl, hx12⟩ := len_succ hx11
   obtain ⟨x13, ys13, rfl, hx13⟩ := len_succ hx12
   obtain ⟨x14, ys14, rfl, hx14⟩ := len_succ hx13
   obtain ⟨x15, ys15, rfl, hx15⟩ := len_succ hx14
   obtain ⟨x16, ys16, rfl, hx16⟩ := len_succ hx15
   obtain ⟨x17, ys17, rfl, hx17⟩ := len_succ hx16
   obtain ⟨x18, ys18, rfl, hx18⟩ := len_succ hx17
   obtain ⟨x19, ys19, rfl, hx19⟩ := len_succ hx18
   obtain ⟨x20, ys20, rfl, hx20⟩ := len_succ hx19
   obtain ⟨x21, ys21, rfl, hx21⟩ := len_succ hx20
   obtain ⟨x22, ys22, rfl, hx22⟩ := len_succ hx21
   obtain rfl := len_zero hx22
   clear hxs hx0 hx1 hx2 hx3 hx4 hx5 hx6 hx7 hx8 hx9 hx10 hx11 hx12 hx13 hx14 hx15 hx16 hx17 hx18 hx19 hx20 hx21 hx22
   replace hh : Hold W1.heap.size w9 [(x22, .row ((((M ++ (Tr.toks k0)) ++ [signT ⟨#[58]⟩]) ++ (Tr.toks k1)) ++ [signT ⟨#[44]⟩]))] := hh
   obtain ⟨A9, c9, e9, -, -⟩ := Own.rd hh.own
   have HR9 := qh (Tz.mk hh.own hh.head.2)
   obtain ⟨r9, hr9⟩ : ∃ r, (((((M ++ (Tr.toks k0)) ++ [signT ⟨#[58]⟩]) ++ (Tr.toks k1)) ++ [signT ⟨#[44]⟩])).length = r := ⟨_, rfl⟩
   rw [hr9] at e9
   subst e9
   have HL9 := qh hr9
   have HB9 := qh (HB4.out.trans hbel)
   clear hbel hgr hr9
   simp only [List.zip_cons_cons, List.zip_nil_left, List.zip_nil_right, putAll]
   simp only [Act.put, PQ]
   clear hh
   go_wp2_with fail
   go_round
   case rel => exact ⟨i + 2, A9, c9, r9, ((((M ++ (Tr.toks k0)) ++ [signT ⟨#[58]⟩]) ++ (Tr.toks k1)) ++ [signT ⟨#[44]⟩]), by omega, by omega, by go_num, rfl, HL9, qh (by rw [← HI.out, HD.out]; simp only [List.append_assoc, List.cons_append, List.nil_append]), HR9, HB9⟩
   case measure => simp [intOf]; omega
  ·obtain rfl : i = K := by omega
   have d1 : decide ((i1 : Int) < (i : Int)) = false := decide_eq_false (by omega)
   have hIe : M = signT gLc :: (pairsT (Tr.tokss ks)) := by
    have h1 := HI.out
    rw [List.drop_of_length_le (by rw [tokss_len, HKs.out]; exact Nat.le_refl _)] at h1
    simpa [pairsT] using h1
   have HIe := qh hIe
   have hbd : M.length ≤ 549755813888 := by rw [hIe, List.length_cons]; have := HLs.out; omega
   clear hIe hi1
   go_upto_region 10 with fail
   go_wp2_with (first | (have hmk := HB5.out; clear hmk; at_builtin; go_must (refine wpList_appendT _ rfl _ _ rfl (.slice A1 rM c1) M rfl (HR5o.out.bel (bel_one _ _)).own _ 1 1 [signT gRc] rfl (Rd.toks _ [signT gRc] _ 1 rfl rfl (by omega)) rfl (by (try simp only [LL]); omega) ?_); intro v6 w6 ho hg hn; have hz6 := Tz.app (HR5o.out.bel (bel_one _ _)) ho hg hn (Nat.le_trans HB5.out.size (alloc_le _ _)); have HB6 := qh ((HB5.out.trans (below_low (bel_one _ _) HB5.out.size)).trans (grown_below hg (Nat.le_trans HB5.out.size (alloc_le _ _)) HR5o.out.new)); obtain ⟨r6, hr⟩ : ∃ r, (M ++ [signT gRc]).length = r := ⟨_, rfl⟩; obtain ⟨A6, c6, e6, -, -⟩ := Own.rd ho; rw [hr] at e6; subst e6; have HL6 := qh hr; have HR6o := qh hz6; clear ho hg hn hz6 hr HB5) | (have hmk := HB4.out; clear hmk; go_at_call 50; go_must (refine (sign50_any gRc _).mono ?_); rintro e w5 ⟨rfl, hb⟩; have HB5 := qh (HB4.out.trans (below_low hb HB4.out.size)); have HR5o := qh (HR4o.out.bel hb); clear hb HB4))
   go_ret
   exact tk_fin2 HBa.out HB6.out HR6o.out HL6.out (by rw [HIe.out]; simp [Tr.toks, lay])
end
end Go.Proofs.YtjdcicopjipmnaaDoor
