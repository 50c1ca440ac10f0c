/- Merge. -/
import Derived.Test.YtbfjkjkanckcjaaMrA
import Derived.Outline
namespace Go.Proofs.Ytbfjkjkanckcjaa
open Go.RowKit Go.Shelf
attribute [local go_sem] Oper.semAt_some

set_option maxRecDepth 100000 in
set_option maxHeartbeats 4000000 in
theorem merge_any (A : Option Addr) (m c : Nat) (rs : List SlI) (w : World) (hR : RdR w A m c rs) (hok : AllOk w rs) (hm : m ≤ 1000) (hw : Lin.weight (nums rs) ≤ 1000000) :
    Calls Try.prog 16 #[.slice A m c] w fun e w' => ∃ v, e = .returned (.tuple #[v, .bool (Lin.merge (nums rs)).isSome]) ∧ NewI 2 w w' v ((Lin.merge (nums rs)).getD []) := by
  refine (callsIn_wide (n := 9)).1 ?_
  refine callsIn_of_wp_marks Try.func16 rfl trivial ?_ rfl
  simp only [Try.ntmps16, List.size_toArray, List.length_cons, List.length_nil, Nat.reduceAdd, Nat.reduceSub, Array.replicate_succ, Array.replicate_zero, List.push_toArray, List.append_toArray, List.nil_append, List.cons_append]
  refine wpIn_wide.2 ?_
  go_wp2_with fail
  go_step3
  go_wp2_with fail
  refine (clone_any A m c rs w hR (by omega)).mono ?_
  rintro e w1 ⟨v, rfl, hv⟩
  obtain ⟨Ar, nr, cr, rfl, hvr, _⟩ := OwnR.rd hv.own
  obtain rfl : m = nr := by rw [← hR.1]; exact hvr.1
  go_wp2_with fail
  go_step3
  go_wp2_with fail
  have hz1 := hv.bel.size
  obtain ⟨b4, hb4⟩ : ∃ b, b = w1.heap.size := ⟨_, rfl⟩
  obtain ⟨b5, hb5⟩ : ∃ b, b = b4 + 1 := ⟨_, rfl⟩
  have hbel : Below w1.heap.size w1 ((w1.alloc (Obj.cells #[Value.slice Ar m cr] 22)).alloc (Obj.cells #[Value.slice none 0 0] 25)) := (by repeat (first | exact Below.refl _ _ | assumption | refine Below.setCell ?_ (by first | (simp; done) | (simp; omega) | omega) _ | refine below_drewN ?_ _ | refine Below.drew ?_ | refine Below.alloc ?_ (by first | (simp; done) | (simp; omega) | omega) _))
  have hst : MSt w ((w1.alloc (Obj.cells #[Value.slice Ar m cr] 22)).alloc (Obj.cells #[Value.slice none 0 0] 25)) b4 b5 Ar m cr [] rs [] := by
    refine ⟨by subst hb4; exact (Blk.new w1 22 _).alloc _, Own.new hv.own hbel, hR.1, hok, ⟨.slice none 0 0, ?_, OwnI.nil_ 2 _, fun b e => by cases e⟩, fun e => ?_, Marks.nil _ _, by omega, by omega, hv.new, hv.bel.trans (hbel.mono hz1)⟩
    · have := Blk.new (w1.alloc (Obj.cells #[Value.slice Ar m cr] 22)) 25 #[Value.slice none 0 0]
      rw [World.size_alloc, ← hb4, ← hb5] at this
      exact this
    · have := Own.lt hv.own e
      omega
  rw [← hb4, ← hb5]
  generalize (w1.alloc (Obj.cells #[Value.slice Ar m cr] 22)).alloc (Obj.cells #[Value.slice none 0 0] 25) = W0 at hst ⊢
  have hwt : Lin.weight (nums rs) < Lin.weight (nums rs) + 1 := by omega
  clear hv hvr hz1 hb4 hb5 hbel
  refine wp_loop_rounds (Lin.weight (nums rs) + 1) ?_
  refine (show (∀ (k : Nat) (u6 u12 u13 : Value) (out : List Int) (rest : List SlI) (Ds : List Nat) (W : World), MSt w W b4 b5 Ar m cr out rest Ds → Lin.Steps (nums rs) out (nums rest) → Lin.weight (nums rest) < k →
    Code.rounds Try.prog _ _ k { tmps := #[.slice A m c, undef, .slice none 0 0, .bool false, .pointer (some ⟨b4, 0, none⟩), .pointer (some ⟨b5, 0, none⟩), u6, undef, undef, undef, .slice A m c, .slice Ar m cr, u12, u13, undef, undef, undef, undef, undef, undef, undef, undef, undef, undef, undef, undef, undef, undef, undef, undef, undef, undef, undef, undef, undef, undef, undef, undef, undef, undef, undef, undef, undef, undef, undef, undef, undef], defers := Ds.map mark } W) → _ from fun key => key _ undef undef undef [] rs [] W0 hst .refl hwt) ?_
  clear hst hwt
  intro k
  induction k with
  | zero => intro _ _ _ _ _ _ _ _ _ h; omega
  | succ k ih =>
    intro u6 u12 u13 out rest Ds W hs hsteps hk
    rw [rounds_succ]
    dsimp only
    have HM := Lib.hid hs.marks
    have hl4 := hs.box4.lt
    have q4 : W.cell? ⟨b4, 0, none⟩ = some (.slice Ar m cr) := hs.box4.cell 0
    go_wp2_with fail
    refine (heads_any Ar m cr _).mono ?_
    rintro e W2 ⟨rfl, rfl⟩
    go_wp2_with fail
    have hb2 : Below W.heap.size W ((W.alloc (Obj.cells #[Value.bool true] 4)).alloc (Obj.cells #[Value.slice Ar m cr] 22)) := (by repeat (first | exact Below.refl _ _ | assumption | refine Below.setCell ?_ (by first | (simp; done) | (simp; omega) | omega) _ | refine below_drewN ?_ _ | refine Below.drew ?_ | refine Below.alloc ?_ (by first | (simp; done) | (simp; omega) | omega) _))
    have s2 := hs.new (S := fun _ => False) (Mod.new hb2) id id (fun _ _ => id) (fun _ _ _ _ => id) (fun _ _ => id) (fun _ _ => id)
    have eB : Blk ((W.alloc (Obj.cells #[Value.bool true] 4)).alloc (Obj.cells #[Value.slice Ar m cr] 22)) W.heap.size 4 #[.bool true] := (Blk.new W 4 _).alloc _
    have hB : Blk ((W.alloc (Obj.cells #[Value.bool true] 4)).alloc (Obj.cells #[Value.slice Ar m cr] 22)) (W.heap.size + 1) 22 #[.slice Ar m cr] := by
      have := Blk.new (W.alloc (Obj.cells #[Value.bool true] 4)) 22 #[Value.slice Ar m cr]
      rw [World.size_alloc] at this
      exact this
    have hz2 : ((W.alloc (Obj.cells #[Value.bool true] 4)).alloc (Obj.cells #[Value.slice Ar m cr] 22)).heap.size = W.heap.size + 2 := by simp
    have hwe : w.heap.size ≤ W.heap.size := hs.bel.size
    have h4e : b4 ≠ W.heap.size := by have := hs.box4.lt; omega
    have h5e : b5 ≠ W.heap.size := by obtain ⟨_, h, _⟩ := hs.box5; have := h.lt; omega
    have hre : (Value.slice Ar m cr).ownBlock ≠ some W.heap.size := fun e => by have := Own.lt hs.own e; omega
    have hoe : ∀ vo b, ((W.alloc (Obj.cells #[Value.bool true] 4)).alloc (Obj.cells #[Value.slice Ar m cr] 22)).heap[b5]? = some (.cells #[vo] 25 (0, 0)) → vo.ownBlock = some b → b ≠ W.heap.size := by
      obtain ⟨vo, h, ho, _⟩ := hs.box5
      intro v' b h' e'
      have h2 := h.new' hb2
      unfold Blk at h2
      rw [h2] at h'
      cases h'
      have := Own.lt ho e'
      omega
    have hDe : ∀ D ∈ Ds, D ≠ W.heap.size := fun D hD => by have := hs.marks.lt hD; omega
    have hDn : ∀ D ∈ Ds, D < W.heap.size := fun D hD => hs.marks.lt hD
    clear hs hb2 q4 hl4 HM
    generalize (W.alloc (Obj.cells #[Value.bool true] 4)).alloc (Obj.cells #[Value.slice Ar m cr] 22) = W2 at *
    generalize W.heap.size = e at *
    have hit := s2.iter hB hwe (by omega) hre
    refine (wpIn_wide (n := 9)).1 ?_
    refine wpIn_rangeFunc_ownG rfl (by omega) (gf := 35) (lb := #[.pointer (some ⟨e + 1, 0, none⟩)]) rfl trivial (enters_of Try.func35 (by kernel_rfl) rfl)
      (heads_stops Fence.wide 8 trivial rfl (by omega) (e + 1) e W2.heap.size m cr Ar rest W2 (Nat.le_refl _) hit) (fun h k => h.trans k) (keepsBut_b (Nat.le_refl _)) (Below.refl _ _) (fun _ => rfl)
      (fun pre W' => Blk W' e 4 #[.bool pre.isEmpty] ∧ Mod (fun i => i = e) W2 W' ∧ ∀ h ∈ pre, tailI (nums rest) h = true)
      (fun c pre W' => c = .exit 1 ∧ ∃ pre' x, pre = pre' ++ [x] ∧ (∀ h ∈ pre', tailI (nums rest) h = true) ∧ tailI (nums rest) x = false ∧ ∃ rest', nums rest' = Lin.strip x (nums rest) ∧ MSt w W' b4 b5 Ar m cr (out ++ [x]) rest' Ds)
      ?hI ?hIx ⟨eB, Mod.refl _ _, fun _ h => by simp at h⟩
      (fun x => { tmps := #[.slice A m c, undef, .slice none 0 0, .bool false, .pointer (some ⟨b4, 0, none⟩), .pointer (some ⟨b5, 0, none⟩), .pointer (some ⟨e, 0, none⟩), .int .i64 x, undef, undef, .slice A m c, .slice Ar m cr, .slice Ar m cr, .func (.func 35) #[] #[.pointer (some ⟨e + 1, 0, none⟩)], .int .i64 x, undef, undef, undef, undef, undef, undef, undef, undef, undef, undef, undef, undef, undef, undef, undef, undef, undef, undef, undef, undef, undef, undef, undef, undef, undef, undef, undef, undef, undef, undef, undef, undef], defers := [] }) ?assign ?body ?done ?stop
    case hI =>
      rintro s A' B' row ⟨h1, h2, h3⟩ hg hr
      exact ⟨h1.keep (cells_on hg hr h1 rfl), h2.grown hg fun k e' hlt => by have := (hr k e').1; omega, h3⟩
    case hIx =>
      rintro c' s A' B' row ⟨rfl, pre', x, h1, h2, h3, rest', h4, h5⟩ hg hr
      exact ⟨rfl, pre', x, h1, h2, h3, rest', h4, h5.on hg hr (fun D hD => by have := hDn D hD; omega) (by omega)⟩
    case assign =>
      intro l x W' K hK
      gi_wp2
      exact hK
    case body =>
      rintro l pre x W' ⟨hE, hm, hpre⟩ hlt
      have s3 := s2.new hm h4e h5e (fun b h e => hre (by rw [h, e])) (fun vo b h h' e => ?_) hDe (fun i h e => by omega)
      rotate_left 1
      · exact hoe vo b h h' e
      have ce : W'.cell? ⟨e, 0, none⟩ = some (.bool pre.isEmpty) := hE.cell 0
      have fe : W'.frozen? ⟨e, 0, none⟩ = false := hE.frozen 0
      have q4 : W'.cell? ⟨b4, 0, none⟩ = some (.slice Ar m cr) := s3.box4.cell 0
      have hl4 := s3.box4.lt
      have hlE := hE.lt
      have hw3 := s3.bel.size
      have HE := Lib.hid hE
      have HM := Lib.hid hm
      have HPRE := Lib.hid hpre
      have HS3 := Lib.hid s3
      clear hE hm hpre s3 hit
      gi_wp2
      refine ⟨trivial, ?_⟩
      have m4 : Mod (fun i => i = e) W' (W'.setCell ⟨e, 0, none⟩ (.bool false)) := (Mod.refl (fun i => i = e) W').setCell (p := ⟨e, 0, none⟩) (fun _ => rfl) _
      have s4 := HS3.out.new m4 h4e h5e (fun b h e => hre (by rw [h, e])) (fun vo b h h' e' => ?_) hDe (fun i h e => by omega)
      rotate_left 1
      · have h2 := HM.out.block b5 (by obtain ⟨_, h, _⟩ := s2.box5; exact h.lt) h5e
        rw [h2] at h
        exact hoe vo b h h' e'
      have E4 : Blk (W'.setCell ⟨e, 0, none⟩ (.bool false)) e 4 #[.bool false] := HE.out.set_ 0 (.bool false)
      have k4 : KeepsFrom W2.heap.size W' (W'.setCell ⟨e, 0, none⟩ (.bool false)) := (KeepsOthers.setCell _ _ _).from _
      have M4 := HM.out.trans m4 fun _ _ h => h
      clear m4 ce fe q4
      generalize W'.setCell ⟨e, 0, none⟩ (.bool false) = W4 at *
      have hr4 : RdR W4 Ar m cr rest := by obtain ⟨_, _, _, e', hr, _⟩ := OwnR.rd s4.own; cases e'; exact hr
      have ok4 : AllOk W4 rest := s4.ok.new s4.bel
      refine (CallsIn.inRound l ((callsIn_wide (n := 6)).2 (behind_any Ar m cr rest x W4 hr4 ok4))).mono ?_
      rintro e' w5 ⟨rfl, hb5⟩
      have s5 := s4.new (S := fun _ => False) (Mod.new hb5) id id (fun _ _ => id) (fun _ _ _ _ => id) (fun _ _ => id) (fun _ _ => id)
      have E5 := E4.new' hb5
      have k5 : KeepsFrom W2.heap.size W' w5 := k4.trans ⟨hb5.size, fun k o _ hk _ => (hb5.block k (Array.getElem?_eq_some_iff.1 hk).1).trans hk⟩
      have M5 : Mod (fun i => i = e) W2 w5 := M4.trans (Mod.new (S := fun i => i = e) hb5) fun _ _ h => h
      have kb : KeepsBut e W2.heap.size W' w5 := by
        refine ⟨k5.size, fun i hi hne => ?_⟩
        rw [M5.block i hi hne, HM.out.block i hi hne]
      have K5 := Lib.hid k5
      have KB := Lib.hid kb
      have HM5 := Lib.hid M5
      have HE5 := Lib.hid E5
      have HS5 := Lib.hid s5
      clear s4 E4 k4 M4 hr4 ok4 hb5 k5 kb M5 E5
      cases hbl : tailI (nums rest) x
      · have HBL := Lib.hid hbl
        clear hbl
        obtain ⟨vo, k5b, k5o, hvo⟩ := s5.box5
        obtain ⟨Ao, co, rfl, ho5, _⟩ := OwnI.rdL k5o
        have c5 : w5.cell? ⟨b5, 0, none⟩ = some (.slice Ao out.length co) := k5b.cell 0
        have hl5 := k5b.lt
        have hlen : out.length ≤ 1000000 := by have := hsteps.weight; omega
        have hbn : Below w5.heap.size w5 (w5.alloc (.cells #[.int .i64 x] 2)) := (by repeat (first | exact Below.refl _ _ | assumption | refine Below.setCell ?_ (by first | (simp; done) | (simp; omega) | omega) _ | refine below_drewN ?_ _ | refine Below.drew ?_ | refine Below.alloc ?_ (by first | (simp; done) | (simp; omega) | omega) _))
        have HBN := Lib.hid hbn
        have ho6 := Own.new k5o hbn
        have h5r := one_rdI w5 2 x
        have HVO := Lib.hid hvo
        have HK5B := Lib.hid k5b
        have HKO := Lib.hid k5o
        clear s5 k5b k5o ho5 hvo hbn
        gi_wp2_with (gi_at_builtin; refine wpListIn_appendI _ rfl _ _ rfl (.slice Ao out.length co) out rfl ho6 (some ⟨w5.heap.size, 0, none⟩) 1 1 [x] rfl h5r (by omega) ?_; intro v6 w6 hv6 hg6 ha6; obtain ⟨A6, c6, rfl, _⟩ := OwnI.rdL hv6; have hne6 : (Value.slice Ao out.length co).ownBlock ≠ some b5 := own_blk_ne ho6 (HK5B.out.new' HBN.out) (by decide); have hk6 := (HK5B.out.new' HBN.out).grown hg6 (Ne.symm hne6); have c56 : w6.cell? ⟨b5, 0, none⟩ = some (.slice Ao out.length co) := hk6.cell 0; have f56 := hk6.frozen 0; have HK6 := Lib.hid hk6; have HV6 := Lib.hid hv6; have HG6 := Lib.hid hg6; have HA6 := Lib.hid ha6; obtain ⟨h45, c46, s7⟩ := HS5.out.push HBN.out HK5B.out HKO.out HVO.out hv6 hg6 ha6; have h54 := Ne.symm h45; have HS7 := Lib.hid s7; clear hv6 hg6 ha6 hk6 s7)
        have k7 : KeepsFrom W2.heap.size W' (w6.setCell ⟨b5, 0, none⟩ (.slice A6 (out.length + 1) c6)) := K5.out.trans (KeepsFrom.trans ⟨HBN.out.size, fun k o _ hk _ => (HBN.out.block k (Array.getElem?_eq_some_iff.1 hk).1).trans hk⟩ (KeepsFrom.trans ⟨HG6.out.size, fun k o _ hk ho => ?_⟩ ((KeepsOthers.setCell _ _ _).from _)))
        rotate_left 1
        · exact (HG6.out.block k (Array.getElem?_eq_some_iff.1 hk).1 (fun e' => by
            rcases (Own.new HKO.out HBN.out).2 with ⟨e2, _⟩ | ⟨g, _, cur, e2, hh, _⟩
            · rw [e2] at e'; cases e'
            · rw [e2] at e'
              injection e' with e'
              subst e'
              rw [hk] at hh
              injection hh with hh
              subst hh
              cases ho)).trans hk
        have s7 := HS7.out
        rw [show (out ++ [x]).length = out.length + 1 from by simp] at s7
        have hrl := s7.len
        have hm9 : m ≤ 9223372036854775807 := by omega
        clear HS7
        generalize w6.setCell ⟨b5, 0, none⟩ (.slice A6 (out.length + 1) c6) = w7 at *
        have HK7 := Lib.hid k7
        clear k7 c46 c56 f56 c5
        gi_loopw [24] (fun i wr => ∃ k : Nat, k ≤ m ∧ i = .int .i64 k ∧ MSt w wr b4 b5 Ar m cr (out ++ [x]) (cuts x rest k) Ds ∧ KeepsFrom W2.heap.size W' wr) (fun i _ => m - (intOf i).toNat)
        case atStart => exact ⟨0, Nat.zero_le _, rfl, by rw [cuts_zero]; exact s7, HK7.out⟩
        case round =>
          obtain ⟨k, hk, rfl, hs, hkf⟩ := hrel
          by_cases hlt : k < m
          · have hkr : k < rest.length := by omega
            obtain ⟨br, rfl⟩ := hs.row (by omega)
            have hc : wr.cell? ⟨br, 0 + k, none⟩ = some rest[k].v := by
              obtain ⟨_, _, _, e1, h1, _⟩ := hs.own.rd
              cases e1
              obtain ⟨b, o, e2, _, h2⟩ := RdR.at_ h1 hlt
              cases e2
              rw [cuts_at x rest k hkr] at h2
              exact h2
            have hrow := s7.ok rest[k] (List.getElem_mem hkr)
            have hnx := cuts_set x rest k hkr
            have hsm := cuts_same x rest k hkr
            have hcutOk := SlI.Ok.cut hrow x
            have hrow2 : rest[k].Ok wr := hrow.new hs.bel
            obtain ⟨hfr, hmc, hst7⟩ := hs.cut hlt (cutRow x rest[k]) hcutOk
            rw [hnx] at hst7
            generalize rest[k] = r at *
            obtain ⟨A1, n1, c1, xs1⟩ := r
            have hrow2 : RdI wr A1 n1 c1 xs1 := hrow2
            have hc : wr.cell? ⟨br, k, none⟩ = some (.slice A1 n1 c1) := by rw [Nat.zero_add] at hc; exact hc
            have hm1 := hrow2.le
            have HS := Lib.hid hs
            have HKF := Lib.hid hkf
            have HST := Lib.hid hst7
            have HSM := Lib.hid hsm
            by_cases hz : n1 = 0
            · subst hz
              have hx : xs1 = [] := List.eq_nil_of_length_eq_zero hrow2.1
              subst hx
              have e := hsm (by simp)
              have HE := Lib.hid e
              clear hs hkf hst7 hsm e hnx hrow hcutOk hrow2 hmc hfr
              gi_wp2
              go_roundw
              case rel => exact ⟨k + 1, by omega, by go_num, by rw [HE.out]; exact HS.out, HKF.out⟩
              case measure => simp [intOf]; omega
            · have hpos : 0 < n1 := by omega
              obtain ⟨b2, o2, rfl, hb2, hx0'⟩ := hrow2.at_ hpos
              obtain ⟨y, t, rfl⟩ : ∃ y t, xs1 = y :: t := by
                cases xs1 with
                | nil => have := hrow2.1; simp at this; omega
                | cons y t => exact ⟨y, t, rfl⟩
              have hx0 : wr.cell? ⟨b2, o2, none⟩ = some (.int .i64 y) := hx0'
              have hnc : n1 ≤ c1 := hrow2.2.1
              have hc9 : c1 ≤ 9223372036854775807 := hrow2.2.2.1
              have hd : decide (0 < n1) = true := by simpa using hpos
              have hlr := hrow2.1
              clear hx0' hrow hrow2 hcutOk hnx
              by_cases hxy : y = x
              · subst hxy
                have q4r : wr.cell? ⟨b4, 0, none⟩ = some (.slice (some ⟨br, 0, none⟩) m cr) := hs.box4.cell 0
                have hcw : cutRow y ⟨some ⟨b2, o2, none⟩, n1, c1, y :: t⟩ = ⟨if c1 = 1 then some ⟨b2, o2, none⟩ else some ⟨b2, o2 + 1, none⟩, n1 - 1, c1 - 1, t⟩ := by
                  simp only [cutRow, List.head?_cons, if_pos]; rfl
                rw [hcw] at hst7
                clear hsm hmc hcw HST HSM
                have HS := Lib.hid hs
                clear hs hkf
                by_cases hc1 : c1 = 1
                · subst hc1
                  rw [if_pos rfl] at hst7
                  obtain rfl : n1 = 1 := by omega
                  have KF := HKF.out.trans ((KeepsOthers.setCell wr ⟨br, k, none⟩ (SlI.v ⟨some ⟨b2, o2, none⟩, 0, 0, t⟩)).from _)
                  have HST := Lib.hid (hst7.new ((Mod.refl (fun _ => False) _).drew) id id (fun _ _ => id) (fun _ _ _ _ => id) (fun _ _ => id) (fun _ _ => id))
                  have HKC := Lib.hid KF
                  clear hst7 KF
                  gi_wp2
                  have hmo : Try.prog.follows Departure.mixedOrders = true := by kernel_rfl
                  gi_region_o
                  clear hmo
                  gi_wp2
                  all_goals (go_roundw; (case rel => exact ⟨k + 1, by omega, by go_num, HST.out, ⟨HKC.out.size, HKC.out.same⟩⟩); (case measure => simp [intOf]; omega))
                · rw [if_neg hc1] at hst7
                  have KF := HKF.out.trans ((KeepsOthers.setCell wr ⟨br, k, none⟩ (SlI.v ⟨some ⟨b2, o2 + 1, none⟩, n1 - 1, c1 - 1, t⟩)).from _)
                  have HST := Lib.hid (hst7.new ((Mod.refl (fun _ => False) _).drew) id id (fun _ _ => id) (fun _ _ _ _ => id) (fun _ _ => id) (fun _ _ => id))
                  have HKC := Lib.hid KF
                  clear hst7 KF
                  gi_wp2
                  have hmo : Try.prog.follows Departure.mixedOrders = true := by kernel_rfl
                  gi_region_o
                  clear hmo
                  gi_wp2
                  all_goals (go_roundw; (case rel => exact ⟨k + 1, by omega, by go_num, HST.out, ⟨HKC.out.size, HKC.out.same⟩⟩); (case measure => simp [intOf]; omega))
              · have e := hsm (fun h => hxy (Option.some.inj h))
                have HE := Lib.hid e
                clear hs hkf hst7 hsm e hmc hfr
                gi_wp2
                go_roundw
                case rel => exact ⟨k + 1, by omega, by go_num, by rw [HE.out]; exact HS.out, HKF.out⟩
                case measure => simp [intOf]; omega
          · obtain rfl : k = m := by omega
            have e : nums (cuts x rest k) = Lin.strip x (nums rest) := by
              have := cuts_all x rest
              rw [hrl] at this
              exact this
            have HS := Lib.hid hs
            have HKF := Lib.hid hkf
            have HE := Lib.hid e
            clear hs hkf e
            gi_wp2
            exact ⟨HKF.out, rfl, pre, x, rfl, HPRE.out, HBL.out, _, HE.out, HS.out⟩
      · have HBL := Lib.hid hbl
        clear hbl s5
        gi_wp2
        refine ⟨K5.out, KB.out, ?_, HM5.out, fun h hh => ?_⟩
        · have : (pre ++ [x]).isEmpty = false := by simp
          rw [this]
          exact HE5.out
        · rcases List.mem_append.1 hh with hh | hh
          · exact HPRE.out h hh
          · rw [List.mem_singleton] at hh
            subst hh
            exact HBL.out
    case done =>
      rintro D xs W' hD rfl ⟨hE, hm, hbl⟩ hdef
      have s3 := s2.new hm h4e h5e (fun b h e => hre (by rw [h, e])) (fun vo b h h' e => hoe vo b h h' e) hDe (fun i h e => by omega)
      have hmk : Marks w W' (D :: Ds) := ⟨List.nodup_cons.2 ⟨fun h => by have := hDn D h; omega, s3.marks.nodup⟩, fun E hE => (by
        rcases List.mem_cons.1 hE with rfl | hE
        · exact hdef
        · exact s3.marks.here E hE), fun E hE => (by
        rcases List.mem_cons.1 hE with rfl | hE
        · omega
        · exact s3.marks.new E hE)⟩
      have hpk := pick_none_of hbl
      have ce : W'.cell? ⟨e, 0, none⟩ = some (.bool (Lin.heads (nums rest)).isEmpty) := hE.cell 0
      obtain ⟨vo, k5, k5o, hvo⟩ := s3.box5
      have c5 : W'.cell? ⟨b5, 0, none⟩ = some vo := k5.cell 0
      have hl5 := k5.lt
      have hlE := hE.lt
      have hmg := hsteps.merge
      rw [Lin.merge_none hpk] at hmg
      have hbel := s3.bel
      clear hE hm hbl hdef hit s2 ih hsteps k5 s3
      have HMK := Lib.hid hmk
      have HMG := Lib.hid hmg
      have HO := Lib.hid k5o
      have HVO := Lib.hid hvo
      clear hmk hmg k5o hvo
      dsimp only
      by_cases hh : Lin.heads (nums rest) = []
      · rw [hh] at ce
        have hv := heads_void.1 hh
        go_wp2_with fail
        refine leaves_marks (D :: Ds) W' HMK.out fun W'' hk => ⟨results_tmp2 rfl _ _ _, vo, ?_⟩
        have hmg := HMG.out
        rw [if_pos hv] at hmg
        rw [hmg]
        refine ⟨rfl, marks_end HMK.out hbel hk ?_ HVO.out⟩
        have : (Option.map (fun x => out ++ x) (some [])).getD [] = out := by simp
        rw [this]
        exact HO.out
      · have hv : Lin.void (nums rest) = false := by
          cases h : Lin.void (nums rest)
          · rfl
          · exact absurd (heads_void.2 h) hh
        have : (Lin.heads (nums rest)).isEmpty = false := by simpa using hh
        rw [this] at ce
        go_wp2_with fail
        refine leaves_marks (D :: Ds) W' HMK.out fun W'' hk => ⟨results_tmp2 rfl _ _ _, .slice none 0 0, ?_⟩
        have hmg := HMG.out
        rw [hv, if_neg (by decide)] at hmg
        rw [hmg]
        exact ⟨rfl, marks_end HMK.out hbel hk (OwnI.nil_ 2 _) fun b e => by cases e⟩
    case stop =>
      rintro D c' pre W' hD hpf ⟨rfl, pre', x, rfl, hbl, hx, rest', hr', hs'⟩ hdef
      have hpk := pick_of hpf hbl hx
      have hmk : Marks w W' (D :: Ds) := ⟨List.nodup_cons.2 ⟨fun h => by have := hDn D h; omega, hs'.marks.nodup⟩, fun E hE => (by
        rcases List.mem_cons.1 hE with rfl | hE
        · exact hdef
        · exact hs'.marks.here E hE), fun E hE => (by
        rcases List.mem_cons.1 hE with rfl | hE
        · omega
        · exact hs'.marks.new E hE)⟩
      have hs2 : MSt w W' b4 b5 Ar m cr (out ++ [x]) rest' (D :: Ds) := ⟨hs'.box4, hs'.own, hs'.len, hs'.ok, hs'.box5, hs'.ne5, hmk, hs'.n4, hs'.n5, hs'.nr, hs'.bel⟩
      have hst := Lin.Steps.snoc hsteps hpk
      rw [← hr'] at hst
      have hwt := Lin.pick_weight hpk
      rw [← hr'] at hwt
      have hgo := ih (.pointer (some ⟨e, 0, none⟩)) (.slice Ar m cr) (.func (.func 35) #[] #[.pointer (some ⟨e + 1, 0, none⟩)]) (out ++ [x]) rest' (D :: Ds) W' hs2 hst (by omega)
      have HGO := Lib.hid hgo
      clear hgo ih
      dsimp only
      gi_wp2
      exact HGO.out
end Go.Proofs.Ytbfjkjkanckcjaa
