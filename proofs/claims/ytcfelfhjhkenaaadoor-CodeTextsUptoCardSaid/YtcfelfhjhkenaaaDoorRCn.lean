/- The reference's number, text, list, Const, constant. -/
import Derived.Test.YtcfelfhjhkenaaaDoorRdp
namespace Go.Proofs.YtcfelfhjhkenaaaDoor
open Go.RowKit
set_option linter.unusedVariables false
set_option linter.unusedSimpArgs false
attribute [local go_sem] Oper.semAt_some

/-- bytes in a row made since base -/
def NewB (b : Nat) (w : World) (v : Value) (bs : List UInt8) : Prop := w.ownsRow b 5 1 v bs.length (bcs bs)
theorem NewB.some_ {b : Nat} {w : World} {v : Value} {bs : List UInt8} (h : NewB b w v bs) (hne : bs ≠ []) : ∃ g c, v = .slice (some ⟨g, 0, none⟩) bs.length c ∧ b ≤ g ∧ g < w.heap.size ∧ ∀ j u, (bcs bs)[j]? = some u → w.cell? ((⟨g, 0, none⟩ : Addr).add j) = some u := by
  obtain ⟨A, c, e, hr, _⟩ := Own.rd (row_own h)
  have h0 : 0 < bs.length := List.length_pos_iff.2 hne
  obtain ⟨g, o, rfl, hg, hc⟩ := hr.2.2.2 h0
  rcases h.2 with ⟨rfl, h1⟩ | ⟨g', cap, cur, rfl, hb, hx⟩
  · cases e
  · cases e
    refine ⟨g, c, rfl, hb, hg, fun j u hu => ?_⟩
    have h1 := hc j u hu
    rw [Nat.zero_add] at h1
    rw [show (⟨g, 0, none⟩ : Addr).add j = ⟨g, j, none⟩ from by unfold Addr.add; split <;> simp_all]
    exact h1
theorem NewB.new {b : Nat} {w w' : World} {v : Value} {bs : List UInt8} (h : NewB b w v bs) (hb : Below w.heap.size w w') : NewB b w' v bs := row_new h hb
theorem NewB.down {b b' : Nat} {w : World} {v : Value} {bs : List UInt8} (h : NewB b w v bs) (hb : b' ≤ b) : NewB b' w v bs :=
  ⟨h.1, h.2.imp id fun ⟨g, cap, cur, e, h1, r⟩ => ⟨g, cap, cur, e, by omega, r⟩⟩
theorem NewB.grown {b : Nat} {w w1 w2 : World} {v : Value} {bs : List UInt8} (h : NewB b w1 v bs) (hb : Below b w w1) (hs : b ≤ w1.heap.size) (hg : w1.grownBy w2 v.ownBlock) : Below b w w2 :=
  hb.grown hg hs fun k hk => row_base h hk
set_option maxRecDepth 100000 in
set_option maxHeartbeats 1000000 in
theorem rnumber_any {w : World} (k0 : Nat) (hk0 : k0 ≤ 2147483647) :
    Calls Tryd.prog 28 #[.int .i64 k0] w fun e w' => (∃ v, e = .returned v ∧ NewB w.heap.size w' v (numB k0)) ∧ Below w.heap.size w w' := by
  obtain ⟨i0, hi, hz0, hz1, hz2⟩ := info_parts info_B
  have HI := Lib.hid (And.intro hi (And.intro hz0 (And.intro hz1 hz2)))
  have hlen : (numB k0).length ≤ 5 := numB_len (by omega) (by simp; omega)
  clear hi hz0 hz1 hz2
  go_enter Tryd.func28, Tryd.ntmps28
  go_wp2_with fail
  go_loopw [0, 3] (fun i v wr => ∃ (k : Nat) (done : List UInt8), k ≤ 2147483647 ∧ i = .int .i64 k ∧ numB k0 = done ++ numB k ∧ NewB w.heap.size wr v done ∧ Below w.heap.size w wr) (fun i _ _ => (intOf i).toNat)
  case atStart => exact ⟨k0, [], hk0, rfl, rfl, ⟨rfl, .inr ⟨w.heap.size, 0, #[], rfl, Nat.le_refl _, heap_alloc_new w _, Nat.le_refl _, by decide, rfl, rfl⟩⟩, (by repeat (first | exact Below.refl _ _ | assumption | refine Below.setCell ?_ (by first | (simp; done) | (simp; omega) | omega) _ | refine below_drewN ?_ _ | refine Below.drew ?_ | refine Below.alloc ?_ (by first | (simp; done) | (simp; omega) | omega) _))⟩
  case round =>
    obtain ⟨k, done, hk, rfl, hd, hO, hB⟩ := hrel
    obtain ⟨A, c, rfl, -, -⟩ := Own.rd (row_own hO)
    have hbz := hB.size
    have HO := Lib.hid hO
    have hb1 : ∀ {w'}, Below wr.heap.size wr w' → Below w.heap.size w w' := fun h => hB.trans (h.mono hbz)
    clear hO
    by_cases hgt : 127 < k
    · obtain ⟨y, hy⟩ : ∃ y : UInt8, y = UInt8.ofNat (k % 128 + 128) := ⟨_, rfl⟩
      have HN := numB_hi hgt
      rw [← hy] at HN
      have HN := Lib.hid HN
      have hlk : done.length + 1 ≤ 5 := by rw [hd, HN.out] at hlen; simp at hlen; omega
      have hyv : (y.toNat : Int) = ((k : Int) % 128 + 128) := by rw [hy, UInt8.toNat_ofNat']; omega
      clear hy
      have ho1 := one_at wr y
      rw [hyv] at ho1
      have HO1 := Lib.hid ho1
      clear ho1
      go_wp2_with (at_builtin; refine wpList_append_own _ rfl (.tmp 7) (.tmp 12) 30 rfl w.heap.size 5 i0 _ 1 1 Tryd.underlying30 HI.out.1 HI.out.2.1 HI.out.2.2.1 HI.out.2.2.2 rfl (by decide) (.slice A done.length c) done.length (bcs done) rfl (by exact row_new HO.out (by repeat (first | exact Below.refl _ _ | assumption | refine Below.setCell ?_ (by first | (simp; done) | (simp; omega) | omega) _ | refine below_drewN ?_ _ | refine Below.drew ?_ | refine Below.alloc ?_ (by first | (simp; done) | (simp; omega) | omega) _))) ⟨wr.heap.size, 0, none⟩ 1 1 (bcs [y]) rfl rfl (by exact HO1.out) (bcs_oneCell _) (by simp only [maxLen]; omega) (by omega) (by simp; omega) ?_; intro v6 w6 ho6 hg6 _; obtain ⟨A6, c6, rfl, -, -⟩ := Own.rd (row_own ho6); have hb6 := NewB.grown (HO.out.new (by repeat (first | exact Below.refl _ _ | assumption | refine Below.setCell ?_ (by first | (simp; done) | (simp; omega) | omega) _ | refine below_drewN ?_ _ | refine Below.drew ?_ | refine Below.alloc ?_ (by first | (simp; done) | (simp; omega) | omega) _))) (hb1 (by repeat (first | exact Below.refl _ _ | assumption | refine Below.setCell ?_ (by first | (simp; done) | (simp; omega) | omega) _ | refine below_drewN ?_ _ | refine Below.drew ?_ | refine Below.alloc ?_ (by first | (simp; done) | (simp; omega) | omega) _))) (by simp; omega) hg6; have ho7 : NewB w.heap.size w6 _ (done ++ [y]) := (by unfold NewB; rw [List.length_append, bcs_append]; exact ho6); have HO6 := Lib.hid ho7; have HB6 := Lib.hid hb6; clear ho6 hg6 hb6 ho7)
      go_roundw
      case rel => exact ⟨k / 128, done ++ [y], by omega, by go_num, by rw [hd, HN.out, List.append_assoc]; rfl, HO6.out, HB6.out⟩
      case measure => simp [intOf]; omega
    · obtain ⟨y, hy⟩ : ∃ y : UInt8, y = UInt8.ofNat k := ⟨_, rfl⟩
      have hyk : (y.toNat : Int) = (k : Int) := by rw [hy, UInt8.toNat_ofNat']; omega
      have HN := numB_lo hgt
      rw [← hy] at HN
      have HN := Lib.hid HN
      have hlk : done.length + 1 ≤ 5 := by rw [hd, HN.out] at hlen; simp at hlen; omega
      clear hy
      have ho1 := one_at wr y
      rw [hyk] at ho1
      have HO1 := Lib.hid ho1
      clear ho1 hyk
      go_wp2_with (at_builtin; refine wpList_append_own _ rfl (.tmp 16) (.tmp 19) 30 rfl w.heap.size 5 i0 _ 1 1 Tryd.underlying30 HI.out.1 HI.out.2.1 HI.out.2.2.1 HI.out.2.2.2 rfl (by decide) (.slice A done.length c) done.length (bcs done) rfl (by exact row_new HO.out (by repeat (first | exact Below.refl _ _ | assumption | refine Below.setCell ?_ (by first | (simp; done) | (simp; omega) | omega) _ | refine below_drewN ?_ _ | refine Below.drew ?_ | refine Below.alloc ?_ (by first | (simp; done) | (simp; omega) | omega) _))) ⟨wr.heap.size, 0, none⟩ 1 1 (bcs [y]) rfl rfl (by exact HO1.out) (bcs_oneCell _) (by simp only [maxLen]; omega) (by omega) (by simp; omega) ?_; intro v6 w6 ho6 hg6 _; obtain ⟨A6, c6, rfl, -, -⟩ := Own.rd (row_own ho6); have hb6 := NewB.grown (HO.out.new (by repeat (first | exact Below.refl _ _ | assumption | refine Below.setCell ?_ (by first | (simp; done) | (simp; omega) | omega) _ | refine below_drewN ?_ _ | refine Below.drew ?_ | refine Below.alloc ?_ (by first | (simp; done) | (simp; omega) | omega) _))) (hb1 (by repeat (first | exact Below.refl _ _ | assumption | refine Below.setCell ?_ (by first | (simp; done) | (simp; omega) | omega) _ | refine below_drewN ?_ _ | refine Below.drew ?_ | refine Below.alloc ?_ (by first | (simp; done) | (simp; omega) | omega) _))) (by simp; omega) hg6; have ho7 : NewB w.heap.size w6 _ (done ++ [y]) := (by unfold NewB; rw [List.length_append, bcs_append]; exact ho6); have HO6 := Lib.hid ho7; have HB6 := Lib.hid hb6; clear ho6 hg6 hb6 ho7)
      go_ret
      exact ⟨⟨_, rfl, by rw [hd, HN.out]; exact HO6.out⟩, HB6.out⟩

/-- bytes and no error, or an error -/
def RefB (w : World) (r : Res) (e : Ending) (w' : World) : Prop := Below w.heap.size w w' ∧ match r with
  | .ok bs => ∃ v, e = .returned (.tuple #[v, .int .i64 0]) ∧ NewB w.heap.size w' v bs
  | .error y => e = .returned (.tuple #[.slice none 0 0, .int .i64 y])
theorem RefB.ok {w w' : World} {r : Res} {e : Ending} {bs : List UInt8} (hr : r = .ok bs) (h : RefB w r e w') : Below w.heap.size w w' ∧ ∃ v, e = .returned (.tuple #[v, .int .i64 0]) ∧ NewB w.heap.size w' v bs := by
  subst hr; exact h
theorem RefB.err {w w' : World} {r : Res} {e : Ending} {y : Int} (hr : r = .error y) (h : RefB w r e w') : Below w.heap.size w w' ∧ e = .returned (.tuple #[.slice none 0 0, .int .i64 y]) := by
  subst hr; exact h
set_option maxRecDepth 100000 in
set_option maxHeartbeats 1000000 in
theorem rtext_any {w : World} (s : ByteArray) : Calls Tryd.prog 43 #[.string s] w (RefB w (textE s)) := by
  by_cases hs : 65536 < s.size
  · have h1 : decide (65536 < s.size) = true := decide_eq_true hs
    have h2 : decide ((65536 : Int) < (s.size : Int)) = true := decide_eq_true (by omega)
    have hr : textE s = .error 2 := by unfold textE; rw [if_neg (by omega)]
    rw [hr]
    clear hr
    go_enter Tryd.func43, Tryd.ntmps43
    go_wp2_with fail
    go_ret2
    exact ⟨Below.refl _ _, rfl⟩
  · have h1 : decide (65536 < s.size) = false := decide_eq_false hs
    have h2 : decide ((65536 : Int) < (s.size : Int)) = false := decide_eq_false (by omega)
    have hr : textE s = .ok (numB s.size ++ s.data.toList) := by unfold textE; rw [if_pos (by omega)]
    obtain ⟨i0, hi, hz0, hz1, hz2⟩ := info_parts info_B
    have HI := Lib.hid (And.intro hi (And.intro hz0 (And.intro hz1 hz2)))
    have hlen : (numB s.size).length ≤ 5 := numB_len (by omega) (by simp; omega)
    have KN : Hid (∀ w', Calls Tryd.prog 28 #[.int .i64 (s.size : Int)] w' fun e w'' => (∃ v, e = .returned v ∧ NewB w'.heap.size w'' v (numB s.size)) ∧ Below w'.heap.size w' w'') := Lib.hid fun w' => rnumber_any s.size (by omega)
    rw [hr]
    clear hr hi hz0 hz1 hz2
    generalize numB s.size = nb at *
    go_enter Tryd.func43, Tryd.ntmps43
    go_wp2_with fail
    refine (KN.out _).mono ?_
    rintro e w1 ⟨⟨v, rfl, hv⟩, hb⟩
    obtain ⟨A, c, rfl, -, -⟩ := Own.rd (row_own hv)
    have HV := Lib.hid hv
    have HB := Lib.hid hb
    have hbz := hb.size
    clear hv hb
    go_wp2_with (at_builtin; refine Lib.wpList_append_own_string _ rfl (.tmp 9) (.tmp 10) 30 9 rfl w.heap.size 5 i0 Tryd.underlying30 und9 HI.out.1 HI.out.2.1 HI.out.2.2.1 HI.out.2.2.2 (.slice A nb.length c) nb.length (bcs nb) rfl HV.out s rfl (by simp only [maxLen]; omega) (by omega) (by omega) ?_; intro v6 w6 ho6 hg6 _; have hb6 := NewB.grown HV.out HB.out hbz hg6; have ho7 : NewB w.heap.size w6 v6 (nb ++ s.data.toList) := (by unfold NewB; rw [List.length_append, bcs_append, sizeB]; exact ho6); have HO6 := Lib.hid ho7; have HB6 := Lib.hid hb6; clear ho6 hg6 hb6 ho7)
    go_ret2
    exact ⟨HB6.out, _, rfl, HO6.out⟩

theorem NewB.push {b : Nat} {w : World} {v : Value} {p q : List UInt8} (h : w.ownsRow b 5 1 v (p.length + q.length) (bcs p ++ bcs q)) : NewB b w v (p ++ q) := by
  unfold NewB
  rw [List.length_append, bcs_append]
  exact h
set_option maxRecDepth 100000 in
set_option maxHeartbeats 2000000 in
theorem rlist_any {w : World} (A : Option Addr) (n c : Nat) (l : List ByteArray) (hr : RdS w A n c l) :
    Calls Tryd.prog 45 #[.slice A n c] w (RefB w (listE l)) := by
  have HR := Lib.hid hr
  have hn := hr.le
  have hln := hr.1
  clear hr
  by_cases hs : 4096 < n
  · have h1 : decide (4096 < n) = true := decide_eq_true hs
    have h2 : decide ((4096 : Int) < (n : Int)) = true := decide_eq_true (by omega)
    have hr : listE l = .error 2 := by unfold listE; rw [if_neg (by omega)]
    rw [hr]
    clear hr
    go_enter Tryd.func45, Tryd.ntmps45
    go_wp2_with fail
    go_ret2
    exact ⟨Below.refl _ _, rfl⟩
  have h1 : decide (4096 < n) = false := decide_eq_false hs
  have h2 : decide ((4096 : Int) < (n : Int)) = false := decide_eq_false (by omega)
  have hs2 : l.length ≤ 4096 := by omega
  obtain ⟨i0, hi, hz0, hz1, hz2⟩ := info_parts info_B
  have HI := Lib.hid (And.intro hi (And.intro hz0 (And.intro hz1 hz2)))
  have hlen : (numB n).length ≤ 5 := numB_len (by omega) (by simp; omega)
  have KN : Hid (∀ w', Calls Tryd.prog 28 #[.int .i64 (n : Int)] w' fun e w'' => (∃ v, e = .returned v ∧ NewB w'.heap.size w'' v (numB n)) ∧ Below w'.heap.size w' w'') := Lib.hid fun w' => rnumber_any n (by omega)
  obtain ⟨nb, hnb⟩ : ∃ nb, nb = numB n := ⟨_, rfl⟩
  rw [← hnb] at hlen KN
  have HNB := Lib.hid hnb
  clear hi hz0 hz1 hz2 hnb
  go_enter Tryd.func45, Tryd.ntmps45
  go_wp2_with fail
  refine (KN.out _).mono ?_
  rintro e w1 ⟨⟨v, rfl, hv⟩, hb⟩
  have HV := Lib.hid hv
  have HB := Lib.hid hb
  clear hv hb
  go_wp2_with fail
  go_loopw [4, 5] (fun v i wr => ∃ (k : Nat) (d : List UInt8), k ≤ n ∧ i = .int .i64 k ∧ seqE textE (l.take k) = .ok d ∧ NewB w.heap.size wr v (nb ++ d) ∧ Below w.heap.size w wr) (fun _ i _ => n - (intOf i).toNat)
  case atStart => exact ⟨0, [], Nat.zero_le _, rfl, rfl, by rw [List.append_nil]; exact HV.out, HB.out⟩
  case round =>
    clear HV HB
    obtain ⟨k, d, hk, rfl, hd, hO, hB⟩ := hrel
    obtain ⟨A4, c4, hv4, -, -⟩ := Own.rd (row_own hO)
    rw [List.length_append] at hv4
    subst hv4
    have HO := Lib.hid hO
    have HB := Lib.hid hB
    have HD := Lib.hid hd
    have hwz := hB.size
    have hdl := seqE_len textE_len hd
    rw [List.length_take] at hdl
    have hdl2 : min k l.length * 65541 ≤ 4096 * 65541 := Nat.mul_le_mul_right _ (by omega)
    by_cases hlt : k < n
    · obtain ⟨b, of, rfl, hbl, hc⟩ := (HR.out.new HB.out).at_ hlt
      have hkl : k < l.length := by omega
      have hx : l[k]? = some l[k] := List.getElem?_eq_getElem hkl
      have htk : l.take (k + 1) = l.take k ++ [l[k]] := List.take_succ_eq_append_getElem hkl
      have hsp : l = l.take k ++ l[k] :: l.drop (k + 1) := by rw [List.getElem_cons_drop]; exact (List.take_append_drop k l).symm
      generalize l[k] = x at hc hx htk hsp
      have HT := Lib.hid htk
      have HS := Lib.hid hsp
      clear hO hB hd htk hsp hx
      cases hx3 : textE x with
      | error y =>
        have hy : y = 2 := by
          unfold textE at hx3
          split at hx3 <;> cases hx3
          rfl
        subst hy
        have KT : Hid (∀ w', Calls Tryd.prog 43 #[.string x] w' fun e w'' => Below w'.heap.size w' w'' ∧ e = .returned (.tuple #[.slice none 0 0, .int .i64 2])) := Lib.hid fun w' => (rtext_any x).mono fun e w'' h => h.err hx3
        have hle : listE l = .error 2 := by
          rw [listE, if_pos hs2, HS.out, seqE_stop HD.out hx3]
        have HLE := Lib.hid hle
        clear hle hx3
        go_wp2_with fail
        refine (KT.out _).mono ?_
        rintro e w3 ⟨hb3, rfl⟩
        have HB3 := Lib.hid (HB.out.trans (hb3.mono hwz))
        clear hb3
        go_wp2_with fail
        go_ret2
        rw [HLE.out]
        exact ⟨HB3.out, rfl⟩
      | ok cs =>
        have hcl := textE_len _ _ hx3
        have hcn : cs ≠ [] := by
          unfold textE at hx3
          split at hx3 <;> cases hx3
          intro h0
          exact numB_ne _ (List.append_eq_nil_iff.1 h0).1
        have KT : Hid (∀ w', Calls Tryd.prog 43 #[.string x] w' fun e w'' => Below w'.heap.size w' w'' ∧ ∃ v, e = .returned (.tuple #[v, .int .i64 0]) ∧ NewB w'.heap.size w'' v cs) := Lib.hid fun w' => (rtext_any x).mono fun e w'' h => h.ok hx3
        have HD3 := Lib.hid (show seqE textE (l.take (k + 1)) = .ok (d ++ cs) by rw [HT.out]; exact seqE_snoc_ok HD.out hx3)
        have HCN := Lib.hid hcn
        clear hx3 hcn
        go_wp2_with fail
        refine (KT.out _).mono ?_
        rintro e w3 ⟨hb3, v3, rfl, hv3⟩
        obtain ⟨g3, c3, rfl, hg3, hl3, hc3⟩ := hv3.some_ HCN.out
        have HO3 := Lib.hid (HO.out.new hb3)
        have HB3 := Lib.hid (HB.out.trans (hb3.mono hwz))
        have HC3 := Lib.hid hc3
        have hwz3 := HB3.out.size
        clear hb3 hv3 hc3 HO HB hc
        go_wp2_with (at_builtin; refine wpList_append_own _ rfl (.tmp 31) (.tmp 32) 30 rfl w.heap.size 5 i0 _ 1 1 Tryd.underlying30 HI.out.1 HI.out.2.1 HI.out.2.2.1 HI.out.2.2.2 rfl (by decide) (.slice A4 (nb.length + d.length) c4) (nb.length + d.length) (bcs (nb ++ d)) rfl (by have h9 := HO3.out; unfold NewB at h9; rw [List.length_append] at h9; exact h9) ⟨g3, 0, none⟩ cs.length c3 (bcs cs) rfl (by rw [bcs_length, Nat.mul_one]) (by exact HC3.out) (bcs_oneCell _) (by simp only [maxLen]; omega) (by omega) (by omega) ?_; intro v6 w6 ho6 hg6 _; have hb6 := NewB.grown HO3.out HB3.out hwz3 hg6; have ho7 : NewB w.heap.size w6 v6 (nb ++ (d ++ cs)) := (by rw [← List.append_assoc]; exact NewB.push (by rw [List.length_append]; exact ho6)); have HO6 := Lib.hid ho7; have HB6 := Lib.hid hb6; clear ho6 hg6 hb6 ho7)
        go_roundw
        case rel => exact ⟨k + 1, d ++ cs, by omega, by go_num, HD3.out, HO6.out, HB6.out⟩
        case measure => simp [intOf]; omega
    · have hle : listE l = .ok (nb ++ d) := by
        rw [List.take_of_length_le (by omega)] at hd
        rw [listE, if_pos hs2, hd, HNB.out, hln]
      have HL := Lib.hid hle
      clear hO hB hd hle
      go_wp2_with fail
      go_ret2
      rw [HL.out]
      exact ⟨HB.out, _, rfl, HO.out⟩

/-- may it be a const? -/
def okB (v : ValD) : Bool :=
  if v.k = 0 then (v.n == 0) && v.s.toList.isEmpty else if v.k = 1 then ((v.n == 0) || (v.n == 1)) && v.s.toList.isEmpty
  else if v.k = 2 then v.s.toList.isEmpty else if v.k = 3 then v.n == 0 else false
def BoolIs (b : Bool) (w : World) (e : Ending) (w' : World) : Prop := e = .returned (.bool b) ∧ Below w.heap.size w w'
set_option maxRecDepth 100000 in
set_option maxHeartbeats 2000000 in
theorem rconst_any {w : World} (k n : Int) (s : ByteArray) : Calls Tryd.prog 54 #[.agg #[.int .i64 k, .int .i64 n, .string s]] w (BoolIs (okB ⟨k, n, s⟩) w) := by
  by_cases h0 : k = 0
  · subst h0
    by_cases hn : n = 0
    · subst hn
      cases he : s.toList.isEmpty
      all_goals
        have ho : okB ⟨0, 0, s⟩ = s.toList.isEmpty := by simp [okB]
        rw [ho, he]
        clear ho
        go_enter Tryd.func54, Tryd.ntmps54
        go_wp2_with fail
        go_ret
        exact ⟨rfl, (by repeat (first | exact Below.refl _ _ | assumption | refine Below.setCell ?_ (by first | (simp; done) | (simp; omega) | omega) _ | refine below_drewN ?_ _ | refine Below.drew ?_ | refine Below.alloc ?_ (by first | (simp; done) | (simp; omega) | omega) _))⟩
    · have ho : okB ⟨0, n, s⟩ = false := by simp [okB, hn]
      rw [ho]
      clear ho
      have n1 : (n == 0) = false := by simpa using hn
      go_enter Tryd.func54, Tryd.ntmps54
      go_wp2_with fail
      go_ret
      exact ⟨rfl, (by repeat (first | exact Below.refl _ _ | assumption | refine Below.setCell ?_ (by first | (simp; done) | (simp; omega) | omega) _ | refine below_drewN ?_ _ | refine Below.drew ?_ | refine Below.alloc ?_ (by first | (simp; done) | (simp; omega) | omega) _))⟩
  have k0 : (k == 0) = false := by simpa using h0
  by_cases h1 : k = 1
  · subst h1
    clear k0 h0
    rcases (show n = 0 ∨ n = 1 ∨ (n ≠ 0 ∧ n ≠ 1) by omega) with rfl | rfl | ⟨hn, hm⟩
    · cases he : s.toList.isEmpty
      all_goals
        have ho : okB ⟨1, 0, s⟩ = s.toList.isEmpty := by simp [okB]
        rw [ho, he]
        clear ho
        go_enter Tryd.func54, Tryd.ntmps54
        go_wp2_with fail
        go_ret
        exact ⟨rfl, (by repeat (first | exact Below.refl _ _ | assumption | refine Below.setCell ?_ (by first | (simp; done) | (simp; omega) | omega) _ | refine below_drewN ?_ _ | refine Below.drew ?_ | refine Below.alloc ?_ (by first | (simp; done) | (simp; omega) | omega) _))⟩
    · cases he : s.toList.isEmpty
      all_goals
        have ho : okB ⟨1, 1, s⟩ = s.toList.isEmpty := by simp [okB]
        rw [ho, he]
        clear ho
        go_enter Tryd.func54, Tryd.ntmps54
        go_wp2_with fail
        go_ret
        exact ⟨rfl, (by repeat (first | exact Below.refl _ _ | assumption | refine Below.setCell ?_ (by first | (simp; done) | (simp; omega) | omega) _ | refine below_drewN ?_ _ | refine Below.drew ?_ | refine Below.alloc ?_ (by first | (simp; done) | (simp; omega) | omega) _))⟩
    · have ho : okB ⟨1, n, s⟩ = false := by simp [okB, hn, hm]
      rw [ho]
      clear ho
      have n1 : (n == 0) = false := by simpa using hn
      have n2 : (n == 1) = false := by simpa using hm
      go_enter Tryd.func54, Tryd.ntmps54
      go_wp2_with fail
      go_ret
      exact ⟨rfl, (by repeat (first | exact Below.refl _ _ | assumption | refine Below.setCell ?_ (by first | (simp; done) | (simp; omega) | omega) _ | refine below_drewN ?_ _ | refine Below.drew ?_ | refine Below.alloc ?_ (by first | (simp; done) | (simp; omega) | omega) _))⟩
  have k1 : (k == 1) = false := by simpa using h1
  by_cases h2 : k = 2
  · subst h2
    clear k0 h0 k1 h1
    cases he : s.toList.isEmpty
    all_goals
      have ho : okB ⟨2, n, s⟩ = s.toList.isEmpty := by simp [okB]
      rw [ho, he]
      clear ho
      go_enter Tryd.func54, Tryd.ntmps54
      go_wp2_with fail
      go_ret
      exact ⟨rfl, (by repeat (first | exact Below.refl _ _ | assumption | refine Below.setCell ?_ (by first | (simp; done) | (simp; omega) | omega) _ | refine below_drewN ?_ _ | refine Below.drew ?_ | refine Below.alloc ?_ (by first | (simp; done) | (simp; omega) | omega) _))⟩
  have k2 : (k == 2) = false := by simpa using h2
  by_cases h3 : k = 3
  · subst h3
    clear k0 h0 k1 h1 k2 h2
    by_cases hn : n = 0
    · subst hn
      have ho : okB ⟨3, 0, s⟩ = true := by simp [okB]
      rw [ho]
      clear ho
      go_enter Tryd.func54, Tryd.ntmps54
      go_wp2_with fail
      go_ret
      exact ⟨rfl, (by repeat (first | exact Below.refl _ _ | assumption | refine Below.setCell ?_ (by first | (simp; done) | (simp; omega) | omega) _ | refine below_drewN ?_ _ | refine Below.drew ?_ | refine Below.alloc ?_ (by first | (simp; done) | (simp; omega) | omega) _))⟩
    · have ho : okB ⟨3, n, s⟩ = false := by simp [okB, hn]
      rw [ho]
      clear ho
      have n1 : (n == 0) = false := by simpa using hn
      go_enter Tryd.func54, Tryd.ntmps54
      go_wp2_with fail
      go_ret
      exact ⟨rfl, (by repeat (first | exact Below.refl _ _ | assumption | refine Below.setCell ?_ (by first | (simp; done) | (simp; omega) | omega) _ | refine below_drewN ?_ _ | refine Below.drew ?_ | refine Below.alloc ?_ (by first | (simp; done) | (simp; omega) | omega) _))⟩
  have k3 : (k == 3) = false := by simpa using h3
  have ho : okB ⟨k, n, s⟩ = false := by simp [okB, h0, h1, h2, h3]
  rw [ho]
  clear ho
  go_enter Tryd.func54, Tryd.ntmps54
  go_wp2_with fail
  go_ret
  exact ⟨rfl, (by repeat (first | exact Below.refl _ _ | assumption | refine Below.setCell ?_ (by first | (simp; done) | (simp; omega) | omega) _ | refine below_drewN ?_ _ | refine Below.drew ?_ | refine Below.alloc ?_ (by first | (simp; done) | (simp; omega) | omega) _))⟩

theorem newB_lit {b : Nat} {w : World} {cells : Array Value} {bs : List UInt8} {n : Nat} (hc : cells.toList = bcs bs) (hn : n = bs.length) (hb : b ≤ w.heap.size) (hl : bs.length ≤ maxLen) : NewB b (w.alloc (.cells cells 5)) (.slice (some ⟨w.heap.size, 0, none⟩) n n) bs := by
  subst hn
  have hz : cells.size = bs.length := by rw [← Array.length_toList, hc, bcs_length]
  exact ⟨by rw [bcs_length, Nat.mul_one], .inr ⟨w.heap.size, bs.length, cells, rfl, hb, heap_alloc_new w _, Nat.le_refl _, hl, by rw [hz, Nat.mul_one], by rw [hc, Nat.mul_one, ← bcs_length bs, List.take_length]⟩⟩
theorem int8_step (n : Int) : ∀ (k : Nat), k < 8 → ∃ y : UInt8, (int8 n).take (k + 1) = (int8 n).take k ++ [y] ∧ (y.toNat : Int) = (n % 18446744073709551616) / ((72057594037927936 / 256 ^ k : Nat) : Int) % 256
  | 0, _ => ⟨_, rfl, by rw [byteI_toNat]; omega⟩
  | 1, _ => ⟨_, rfl, by rw [byteI_toNat]; omega⟩
  | 2, _ => ⟨_, rfl, by rw [byteI_toNat]; omega⟩
  | 3, _ => ⟨_, rfl, by rw [byteI_toNat]; omega⟩
  | 4, _ => ⟨_, rfl, by rw [byteI_toNat]; omega⟩
  | 5, _ => ⟨_, rfl, by rw [byteI_toNat]; omega⟩
  | 6, _ => ⟨_, rfl, by rw [byteI_toNat]; omega⟩
  | 7, _ => ⟨_, rfl, by rw [byteI_toNat]; omega⟩
  | k + 8, h => by omega
theorem by_step : ∀ (k : Nat), k < 8 → 0 < 72057594037927936 / 256 ^ k ∧ 72057594037927936 / 256 ^ k ≤ 72057594037927936
  | 0, _ => by decide
  | 1, _ => by decide
  | 2, _ => by decide
  | 3, _ => by decide
  | 4, _ => by decide
  | 5, _ => by decide
  | 6, _ => by decide
  | 7, _ => by decide
  | k + 8, h => by omega
theorem int8_len (n : Int) : (int8 n).length = 8 := rfl
set_option maxRecDepth 100000 in
set_option maxHeartbeats 2000000 in
theorem rcon_int {w : World} (n : Int) (s : ByteArray) (he : s.toList.isEmpty = true) :
    Calls Tryd.prog 46 #[.agg #[.int .i64 2, .int .i64 n, .string s]] w (RefB w (.ok (2 :: int8 n))) := by
  have KC : Hid (∀ w, Calls Tryd.prog 54 #[.agg #[.int .i64 2, .int .i64 n, .string s]] w (BoolIs true w)) := Lib.hid fun w => by
    have h := rconst_any (w := w) 2 n s
    rwa [show okB ⟨2, n, s⟩ = true by simp [okB, he]] at h
  obtain ⟨i0, hi, hz0, hz1, hz2⟩ := info_parts info_B
  have HI := Lib.hid (And.intro hi (And.intro hz0 (And.intro hz1 hz2)))
  clear hi hz0 hz1 hz2 he
  have HB0 := Lib.hid (Blk.new w 77 #[.int .i64 2, .int .i64 n, .string s])
  have HW0 : Hid (Below w.heap.size w (w.alloc (.cells #[.int .i64 2, .int .i64 n, .string s] 77))) := Lib.hid (by repeat (first | exact Below.refl _ _ | assumption | refine Below.setCell ?_ (by first | (simp; done) | (simp; omega) | omega) _ | refine below_drewN ?_ _ | refine Below.drew ?_ | refine Below.alloc ?_ (by first | (simp; done) | (simp; omega) | omega) _))
  go_enter Tryd.func46, Tryd.ntmps46
  go_wp2_with fail
  have hz0 : (w.alloc (.cells #[.int .i64 2, .int .i64 n, .string s] 77)).heap.size = w.heap.size + 1 := by simp
  generalize w.alloc (.cells #[.int .i64 2, .int .i64 n, .string s] 77) = W1 at *
  have HSZ : Hid (w.heap.size < W1.heap.size) := Lib.hid (by omega)
  clear hz0
  refine (KC.out _).mono ?_
  rintro e w1 ⟨rfl, hb1⟩
  have HB1 := Lib.hid (HB0.out.new' hb1)
  have HW1 := Lib.hid (HW0.out.trans (hb1.mono (Nat.le_of_lt HSZ.out)))
  have hz1 : w.heap.size < w1.heap.size := HB1.out.lt
  clear hb1 HB0 HW0 HSZ
  have q0 := HB1.out.cell 0
  simp only [List.getElem?_toArray, List.getElem?_cons_zero, List.getElem?_cons_succ] at q0
  go_wp2_with fail
  go_loopw [4, 5, 6] (fun v by_ i wr => ∃ k : Nat, k ≤ 8 ∧ i = .int .i64 k ∧ by_ = .int .u64 ((72057594037927936 / 256 ^ k : Nat) : Int) ∧ NewB w.heap.size wr v (2 :: (int8 n).take k) ∧ Below w.heap.size w wr ∧ Blk wr w.heap.size 77 #[.int .i64 2, .int .i64 n, .string s]) (fun _ _ i _ => 8 - (intOf i).toNat)
  case atStart => exact ⟨0, by omega, rfl, rfl, newB_lit rfl rfl (Nat.le_of_lt hz1) (by simp [maxLen]), HW1.out.alloc (by have := HW1.out.size; omega) _, HB1.out.alloc _⟩
  case round =>
    obtain ⟨k, hk, rfl, rfl, hO, hB, hX⟩ := hrel
    have HX := Lib.hid hX
    obtain ⟨A, c, hv, -, -⟩ := Own.rd (row_own hO)
    rw [List.length_cons, List.length_take, int8_len, Nat.min_eq_left hk] at hv
    subst hv
    have HO := Lib.hid hO
    have HB := Lib.hid hB
    have hbz := hB.size
    have hxl := hX.lt
    have q1 := hX.cell 1
    simp only [List.getElem?_toArray, List.getElem?_cons_zero, List.getElem?_cons_succ] at q1
    clear hO hB hX
    by_cases hlt : k < 8
    · obtain ⟨y, hy1, hy2⟩ := int8_step n k hlt
      obtain ⟨hp1, hp2⟩ := by_step k hlt
      have HY := Lib.hid hy1
      have hm : IntKind.u64.wrap n = ((n % 18446744073709551616).toNat : Int) := by rw [Int.toNat_of_nonneg (by omega)]; rfl
      have hm2 : (n % 18446744073709551616).toNat ≤ 18446744073709551615 := by omega
      have hy3 : (y.toNat : Int) = ((n % 18446744073709551616).toNat : Int) / ((72057594037927936 / 256 ^ k : Nat) : Int) % 256 := by rw [Int.toNat_of_nonneg (by omega)]; exact hy2
      have HY2 := Lib.hid hy3
      clear hy1 hy2 hy3
      generalize (n % 18446744073709551616).toNat = m at *
      have hq : 72057594037927936 / 256 ^ (k + 1) = 72057594037927936 / 256 ^ k / 256 := by rw [Nat.pow_succ, Nat.div_div_eq_div_mul]
      have HQ := Lib.hid hq
      clear hq
      generalize 72057594037927936 / 256 ^ k = q at *
      have hmq : m / q ≤ 18446744073709551615 := Nat.le_trans (Nat.div_le_self _ _) hm2
      have hmq2 : (m : Int) / (q : Int) ≤ 18446744073709551615 := by rw [← Int.natCast_ediv]; exact Int.ofNat_le.2 hmq
      have hmq3 : 0 ≤ (m : Int) / (q : Int) := Int.ediv_nonneg (by omega) (by omega)
      have ho1 := one_at wr y
      rw [HY2.out] at ho1
      have HO1 := Lib.hid ho1
      have hr0 := HO.out
      unfold NewB at hr0
      rw [List.length_cons, List.length_take, int8_len, Nat.min_eq_left hk] at hr0
      have HR := Lib.hid hr0
      clear ho1 hr0
      go_wp2_with (at_builtin; refine wpList_append_own _ rfl (.tmp 28) (.tmp 36) 30 rfl w.heap.size 5 i0 _ 1 1 Tryd.underlying30 HI.out.1 HI.out.2.1 HI.out.2.2.1 HI.out.2.2.2 rfl (by decide) (.slice A (k + 1) c) (k + 1) (bcs (2 :: (int8 n).take k)) rfl (by exact row_new HR.out (by repeat (first | exact Below.refl _ _ | assumption | refine Below.setCell ?_ (by first | (simp; done) | (simp; omega) | omega) _ | refine below_drewN ?_ _ | refine Below.drew ?_ | refine Below.alloc ?_ (by first | (simp; done) | (simp; omega) | omega) _))) ⟨wr.heap.size, 0, none⟩ 1 1 (bcs [y]) rfl rfl (by exact HO1.out) (bcs_oneCell _) (by simp only [maxLen]; omega) (by omega) (by simp; omega) ?_; intro v6 w6 ho6 hg6 _; have hb6 := NewB.grown (HO.out.new (by repeat (first | exact Below.refl _ _ | assumption | refine Below.setCell ?_ (by first | (simp; done) | (simp; omega) | omega) _ | refine below_drewN ?_ _ | refine Below.drew ?_ | refine Below.alloc ?_ (by first | (simp; done) | (simp; omega) | omega) _))) (show Below w.heap.size w (wr.alloc _) from HB.out.alloc (by omega) _) (by simp; omega) hg6; have ho7 : NewB w.heap.size w6 v6 (2 :: (int8 n).take (k + 1)) := (by unfold NewB; rw [HY.out, ← List.cons_append, List.length_append, bcs_append, List.length_cons, List.length_take, int8_len, Nat.min_eq_left hk]; exact ho6); have hx6 : Blk w6 w.heap.size 77 #[.int .i64 2, .int .i64 n, .string s] := (HX.out.alloc _).grown hg6 (fun e => own_blk_ne (row_own HR.out) HX.out (by decide) e.symm); have HO6 := Lib.hid ho7; have HB6 := Lib.hid hb6; have HX6 := Lib.hid hx6; clear ho6 hg6 hb6 ho7 hx6)
      go_roundw
      case rel => exact ⟨k + 1, by omega, by go_num, by rw [HQ.out]; rfl, HO6.out, HB6.out, HX6.out⟩
      case measure => simp [intOf]; omega
    · obtain rfl : k = 8 := by omega
      go_wp2_with fail
      go_ret2
      exact ⟨HB.out, _, rfl, HO.out⟩
set_option maxRecDepth 100000 in
set_option maxHeartbeats 2000000 in
theorem rcon_no {w : World} (k n : Int) (s : ByteArray) (ho : okB ⟨k, n, s⟩ = false) :
    Calls Tryd.prog 46 #[.agg #[.int .i64 k, .int .i64 n, .string s]] w (RefB w (.error 1)) := by
  have KC : Hid (∀ w, Calls Tryd.prog 54 #[.agg #[.int .i64 k, .int .i64 n, .string s]] w (BoolIs false w)) := Lib.hid fun w => by
    have h := rconst_any (w := w) k n s
    rwa [ho] at h
  have HW0 : Hid (Below w.heap.size w (w.alloc (.cells #[.int .i64 k, .int .i64 n, .string s] 77))) := Lib.hid (by repeat (first | exact Below.refl _ _ | assumption | refine Below.setCell ?_ (by first | (simp; done) | (simp; omega) | omega) _ | refine below_drewN ?_ _ | refine Below.drew ?_ | refine Below.alloc ?_ (by first | (simp; done) | (simp; omega) | omega) _))
  clear ho
  go_enter Tryd.func46, Tryd.ntmps46
  go_wp2_with fail
  refine (KC.out _).mono ?_
  rintro e w1 ⟨rfl, hb1⟩
  have HB1 := Lib.hid (HW0.out.trans (hb1.mono (by simp)))
  clear hb1
  go_wp2_with fail
  go_ret2
  exact ⟨HB1.out, rfl⟩
set_option maxRecDepth 100000 in
set_option maxHeartbeats 2000000 in
theorem rcon_none {w : World} (s : ByteArray) (he : s.toList.isEmpty = true) :
    Calls Tryd.prog 46 #[.agg #[.int .i64 0, .int .i64 0, .string s]] w (RefB w (.ok [0])) := by
  have KC : Hid (∀ w, Calls Tryd.prog 54 #[.agg #[.int .i64 0, .int .i64 0, .string s]] w (BoolIs true w)) := Lib.hid fun w => by
    have h := rconst_any (w := w) 0 0 s
    rwa [show okB ⟨0, 0, s⟩ = true by simp [okB, he]] at h
  have HB0 := Lib.hid (Blk.new w 77 #[.int .i64 0, .int .i64 0, .string s])
  have HW0 : Hid (Below w.heap.size w (w.alloc (.cells #[.int .i64 0, .int .i64 0, .string s] 77))) := Lib.hid (by repeat (first | exact Below.refl _ _ | assumption | refine Below.setCell ?_ (by first | (simp; done) | (simp; omega) | omega) _ | refine below_drewN ?_ _ | refine Below.drew ?_ | refine Below.alloc ?_ (by first | (simp; done) | (simp; omega) | omega) _))
  clear he
  go_enter Tryd.func46, Tryd.ntmps46
  go_wp2_with fail
  refine (KC.out _).mono ?_
  rintro e w1 ⟨rfl, hb1⟩
  have HB1 := Lib.hid (HB0.out.new' hb1)
  have HW1 := Lib.hid (HW0.out.trans (hb1.mono (by simp)))
  have hz1 : w.heap.size < w1.heap.size := HB1.out.lt
  have q0 := HB1.out.cell 0
  simp only [List.getElem?_toArray, List.getElem?_cons_zero, List.getElem?_cons_succ] at q0
  clear hb1 HB0 HW0
  go_wp2_with fail
  go_ret2
  exact ⟨HW1.out.alloc (by omega) _, _, rfl, newB_lit rfl rfl (Nat.le_of_lt hz1) (by simp [maxLen])⟩
set_option maxRecDepth 100000 in
set_option maxHeartbeats 2000000 in
theorem rcon_bool {w : World} (n : Int) (s : ByteArray) (hn : n = 0 ∨ n = 1) (he : s.toList.isEmpty = true) :
    Calls Tryd.prog 46 #[.agg #[.int .i64 1, .int .i64 n, .string s]] w (RefB w (.ok [1, byteI n])) := by
  have KC : Hid (∀ w, Calls Tryd.prog 54 #[.agg #[.int .i64 1, .int .i64 n, .string s]] w (BoolIs true w)) := Lib.hid fun w => by
    have h := rconst_any (w := w) 1 n s
    rwa [show okB ⟨1, n, s⟩ = true by rcases hn with rfl | rfl <;> simp [okB, he]] at h
  have HB0 := Lib.hid (Blk.new w 77 #[.int .i64 1, .int .i64 n, .string s])
  have HW0 : Hid (Below w.heap.size w (w.alloc (.cells #[.int .i64 1, .int .i64 n, .string s] 77))) := Lib.hid (by repeat (first | exact Below.refl _ _ | assumption | refine Below.setCell ?_ (by first | (simp; done) | (simp; omega) | omega) _ | refine below_drewN ?_ _ | refine Below.drew ?_ | refine Below.alloc ?_ (by first | (simp; done) | (simp; omega) | omega) _))
  clear he
  rcases hn with rfl | rfl
  all_goals
    go_enter Tryd.func46, Tryd.ntmps46
    go_wp2_with fail
    refine (KC.out _).mono ?_
    rintro e w1 ⟨rfl, hb1⟩
    have HB1 := Lib.hid (HB0.out.new' hb1)
    have HW1 := Lib.hid (HW0.out.trans (hb1.mono (by simp)))
    have hz1 : w.heap.size < w1.heap.size := HB1.out.lt
    have q0 := HB1.out.cell 0
    have q1 := HB1.out.cell 1
    simp only [List.getElem?_toArray, List.getElem?_cons_zero, List.getElem?_cons_succ] at q0 q1
    clear hb1 HB0 HW0
    go_wp2_with fail
    go_ret2
    exact ⟨HW1.out.alloc (by omega) _, _, rfl, newB_lit rfl rfl (Nat.le_of_lt hz1) (by simp [maxLen])⟩
set_option maxRecDepth 100000 in
set_option maxHeartbeats 2000000 in
theorem rcon_text {w : World} (s : ByteArray) :
    Calls Tryd.prog 46 #[.agg #[.int .i64 3, .int .i64 0, .string s]] w (RefB w (valE ⟨3, 0, s⟩)) := by
  have KC : Hid (∀ w, Calls Tryd.prog 54 #[.agg #[.int .i64 3, .int .i64 0, .string s]] w (BoolIs true w)) := Lib.hid fun w => by
    have h := rconst_any (w := w) 3 0 s
    rwa [show okB ⟨3, 0, s⟩ = true by simp [okB]] at h
  obtain ⟨i0, hi, hz0, hz1, hz2⟩ := info_parts info_B
  have HI := Lib.hid (And.intro hi (And.intro hz0 (And.intro hz1 hz2)))
  clear hi hz0 hz1 hz2
  have HB0 := Lib.hid (Blk.new w 77 #[.int .i64 3, .int .i64 0, .string s])
  have HW0 : Hid (Below w.heap.size w (w.alloc (.cells #[.int .i64 3, .int .i64 0, .string s] 77))) := Lib.hid (by repeat (first | exact Below.refl _ _ | assumption | refine Below.setCell ?_ (by first | (simp; done) | (simp; omega) | omega) _ | refine below_drewN ?_ _ | refine Below.drew ?_ | refine Below.alloc ?_ (by first | (simp; done) | (simp; omega) | omega) _))
  cases hx : textE s with
  | error y =>
    have hv : valE ⟨3, 0, s⟩ = .error y := by simp [valE, hx]
    have hy : y = 2 := by
      unfold textE at hx
      split at hx <;> cases hx
      rfl
    subst hy
    rw [hv]
    have KT : Hid (∀ w', Calls Tryd.prog 43 #[.string s] w' fun e w'' => Below w'.heap.size w' w'' ∧ e = .returned (.tuple #[.slice none 0 0, .int .i64 2])) := Lib.hid fun w' => (rtext_any s).mono fun e w'' h => h.err hx
    clear hv hx
    go_enter Tryd.func46, Tryd.ntmps46
    go_wp2_with fail
    refine (KC.out _).mono ?_
    rintro e w1 ⟨rfl, hb1⟩
    have HB1 := Lib.hid (HB0.out.new' hb1)
    have HW1 := Lib.hid (HW0.out.trans (hb1.mono (by simp)))
    have hz1 : w.heap.size < w1.heap.size := HB1.out.lt
    have q0 := HB1.out.cell 0
    have q2 := HB1.out.cell 2
    simp only [List.getElem?_toArray, List.getElem?_cons_zero, List.getElem?_cons_succ] at q0 q2
    clear hb1 HB0 HW0
    go_wp2_with fail
    refine (KT.out _).mono ?_
    rintro e w3 ⟨hb3, rfl⟩
    have HB3 := Lib.hid (HW1.out.trans (hb3.mono (Nat.le_of_lt hz1)))
    clear hb3
    go_wp2_with fail
    go_ret2
    exact ⟨HB3.out, rfl⟩
  | ok cs =>
    have hv : valE ⟨3, 0, s⟩ = .ok (3 :: cs) := by simp [valE, hx]
    rw [hv]
    have hcl := textE_len _ _ hx
    have hcn : cs ≠ [] := by
      unfold textE at hx
      split at hx <;> cases hx
      intro h0
      exact numB_ne _ (List.append_eq_nil_iff.1 h0).1
    have HCN := Lib.hid hcn
    have KT : Hid (∀ w', Calls Tryd.prog 43 #[.string s] w' fun e w'' => Below w'.heap.size w' w'' ∧ ∃ v, e = .returned (.tuple #[v, .int .i64 0]) ∧ NewB w'.heap.size w'' v cs) := Lib.hid fun w' => (rtext_any s).mono fun e w'' h => h.ok hx
    clear hv hx hcn
    go_enter Tryd.func46, Tryd.ntmps46
    go_wp2_with fail
    refine (KC.out _).mono ?_
    rintro e w1 ⟨rfl, hb1⟩
    have HB1 := Lib.hid (HB0.out.new' hb1)
    have HW1 := Lib.hid (HW0.out.trans (hb1.mono (by simp)))
    have hz1 : w.heap.size < w1.heap.size := HB1.out.lt
    have q0 := HB1.out.cell 0
    have q2 := HB1.out.cell 2
    simp only [List.getElem?_toArray, List.getElem?_cons_zero, List.getElem?_cons_succ] at q0 q2
    clear hb1 HB0 HW0
    go_wp2_with fail
    refine (KT.out _).mono ?_
    rintro e w3 ⟨hb3, v3, rfl, hv3⟩
    obtain ⟨g3, c3, rfl, hg3, hl3, hc3⟩ := hv3.some_ HCN.out
    have HB3 := Lib.hid (HW1.out.trans (hb3.mono (Nat.le_of_lt hz1)))
    have hwz := HB3.out.size
    have HC3 : Hid (∀ j u, (bcs cs)[j]? = some u → (w3.alloc (.cells #[.int .u8 3] 5)).cell? ((⟨g3, 0, none⟩ : Addr).add j) = some u) := Lib.hid fun j u hu => by
      have h9 := hc3 j u hu
      have ha : ((⟨g3, 0, none⟩ : Addr).add j) = ⟨g3, j, none⟩ := by unfold Addr.add; split <;> simp_all
      rw [ha] at h9 ⊢
      exact (((by repeat (first | exact Below.refl _ _ | assumption | refine Below.setCell ?_ (by first | (simp; done) | (simp; omega) | omega) _ | refine below_drewN ?_ _ | refine Below.drew ?_ | refine Below.alloc ?_ (by first | (simp; done) | (simp; omega) | omega) _)) : Below w3.heap.size w3 (w3.alloc (.cells #[.int .u8 3] 5))).cell (p := ⟨g3, j, none⟩) hl3).trans h9
    have HN3 : Hid (NewB w.heap.size (w3.alloc (.cells #[.int .u8 3] 5)) (.slice (some ⟨w3.heap.size, 0, none⟩) 1 1) [3]) := Lib.hid (newB_lit rfl rfl hwz (by simp [maxLen]))
    clear hb3 hv3 hc3
    go_wp2_with (at_builtin; refine wpList_append_own _ rfl (.tmp 53) (.tmp 54) 30 rfl w.heap.size 5 i0 _ 1 1 Tryd.underlying30 HI.out.1 HI.out.2.1 HI.out.2.2.1 HI.out.2.2.2 rfl (by decide) (.slice (some ⟨w3.heap.size, 0, none⟩) 1 1) 1 (bcs [3]) rfl (by exact HN3.out) ⟨g3, 0, none⟩ cs.length c3 (bcs cs) rfl (by rw [bcs_length, Nat.mul_one]) (by exact HC3.out) (bcs_oneCell _) (by simp only [maxLen]; omega) (by omega) (by simp; omega) ?_; intro v6 w6 ho6 hg6 _; have hb6 := NewB.grown HN3.out (show Below w.heap.size w (w3.alloc _) from HB3.out.alloc hwz _) (by simp; omega) hg6; have ho7 : NewB w.heap.size w6 v6 (3 :: cs) := (by unfold NewB; rw [← List.singleton_append, List.length_append, bcs_append]; exact ho6); have HO6 := Lib.hid ho7; have HB6 := Lib.hid hb6; clear ho6 hg6 hb6 ho7)
    go_ret2
    exact ⟨HB6.out, _, rfl, HO6.out⟩
theorem okB_val {k n : Int} {s : ByteArray} (h : okB ⟨k, n, s⟩ = false) : valE ⟨k, n, s⟩ = .error 1 := by
  unfold okB at h
  unfold valE
  by_cases h0 : k = 0
  · simp only [h0, if_true] at h ⊢
    rw [if_neg (by rintro ⟨h1, h2⟩; simp [h1, h2] at h)]
  · by_cases h1 : k = 1
    · simp only [h1] at h ⊢
      simp only [show ¬ (1 : Int) = 0 by decide, if_false, if_true] at h ⊢
      rw [if_neg (by rintro ⟨h1, h2 | h2⟩ <;> simp [h1, h2] at h)]
    · by_cases h2 : k = 2
      · simp only [h2] at h ⊢
        simp only [show ¬ (2 : Int) = 0 by decide, show ¬ (2 : Int) = 1 by decide, if_false, if_true] at h ⊢
        rw [if_neg (by intro h1; simp [h1] at h)]
      · by_cases h3 : k = 3
        · simp only [h3] at h ⊢
          simp only [show ¬ (3 : Int) = 0 by decide, show ¬ (3 : Int) = 1 by decide, show ¬ (3 : Int) = 2 by decide, if_false, if_true] at h ⊢
          rw [if_neg (by intro h1; simp [h1] at h)]
        · simp only [if_neg h0, if_neg h1, if_neg h2, if_neg h3]
theorem rcon_any {w : World} (v : ValD) :
    Calls Tryd.prog 46 #[.agg #[.int .i64 v.k, .int .i64 v.n, .string v.s]] w (RefB w (valE v)) := by
  obtain ⟨k, n, s⟩ := v
  cases ho : okB ⟨k, n, s⟩ with
  | false => rw [okB_val ho]; exact rcon_no k n s ho
  | true =>
    have ho' := ho
    unfold okB at ho'
    by_cases h0 : k = 0
    · subst h0
      simp only [if_true, Bool.and_eq_true, beq_iff_eq] at ho'
      obtain ⟨rfl, he⟩ := ho'
      rw [show valE ⟨0, 0, s⟩ = .ok [0] by simp [valE, he]]
      exact rcon_none s he
    · by_cases h1 : k = 1
      · subst h1
        simp only [show ¬ (1 : Int) = 0 by decide, if_false, if_true, Bool.and_eq_true, Bool.or_eq_true, beq_iff_eq] at ho'
        rw [show valE ⟨1, n, s⟩ = .ok [1, byteI n] by simp [valE, ho'.1, ho'.2]]
        exact rcon_bool n s ho'.1 ho'.2
      · by_cases h2 : k = 2
        · subst h2
          simp only [show ¬ (2 : Int) = 0 by decide, show ¬ (2 : Int) = 1 by decide, if_false, if_true] at ho'
          rw [show valE ⟨2, n, s⟩ = .ok (2 :: int8 n) by simp [valE, ho']]
          exact rcon_int n s ho'
        · by_cases h3 : k = 3
          · subst h3
            simp only [show ¬ (3 : Int) = 0 by decide, show ¬ (3 : Int) = 1 by decide, show ¬ (3 : Int) = 2 by decide, if_false, if_true, beq_iff_eq] at ho'
            obtain rfl := ho'
            exact rcon_text s
          · simp only [if_neg h0, if_neg h1, if_neg h2, if_neg h3] at ho'
            cases ho'
end Go.Proofs.YtcfelfhjhkenaaaDoor
