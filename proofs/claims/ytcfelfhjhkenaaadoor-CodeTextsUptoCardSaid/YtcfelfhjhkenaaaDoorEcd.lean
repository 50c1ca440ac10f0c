/- Encode. -/
import Derived.Test.YtcfelfhjhkenaaaDoorFul
import Derived.Test.YtcfelfhjhkenaaaDoorPar
import Derived.Lib.SmallJoins
namespace Go.Proofs.YtcfelfhjhkenaaaDoor
open Go.RowKit
attribute [local go_sem] Oper.semAt_some

theorem flat_mem {m : Nat} : ∀ (l : List (List Value)) (i j : Nat) (x : List Value) (u : Value), (∀ y ∈ l, y.length = m) → l[i]? = some x → x[j]? = some u → (l.flatMap id)[i * m + j]? = some u
  | [], i, j, x, u, _, h, _ => by simp at h
  | y :: l, 0, j, x, u, hm, h, hu => by
    obtain rfl : y = x := by simpa using h
    have hj := (List.getElem?_eq_some_iff.1 hu).1
    rw [List.flatMap_cons, Nat.zero_mul, Nat.zero_add, id, List.getElem?_append_left hj]
    exact hu
  | y :: l, i + 1, j, x, u, hm, h, hu => by
    have hy := hm y (by simp)
    rw [List.flatMap_cons, id, List.getElem?_append_right (by rw [hy]; have := Nat.add_one_mul i m; omega), hy]
    have e : (i + 1) * m + j - m = i * m + j := by have := Nat.add_one_mul i m; omega
    rw [e]
    exact flat_mem l i j x u (fun z hz => hm z (by simp [hz])) (by simpa using h) hu
/-- a program, as the walks read it -/
def ProgAt (w : World) (A : Option Addr) (n c : Nat) (p : List CodeD) : Prop :=
  p.length = n ∧ ∃ css : List (List Value), css.length = n ∧ (∀ cs ∈ css, cs.length = 11) ∧ (∀ (i : Nat) (x : CodeD) (cs : List Value), p[i]? = some x → css[i]? = some cs → CodeAt w x cs) ∧ Rd w A n c 11 (css.flatMap id)
theorem ProgAt.new {w w' : World} {A : Option Addr} {n c : Nat} {p : List CodeD} (h : ProgAt w A n c p) (hb : Below w.heap.size w w') : ProgAt w' A n c p := by
  obtain ⟨h1, css, h2, h3, h4, h5⟩ := h
  exact ⟨h1, css, h2, h3, fun i x cs hx hc => (h4 i x cs hx hc).new hb, h5.new hb⟩
theorem ProgAt.at_ {w : World} {A : Option Addr} {n c : Nat} {p : List CodeD} (h : ProgAt w A n c p) {i : Nat} {x : CodeD} (hx : p[i]? = some x) :
    ∃ b o cs, A = some ⟨b, o, none⟩ ∧ b < w.heap.size ∧ CodeAt w x cs ∧ ∀ j u, cs[j]? = some u → w.cell? ⟨b, o + (i * 11 + j), none⟩ = some u := by
  obtain ⟨h1, css, h2, h3, h4, _, _, _, hc⟩ := h
  have hi : i < n := by have := (List.getElem?_eq_some_iff.1 hx).1; omega
  obtain ⟨b, o, rfl, hb, hc⟩ := hc (by omega)
  have hcs : css[i]? = some css[i] := List.getElem?_eq_getElem (by omega)
  exact ⟨b, o, css[i], rfl, hb, h4 i x _ hx hcs, fun j u hu => hc _ _ (flat_mem css i j _ u h3 hcs hu)⟩
theorem ProgAt.le {w : World} {A : Option Addr} {n c : Nat} {p : List CodeD} (h : ProgAt w A n c p) : n ≤ 9223372036854775807 := by
  obtain ⟨_, _, _, _, _, h5⟩ := h
  exact h5.le

theorem codeE_len (c : CodeD) (a : List UInt8) (h : codeE c = .ok a) : a.length ≤ 1900000000 := by
  rw [codeE_todo] at h
  unfold preE at h
  cases hR : (andE (textE c.name) (andE (numE c.kind) (andE (numE c.params) (andE (numE c.defaults) (andE (.ok [if c.gen then 1 else 0])
    (andE (seqE listE [c.locals, c.cells, c.free, c.names])
      (andE (countE c.consts.length 4096) (andE (seqE valE c.consts) (andE (countE c.ins.length 65536) (seqE insE c.ins)))))))))) with
  | error e => rw [hR] at h; cases h
  | ok z =>
    rw [hR] at h
    cases h
    obtain ⟨a1, z1, h1, hz1, rfl⟩ := andE_ok.1 hR
    obtain ⟨a2, z2, h2, hz2, rfl⟩ := andE_ok.1 hz1
    obtain ⟨a3, z3, h3, hz3, rfl⟩ := andE_ok.1 hz2
    obtain ⟨a4, z4, h4, hz4, rfl⟩ := andE_ok.1 hz3
    obtain ⟨a5, z5, h5, hz5, rfl⟩ := andE_ok.1 hz4
    obtain ⟨a6, z6, h6, hz6, rfl⟩ := andE_ok.1 hz5
    obtain ⟨a7, z7, h7, hz7, rfl⟩ := andE_ok.1 hz6
    obtain ⟨a8, z8, h8, hz8, rfl⟩ := andE_ok.1 hz7
    obtain ⟨a9, z9, h9, hz9, rfl⟩ := andE_ok.1 hz8
    cases h5
    have l1 := textE_len _ _ h1
    have l2 := numE_len h2
    have l3 := numE_len h3
    have l4 := numE_len h4
    have l6 := seqE_len listE_len h6
    have l7 := countE_len h7
    have l8 := seqE_len valE_len h8
    have l9 := countE_len h9
    have l10 := seqE_len insE_len hz9
    simp only [List.length_append, List.length_cons, List.length_nil] at l6 ⊢
    omega

/-- what Encode gives -/
def Encoded (w : World) (r : Res) (e : Ending) (w' : World) : Prop :=
  Below w.heap.size w w' ∧ e = .returned (match r with
    | .ok bs => .tuple #[.string (bstr bs), .int .i64 0]
    | .error x => .tuple #[.string ⟨#[]⟩, .int .i64 x])

theorem und5 : Tryd.prog.underlying 5 = some (.int .u8) := by kernel_rfl
theorem und24 : Tryd.prog.underlying 24 = some (.int .i64) := by kernel_rfl
theorem conv_rd {w : World} {A : Option Addr} {c : Nat} {bs : List UInt8} (h : Rd w A bs.length c 1 (bcs bs)) (h0 : 0 < bs.length) : (convert 30 9 (.slice A bs.length c)).run Tryd.prog w = .ok (.string (bstr bs)) w := by
  obtain ⟨_, _, _, h4⟩ := h
  obtain ⟨b, o, rfl, hb, hc⟩ := h4 h0
  exact run_convert_bytes_back w 30 9 5 ⟨b, o, none⟩ c bs Tryd.underlying30 und5 und9 fun j hj => by
    have := hc j (.int .u8 (bs[j].toNat : Int)) (by simp [bcs, hj])
    rw [← this]
    unfold Addr.add
    split
    · simp_all
    · rfl
theorem start_full (w : World) : FullAt w (((w.alloc (.cells #[.int .i64 0] 24)).alloc (.cells #[.int .u8 75, .int .u8 82, .int .u8 65, .int .u8 73, .int .u8 84, .int .u8 49] 5 (6, 7))).alloc (.cells #[.slice (some ⟨w.heap.size + 1, 0, none⟩) 6 6] 43)) (w.heap.size + 1 + 1) (w.heap.size + 1) ∧
    Blk (((w.alloc (.cells #[.int .i64 0] 24)).alloc (.cells #[.int .u8 75, .int .u8 82, .int .u8 65, .int .u8 73, .int .u8 84, .int .u8 49] 5 (6, 7))).alloc (.cells #[.slice (some ⟨w.heap.size + 1, 0, none⟩) 6 6] 43)) w.heap.size 24 #[.int .i64 0] := by
  have h1 := Blk.new w 24 #[.int .i64 0]
  generalize hW1 : w.alloc (.cells #[.int .i64 0] 24) = W1 at *
  have hz1 : W1.heap.size = w.heap.size + 1 := by rw [← hW1]; simp
  have b1 : Below w.heap.size w W1 := by rw [← hW1]; exact (by repeat (first | exact Below.refl _ _ | assumption | refine Below.setCell ?_ (by first | (simp; done) | (simp; omega) | omega) _ | refine below_drewN ?_ _ | refine Below.drew ?_ | refine Below.alloc ?_ (by first | (simp; done) | (simp; omega) | omega) _))
  have h2 : ∀ j, (W1.alloc (.cells #[.int .u8 75, .int .u8 82, .int .u8 65, .int .u8 73, .int .u8 84, .int .u8 49] 5 (6, 7))).cell? ⟨w.heap.size + 1, j, none⟩ = #[Value.int .u8 75, .int .u8 82, .int .u8 65, .int .u8 73, .int .u8 84, .int .u8 49][j]? := fun j => Joins.cell_alloc_mark_at W1 _ 5 (6, 7) (w.heap.size + 1) j hz1.symm
  have b2 : Below W1.heap.size W1 (W1.alloc (.cells #[.int .u8 75, .int .u8 82, .int .u8 65, .int .u8 73, .int .u8 84, .int .u8 49] 5 (6, 7))) := (by repeat (first | exact Below.refl _ _ | assumption | refine Below.setCell ?_ (by first | (simp; done) | (simp; omega) | omega) _ | refine below_drewN ?_ _ | refine Below.drew ?_ | refine Below.alloc ?_ (by first | (simp; done) | (simp; omega) | omega) _))
  have h1' := h1.new' b2
  generalize hW2 : W1.alloc (.cells #[.int .u8 75, .int .u8 82, .int .u8 65, .int .u8 73, .int .u8 84, .int .u8 49] 5 (6, 7)) = W2 at *
  have hz2 : W2.heap.size = w.heap.size + 1 + 1 := by rw [← hW2]; simp [hz1]
  have h3 := Blk.new W2 43 #[.slice (some ⟨w.heap.size + 1, 0, none⟩) 6 6]
  have b3 : Below W2.heap.size W2 (W2.alloc (.cells #[.slice (some ⟨w.heap.size + 1, 0, none⟩) 6 6] 43)) := (by repeat (first | exact Below.refl _ _ | assumption | refine Below.setCell ?_ (by first | (simp; done) | (simp; omega) | omega) _ | refine below_drewN ?_ _ | refine Below.drew ?_ | refine Below.alloc ?_ (by first | (simp; done) | (simp; omega) | omega) _))
  rw [hz2] at h3
  refine ⟨⟨h3, ?_, fun j u hu => ?_, ?_, by omega⟩, h1'.new' b3⟩
  · have := b3.size
    omega
  · rw [b3.cell (p := ⟨w.heap.size + 1, j, none⟩) (by rw [hz2]; show w.heap.size + 1 < _; omega), h2 j, ← hu]
    simp [bcs, headB]
  · exact (b1.trans (b2.mono (by omega))).trans (b3.mono (by omega))
set_option maxRecDepth 100000 in
set_option maxHeartbeats 2000000 in
theorem encode_any (w : World) {A : Option Addr} {n c : Nat} {p : List CodeD} (h : ProgAt w A n c p) :
    Calls Tryd.prog 11 #[.slice A n c] w (Encoded w (encE p)) := by
  have hn := h.le
  have ht : encE p = preE headB (andE (countE n 1000) (seqE codeE p)) := by
    rw [← h.1]
    rfl
  generalize encE p = R at *
  have HT0 := Lib.hid ht
  have H := Lib.hid h
  clear h ht
  obtain ⟨hF, hB⟩ := start_full w
  have HF := Lib.hid hF
  have HB0 := Lib.hid hB
  clear hF hB
  have hz1 : (w.alloc (.cells #[.int .i64 0] 24)).heap.size = w.heap.size + 1 := by simp
  have kc := Lib.run_convert_bytes_const (P := Tryd.prog) (w.alloc (.cells #[.int .i64 0] 24)) 30 5 #[.int .u8 75, .int .u8 82, .int .u8 65, .int .u8 73, .int .u8 84, .int .u8 49] 6 6 Tryd.underlying30 und5
  rw [hz1] at kc
  simp only [List.size_toArray, List.length_cons, List.length_nil, Nat.zero_add, Nat.reduceAdd] at kc
  clear hz1
  go_enter_defers Tryd.func11, Tryd.ntmps11
  go_wp2_with fail
  clear kc
  have HK0 := Lib.hid (KeepsT.new (show Below w.heap.size w (((w.alloc (.cells #[.int .i64 0] 24)).alloc (.cells #[.int .u8 75, .int .u8 82, .int .u8 65, .int .u8 73, .int .u8 84, .int .u8 49] 5 (6, 7))).alloc (.cells #[.slice (some ⟨w.heap.size + 1, 0, none⟩) 6 6] 43)) from (by repeat (first | exact Below.refl _ _ | assumption | refine Below.setCell ?_ (by first | (simp; done) | (simp; omega) | omega) _ | refine below_drewN ?_ _ | refine Below.drew ?_ | refine Below.alloc ?_ (by first | (simp; done) | (simp; omega) | omega) _))))
  generalize ((w.alloc (.cells #[.int .i64 0] 24)).alloc (.cells #[.int .u8 75, .int .u8 82, .int .u8 65, .int .u8 73, .int .u8 84, .int .u8 49] 5 (6, 7))).alloc (.cells #[.slice (some ⟨w.heap.size + 1, 0, none⟩) 6 6] 43) = W at *
  generalize w.heap.size + 1 + 1 = o at *
  generalize w.heap.size + 1 = g at *
  refine (count_first HF.out n).mono ?_
  rintro e w1 ⟨hK, hb, hr⟩
  have hB1 := hK.2 _ _ _ HB0.out (by decide) (by decide)
  cases hx : countE n 1000 with
  | error y =>
    rw [hx] at hr
    obtain rfl := hr
    have HE := Lib.hid (todo_err HT0.out hx)
    have c0 := hB1.cell 0
    have c1 := hB1.frozen 0
    have c2 := hB1.lt
    simp only [List.getElem?_toArray, List.getElem?_cons_zero] at c0
    have hb2 : Below w.heap.size w (w1.setCell ⟨w.heap.size, 0, none⟩ (.int .i64 y)) := hb.setCell (Nat.le_refl _) _
    clear hx HT0
    refine leaves_cons (f := 23) (args := #[.pointer (some ⟨w.heap.size, 0, none⟩)]) (by simp) (by simp [go_sem]) ?_
    refine (caught_panics ⟨w.heap.size, 0, none⟩ 0 y _ c0 c1).mono ?_
    rintro e u' w'' ⟨rfl, rfl, rfl⟩
    have c3 : (w1.setCell ⟨w.heap.size, 0, none⟩ (.int .i64 y)).cell? ⟨w.heap.size, 0, none⟩ = some (.int .i64 y) := (hB1.set_ 0 (.int .i64 y)).cell 0
    simp [Leaves, settle, results, Tryd.results11, go_sem, c3]
    exact ⟨hb2, by rw [HE.out]⟩
  | ok a1 =>
    rw [hx] at hr
    obtain ⟨rfl, hO⟩ := hr
    have hl1 := countE_len hx
    have hn1 : n ≤ 1000 := by have := hl1.2; omega
    have hl1 := hl1.1
    have HO1 := Lib.hid hO
    have HB1 := Lib.hid hB1
    have HK1 := Lib.hid (HK0.out.trans hK)
    have HT1 := Lib.hid (todo_ok HT0.out hx)
    have hDl : (headB ++ a1).length ≤ 11 := by rw [List.length_append]; show 6 + _ ≤ 11; omega
    clear hO hB1 hK hb hx HT0 HB0 HF HK0
    have hDp : 0 < (headB ++ a1).length := by rw [List.length_append]; show 0 < 6 + _; omega
    generalize headB ++ a1 = D at *
    go_wp2_with fail
    go_loopw [17] (fun i wr => ∃ (k : Nat) (d : List UInt8), k ≤ n ∧ i = .int .i64 k ∧ seqE codeE (p.take k) = .ok d ∧ OutAt w wr o (D ++ d) ∧ KeepsT w wr ∧ Blk wr w.heap.size 24 #[.int .i64 0]) (fun i _ => n - (intOf i).toNat)
    case atStart => exact ⟨0, [], by omega, rfl, rfl, by rw [List.append_nil]; exact HO1.out, HK1.out, HB1.out⟩
    case round =>
      clear HO1 HK1 HB1
      obtain ⟨k, d, hk, rfl, hd, hO, hK, hB⟩ := hrel
      have HO := Lib.hid hO
      have HK := Lib.hid hK
      have HB := Lib.hid hB
      have HD := Lib.hid hd
      have hdl := seqE_len codeE_len hd
      rw [List.length_take] at hdl
      have hdl2 : min k p.length * 1900000000 ≤ 1000 * 1900000000 := Nat.mul_le_mul_right _ (by omega)
      replace hdl : d.length ≤ 1900000000000 := by omega
      clear hdl2
      by_cases hlt : k < n
      · obtain ⟨x, hx⟩ : ∃ x, p[k]? = some x := ⟨_, List.getElem?_eq_getElem (by rw [H.out.1]; exact hlt)⟩
        obtain ⟨be, oe, cs, rfl, hbe, hcs, hce⟩ := H.out.at_ hx
        obtain ⟨htk, hsp⟩ := take_snoc hx
        have HTK := Lib.hid htk
        have HSP := Lib.hid hsp
        have HC := Lib.hid hcs
        obtain ⟨A1, n1, c1, A2, n2, c2, A3, n3, c3, A4, n4, c4, A5, n5, c5, A6, n6, c6, rfl, -⟩ := hcs.parts
        have hbel := hO.bel
        generalize x.name = nm at *
        generalize x.kind = kd at *
        generalize x.params = pa at *
        generalize x.defaults = de at *
        generalize x.gen = ge at *
        have e0 : wr.cell? ⟨be, oe + k * 11, none⟩ = some (.string nm) := (hbel.cell (p := ⟨be, oe + k * 11, none⟩) hbe).trans (hce 0 _ rfl)
        have e1 : wr.cell? ⟨be, oe + k * 11 + 1, none⟩ = some (.int .i64 kd) := (hbel.cell (p := ⟨be, oe + k * 11 + 1, none⟩) hbe).trans (hce 1 _ rfl)
        have e2 : wr.cell? ⟨be, oe + k * 11 + 2, none⟩ = some (.int .i64 pa) := (hbel.cell (p := ⟨be, oe + k * 11 + 2, none⟩) hbe).trans (hce 2 _ rfl)
        have e3 : wr.cell? ⟨be, oe + k * 11 + 3, none⟩ = some (.int .i64 de) := (hbel.cell (p := ⟨be, oe + k * 11 + 3, none⟩) hbe).trans (hce 3 _ rfl)
        have e4 : wr.cell? ⟨be, oe + k * 11 + 4, none⟩ = some (.bool ge) := (hbel.cell (p := ⟨be, oe + k * 11 + 4, none⟩) hbe).trans (hce 4 _ rfl)
        have e5 : wr.cell? ⟨be, oe + k * 11 + 5, none⟩ = some (.slice A1 n1 c1) := (hbel.cell (p := ⟨be, oe + k * 11 + 5, none⟩) hbe).trans (hce 5 _ rfl)
        have e6 : wr.cell? ⟨be, oe + k * 11 + 6, none⟩ = some (.slice A2 n2 c2) := (hbel.cell (p := ⟨be, oe + k * 11 + 6, none⟩) hbe).trans (hce 6 _ rfl)
        have e7 : wr.cell? ⟨be, oe + k * 11 + 7, none⟩ = some (.slice A3 n3 c3) := (hbel.cell (p := ⟨be, oe + k * 11 + 7, none⟩) hbe).trans (hce 7 _ rfl)
        have e8 : wr.cell? ⟨be, oe + k * 11 + 8, none⟩ = some (.slice A4 n4 c4) := (hbel.cell (p := ⟨be, oe + k * 11 + 8, none⟩) hbe).trans (hce 8 _ rfl)
        have e9 : wr.cell? ⟨be, oe + k * 11 + 9, none⟩ = some (.slice A5 n5 c5) := (hbel.cell (p := ⟨be, oe + k * 11 + 9, none⟩) hbe).trans (hce 9 _ rfl)
        have e10 : wr.cell? ⟨be, oe + k * 11 + 10, none⟩ = some (.slice A6 n6 c6) := (hbel.cell (p := ⟨be, oe + k * 11 + 10, none⟩) hbe).trans (hce 10 _ rfl)
        have hbr : be < wr.heap.size := by have := hbel.size; omega
        have hb9 : Below wr.heap.size wr (wr.alloc (.cells #[.string nm, .int .i64 kd, .int .i64 pa, .int .i64 de, .bool ge, .slice A1 n1 c1, .slice A2 n2 c2, .slice A3 n3 c3, .slice A4 n4 c4, .slice A5 n5 c5, .slice A6 n6 c6] 49)) := (by repeat (first | exact Below.refl _ _ | assumption | refine Below.setCell ?_ (by first | (simp; done) | (simp; omega) | omega) _ | refine below_drewN ?_ _ | refine Below.drew ?_ | refine Below.alloc ?_ (by first | (simp; done) | (simp; omega) | omega) _))
        clear hO hK hB hd hx htk hsp hce hbel hcs
        go_wp2_with fail
        refine (code_any (HO.out.new hb9) (by rw [List.length_append]; omega) x HC.out).mono ?_
        rintro e w3 ⟨hK3, hbX, hr3⟩
        have hK3 := (KeepsT.new hb9).trans hK3
        have hBX := hK3.2 _ _ _ HB.out (by decide) (by decide)
        cases hx3 : codeE x with
        | error y =>
          rw [hx3] at hr3
          obtain rfl := hr3
          have HE := Lib.hid (todo_stop HT1.out (show seqE codeE p = .error y by rw [HSP.out, seqE_stop HD.out hx3]))
          clear hx3 e0 e1 e2 e3 e4 e5 e6 e7 e8 e9 e10
          have c0 := hBX.cell 0
          have c1 := hBX.frozen 0
          have c2 := hBX.lt
          simp only [List.getElem?_toArray, List.getElem?_cons_zero] at c0
          have hb2 : Below w.heap.size w (w3.setCell ⟨w.heap.size, 0, none⟩ (.int .i64 y)) := hbX.setCell (Nat.le_refl _) _
          refine leaves_cons (f := 23) (args := #[.pointer (some ⟨w.heap.size, 0, none⟩)]) (by simp) (by simp [go_sem]) ?_
          refine (caught_panics ⟨w.heap.size, 0, none⟩ 0 y _ c0 c1).mono ?_
          rintro e u' w'' ⟨rfl, rfl, rfl⟩
          have c3 : (w3.setCell ⟨w.heap.size, 0, none⟩ (.int .i64 y)).cell? ⟨w.heap.size, 0, none⟩ = some (.int .i64 y) := (hBX.set_ 0 (.int .i64 y)).cell 0
          simp [Leaves, settle, results, Tryd.results11, go_sem, c3]
          exact ⟨hb2, by rw [HE.out]⟩
        | ok cs =>
          rw [hx3] at hr3
          obtain ⟨rfl, hO3⟩ := hr3
          have HO3 := Lib.hid hO3
          have HK3 := Lib.hid (HK.out.trans hK3)
          have HB3 := Lib.hid hBX
          have HD3 := Lib.hid (show seqE codeE (p.take (k + 1)) = .ok (d ++ cs) by rw [HTK.out]; exact seqE_snoc_ok HD.out hx3)
          clear hO3 hK3 hbX hx3 e0 e1 e2 e3 e4 e5 e6 e7 e8 e9 e10 hBX hb9
          go_wp2
          go_roundw
          case rel => exact ⟨k + 1, d ++ cs, by omega, by go_num, HD3.out, by rw [← List.append_assoc]; exact HO3.out, HK3.out, HB3.out⟩
          case measure => simp [intOf]; omega
      · obtain rfl : k = n := by omega
        have hd4 : seqE codeE p = .ok d := by
          rw [List.take_of_length_le (by rw [H.out.1]; omega)] at hd
          exact hd
        have HE := Lib.hid (todo_end HT1.out hd4)
        obtain ⟨v, hb1, hb2⟩ := hO.row
        have hbX := hO.bel
        obtain ⟨A', c', rfl, hRd, -⟩ := Own.rd (row_own hb2)
        have q0 := hb1.cell 0
        simp only [List.getElem?_toArray, List.getElem?_cons_zero] at q0
        have hlo := hb1.lt
        have c0 := hB.cell 0
        have c1 := hB.frozen 0
        have c2 := hB.lt
        simp only [List.getElem?_toArray, List.getElem?_cons_zero] at c0
        have hcv := conv_rd (w := wr) hRd (by rw [List.length_append]; omega)
        rw [show (D ++ d).length = D.length + d.length from List.length_append] at hcv
        have hb2' : Below w.heap.size w (wr.setCell ⟨w.heap.size, 0, none⟩ (.int .i64 0)) := hbX.setCell (Nat.le_refl _) _
        have c3 : (wr.setCell ⟨w.heap.size, 0, none⟩ (.int .i64 0)).cell? ⟨w.heap.size, 0, none⟩ = some (.int .i64 0) := (hB.set_ 0 (.int .i64 0)).cell 0
        have HR := Lib.hid (And.intro hb2' c3)
        clear hO hK hB hd hd4 hb1 hb2 hRd HO HK HB HD hb2' c3 hbX
        generalize hZ : bstr (D ++ d) = Z at *
        have HZ := Lib.hid hZ
        clear hZ
        go_wp2
        refine leaves_cons (f := 23) (args := #[.pointer (some ⟨w.heap.size, 0, none⟩)]) (by simp) (by simp [go_sem]) ?_
        refine (caught_idle ⟨w.heap.size, 0, none⟩ _).mono ?_
        rintro e u' w'' ⟨rfl, rfl, rfl⟩
        have c3 := HR.out.2
        simp [Leaves, settle, results, Tryd.results11, go_sem, c3]
        refine ⟨HR.out.1, ?_⟩
        rw [HE.out, ← HZ.out]
end Go.Proofs.YtcfelfhjhkenaaaDoor
