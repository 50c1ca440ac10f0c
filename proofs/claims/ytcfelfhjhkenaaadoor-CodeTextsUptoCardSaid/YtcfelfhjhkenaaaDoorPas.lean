/- Decode is Encode's other way: texts, consts, codes, programs. -/
import Derived.Test.YtcfelfhjhkenaaaDoorPar
namespace Go.Proofs.YtcfelfhjhkenaaaDoor

theorem cnt_count {n most : Nat} {a : List UInt8} (h : countE (n : Int) (most : Int) = .ok a) : cntB most n = .ok a := by
  unfold countE at h
  split at h
  · unfold numE at h
    split at h
    · cases h
      rw [cntB, if_pos (by omega), Int.toNat_natCast]
    · cases h
  · cases h
theorem count_cnt {n most : Nat} {a : List UInt8} (h : cntB most n = .ok a) : countE (n : Int) (most : Int) = .ok a := by
  obtain ⟨h1, h2, rfl⟩ := cntB_ok h
  rw [countE, if_pos (by omega), numE, if_pos (by omega), Int.toNat_natCast]
theorem text_good : Good (fun _ => True) textE textP where
  back := fun s a r _ h => by
    unfold textE at h
    split at h
    · rename_i hs
      cases h
      have hc : cntB 65536 s.size = .ok (numB s.size) := by rw [cntB, if_pos (by omega)]
      rw [textP, List.append_assoc, (num_good 65536).bindBack trivial hc, (take_good s.size).bindBack (x := s.data.toList) (sizeB s) rfl, bstr_data]
      rfl
    · cases h
  cut := fun s a c d _ h he hd => by
    unfold textE at h
    split at h
    · rename_i hs
      cases h
      have hc : cntB 65536 s.size = .ok (numB s.size) := by rw [cntB, if_pos (by omega)]
      refine (num_good 65536).bindCut trivial hc he hd fun c2 h2 => ?_
      exact (take_good s.size).bindCut (x := s.data.toList) (b := []) (sizeB s) rfl (by rw [List.append_nil]; exact h2) hd fun c3 h3 => by simp at h3; exact absurd h3.2 hd
    · cases h
  inv := fun l s r h => by
    obtain ⟨n, l', h1, h2⟩ := bindP_inv h
    obtain ⟨t, l'', h3, h4⟩ := bindP_inv h2
    cases h4
    obtain ⟨_, a, f1, rfl⟩ := (num_good _).inv _ _ _ h1
    obtain ⟨e2, b, f2, rfl⟩ := (take_good _).inv _ _ _ h3
    cases f2
    obtain ⟨g1, g2, rfl⟩ := cntB_ok f1
    refine ⟨trivial, numB n ++ t, ?_, by rw [List.append_assoc]⟩
    have e2 : t.length = n := e2
    rw [textE, bstr_size, e2, if_pos g1, bstr_list]
  err := fun l e h => by
    rcases bindP_err h with h1 | ⟨x, l', _, h2⟩
    · exact (num_good _).err _ _ h1
    · rcases bindP_err h2 with h3 | ⟨x', l'', _, h4⟩
      · exact (take_good _).err _ _ h3
      · cases h4
def cntE {α : Type} (f : α → Res) (most : Nat) (xs : List α) : Res := andE (countE (xs.length : Int) (most : Int)) (seqE f xs)
theorem cnt_good {α : Type} {O : α → Prop} {f : α → Res} {p : Par α} (h : Good O f p) (most : Nat) : Good (fun xs : List α => ∀ x ∈ xs, O x) (cntE f most) (cntP p most) where
  back := fun xs a r ho hf => by
    obtain ⟨a1, a2, h1, h2, rfl⟩ := andE_ok.1 hf
    rw [cntP, List.append_assoc, (num_good most).bindBack trivial (cnt_count h1)]
    exact (h.rep _).back xs a2 r ⟨rfl, ho⟩ h2
  cut := fun xs a c d ho hf he hd => by
    obtain ⟨a1, a2, h1, h2, rfl⟩ := andE_ok.1 hf
    refine (num_good most).bindCut trivial (cnt_count h1) he hd fun c2 hc2 => ?_
    exact (h.rep _).cut xs a2 c2 d ⟨rfl, ho⟩ h2 hc2 hd
  inv := fun l xs r hp => by
    obtain ⟨n, l', h1, h2⟩ := bindP_inv hp
    obtain ⟨_, a, f1, rfl⟩ := (num_good _).inv _ _ _ h1
    obtain ⟨⟨e1, e2⟩, b, f2, rfl⟩ := (h.rep n).inv _ _ _ h2
    refine ⟨e2, a ++ b, ?_, by rw [List.append_assoc]⟩
    rw [cntE, e1]
    exact andE_ok.2 ⟨a, b, count_cnt f1, f2, rfl⟩
  err := fun l e hp => by
    rcases bindP_err hp with h1 | ⟨x, l', _, h2⟩
    · exact (num_good _).err _ _ h1
    · exact (h.rep _).err _ _ h2
theorem list_cnt (l : List ByteArray) : listE l = cntE textE 4096 l := by
  unfold listE cntE countE
  by_cases h : l.length ≤ 4096
  · rw [if_pos h, if_pos (by omega), numE, if_pos (by omega), Int.toNat_natCast]
    cases seqE textE l <;> rfl
  · rw [if_neg h, if_neg (by omega)]
    rfl
theorem list_good : Good (fun _ => True) listE listP where
  back := fun x a r _ h => (cnt_good text_good 4096).back x a r (fun _ _ => trivial) (by rw [← list_cnt]; exact h)
  cut := fun x a c d _ h => (cnt_good text_good 4096).cut x a c d (fun _ _ => trivial) (by rw [← list_cnt]; exact h)
  inv := fun l x r h => by
    obtain ⟨_, a, h1, h2⟩ := (cnt_good text_good 4096).inv l x r h
    exact ⟨trivial, a, by rw [list_cnt]; exact h1, h2⟩
  err := (cnt_good text_good 4096).err
/-- a number, 0 to 2^31 - 1, as an Int -/
theorem numE_cnt {n : Int} {a : List UInt8} (h : numE n = .ok a) : ∃ m : Nat, n = m ∧ cntB 2147483647 m = .ok a := by
  unfold numE at h
  split at h
  · cases h
    exact ⟨n.toNat, by omega, by rw [cntB, if_pos (by omega)]⟩
  · cases h
theorem cnt_numE {m : Nat} {a : List UInt8} (h : cntB 2147483647 m = .ok a) : numE (m : Int) = .ok a := by
  obtain ⟨h1, h2, rfl⟩ := cntB_ok h
  rw [numE, if_pos (by omega), Int.toNat_natCast]
theorem ins_good : Good (fun _ => True) insE insP where
  back := fun x a r _ h => by
    unfold insE at h
    split at h
    · rename_i hx
      obtain ⟨a1, a2, h1, h2, rfl⟩ := andE_ok.1 h
      cases h1
      obtain ⟨m, e, h3⟩ := numE_cnt h2
      have hb := byteI_toNat x.1
      rw [insP, List.append_assoc, (among_good 1 56).bindBack (x := byteI x.1) (by omega) rfl, (num_good _).bindBack trivial h3]
      obtain ⟨x1, x2⟩ := x
      simp only at e hb hx ⊢
      rw [hb, e]
      have : x1 % 256 = x1 := by omega
      rw [this]
      rfl
    · cases h
  cut := fun x a c d _ h he hd => by
    unfold insE at h
    split at h
    · rename_i hx
      obtain ⟨a1, a2, h1, h2, rfl⟩ := andE_ok.1 h
      cases h1
      obtain ⟨m, e, h3⟩ := numE_cnt h2
      have hb := byteI_toNat x.1
      refine (among_good 1 56).bindCut (x := byteI x.1) (by omega) rfl he hd fun c2 hc2 => ?_
      exact (num_good _).bindCut (b := []) trivial h3 (by rw [List.append_nil]; exact hc2) hd fun c3 h3 => by simp at h3; exact absurd h3.2 hd
    · cases h
  inv := fun l x r h => by
    obtain ⟨o, l', h1, h2⟩ := bindP_inv h
    obtain ⟨m, l'', h3, h4⟩ := bindP_inv h2
    cases h4
    obtain ⟨⟨g1, g2⟩, a, f1, rfl⟩ := (among_good _ _).inv _ _ _ h1
    obtain ⟨_, b, f2, rfl⟩ := (num_good _).inv _ _ _ h3
    cases f1
    refine ⟨trivial, [o] ++ b, ?_, by rw [List.append_assoc]⟩
    have hb : byteI (o.toNat : Int) = o := by
      apply UInt8.toNat_inj.1
      have := byteI_toNat (o.toNat : Int)
      omega
    rw [insE, if_pos (by simp only; omega)]
    simp only [hb]
    exact andE_ok.2 ⟨_, _, rfl, cnt_numE f2, rfl⟩
  err := fun l e h => by
    rcases bindP_err h with h1 | ⟨x, l', _, h2⟩
    · exact (among_good _ _).err _ _ h1
    · rcases bindP_err h2 with h3 | ⟨x', l'', _, h4⟩
      · exact (num_good _).err _ _ h3
      · cases h4
theorem shiftI_eq (n : Int) (b : UInt8) : shiftI n b = IntKind.i64.wrap (n * 256 + b.toNat) := rfl
theorem shiftI_small {n : Int} {b : UInt8} (h0 : 0 ≤ n) (h1 : n < 36028797018963968) : shiftI n b = n * 256 + b.toNat := by
  have hb := b.toNat_lt
  rw [shiftI_eq, IntKind.wrap_i64]
  omega
theorem fold_int8 (n : Int) (h : -9223372036854775808 ≤ n ∧ n ≤ 9223372036854775807) : (int8 n).foldl shiftI 0 = n := by
  simp only [int8, List.map_cons, List.map_nil, List.foldl_cons, List.foldl_nil, Int.reducePow]
  have e1 : shiftI 0 (byteI (n / 72057594037927936)) = (n / 72057594037927936) % 256 := by rw [shiftI_small (by omega) (by omega), byteI_toNat]; omega
  have e2 : shiftI ((n / 72057594037927936) % 256) (byteI (n / 281474976710656)) = (n / 281474976710656) % 65536 := by rw [shiftI_small (by omega) (by omega), byteI_toNat]; omega
  have e3 : shiftI ((n / 281474976710656) % 65536) (byteI (n / 1099511627776)) = (n / 1099511627776) % 16777216 := by rw [shiftI_small (by omega) (by omega), byteI_toNat]; omega
  have e4 : shiftI ((n / 1099511627776) % 16777216) (byteI (n / 4294967296)) = (n / 4294967296) % 4294967296 := by rw [shiftI_small (by omega) (by omega), byteI_toNat]; omega
  have e5 : shiftI ((n / 4294967296) % 4294967296) (byteI (n / 16777216)) = (n / 16777216) % 1099511627776 := by rw [shiftI_small (by omega) (by omega), byteI_toNat]; omega
  have e6 : shiftI ((n / 16777216) % 1099511627776) (byteI (n / 65536)) = (n / 65536) % 281474976710656 := by rw [shiftI_small (by omega) (by omega), byteI_toNat]; omega
  have e7 : shiftI ((n / 65536) % 281474976710656) (byteI (n / 256)) = (n / 256) % 72057594037927936 := by rw [shiftI_small (by omega) (by omega), byteI_toNat]; omega
  have e8 : shiftI ((n / 256) % 72057594037927936) (byteI (n / 1)) = n := by
    rw [shiftI_eq, byteI_toNat, IntKind.wrap_i64]
    omega
  first
  | rw [e1, e2, e3, e4, e5, e6, e7, e8]
  | (simp only [e1, e2, e3, e4, e5, e6, e7]; exact e8)
theorem int8_fold (b1 b2 b3 b4 b5 b6 b7 b8 : UInt8) : int8 ([b1, b2, b3, b4, b5, b6, b7, b8].foldl shiftI 0) = [b1, b2, b3, b4, b5, b6, b7, b8] ∧ ValD.Ok ⟨2, [b1, b2, b3, b4, b5, b6, b7, b8].foldl shiftI 0, ⟨#[]⟩⟩ := by
  have g1 := b1.toNat_lt
  have g2 := b2.toNat_lt
  have g3 := b3.toNat_lt
  have g4 := b4.toNat_lt
  have g5 := b5.toNat_lt
  have g6 := b6.toNat_lt
  have g7 := b7.toNat_lt
  have g8 := b8.toNat_lt
  simp only [List.foldl_cons, List.foldl_nil]
  obtain ⟨y1, hy1⟩ : ∃ y : Int, y = shiftI 0 b1 := ⟨_, rfl⟩
  have z1 : y1 = b1.toNat := by rw [hy1, shiftI_small (by omega) (by omega)]; omega
  rw [← hy1]
  clear hy1
  obtain ⟨y2, hy2⟩ : ∃ y : Int, y = shiftI y1 b2 := ⟨_, rfl⟩
  have z2 : y2 = y1 * 256 + b2.toNat := by rw [hy2, shiftI_small (by omega) (by omega)]
  rw [← hy2]
  clear hy2
  obtain ⟨y3, hy3⟩ : ∃ y : Int, y = shiftI y2 b3 := ⟨_, rfl⟩
  have z3 : y3 = y2 * 256 + b3.toNat := by rw [hy3, shiftI_small (by omega) (by omega)]
  rw [← hy3]
  clear hy3
  obtain ⟨y4, hy4⟩ : ∃ y : Int, y = shiftI y3 b4 := ⟨_, rfl⟩
  have z4 : y4 = y3 * 256 + b4.toNat := by rw [hy4, shiftI_small (by omega) (by omega)]
  rw [← hy4]
  clear hy4
  obtain ⟨y5, hy5⟩ : ∃ y : Int, y = shiftI y4 b5 := ⟨_, rfl⟩
  have z5 : y5 = y4 * 256 + b5.toNat := by rw [hy5, shiftI_small (by omega) (by omega)]
  rw [← hy5]
  clear hy5
  obtain ⟨y6, hy6⟩ : ∃ y : Int, y = shiftI y5 b6 := ⟨_, rfl⟩
  have z6 : y6 = y5 * 256 + b6.toNat := by rw [hy6, shiftI_small (by omega) (by omega)]
  rw [← hy6]
  clear hy6
  obtain ⟨y7, hy7⟩ : ∃ y : Int, y = shiftI y6 b7 := ⟨_, rfl⟩
  have z7 : y7 = y6 * 256 + b7.toNat := by rw [hy7, shiftI_small (by omega) (by omega)]
  rw [← hy7]
  clear hy7
  rw [shiftI_eq]
  generalize hN : IntKind.i64.wrap _ = N
  rw [IntKind.wrap_i64] at hN
  have hb : ∀ (x : Int) (b : UInt8), x % 256 = b.toNat → byteI x = b := fun x b h => by
    apply UInt8.toNat_inj.1
    have := byteI_toNat x
    omega
  refine ⟨?_, by simp only [ValD.Ok]; omega⟩
  simp only [int8, List.map_cons, List.map_nil, Int.reducePow]
  rw [hb _ b1 (by omega), hb _ b2 (by omega), hb _ b3 (by omega), hb _ b4 (by omega), hb _ b5 (by omega), hb _ b6 (by omega), hb _ b7 (by omega), hb _ b8 (by omega)]
theorem empty_eq {s : ByteArray} (h : s.toList.isEmpty = true) : s = ⟨#[]⟩ := by
  rw [List.isEmpty_iff] at h
  exact (toList_inj _ _).1 (h.trans (by rw [ByteArray.toList_eq]))
theorem emp_isEmpty : (⟨#[]⟩ : ByteArray).toList.isEmpty = true := by rw [ByteArray.toList_eq]; rfl
theorem valE_0 (n : Int) (s : ByteArray) : valE ⟨0, n, s⟩ = if s.toList.isEmpty = true ∧ n = 0 then .ok [0] else .error 1 := rfl
theorem valE_1 (n : Int) (s : ByteArray) : valE ⟨1, n, s⟩ = if s.toList.isEmpty = true ∧ (n = 0 ∨ n = 1) then .ok [1, byteI n] else .error 1 := rfl
theorem valE_2 (n : Int) (s : ByteArray) : valE ⟨2, n, s⟩ = if s.toList.isEmpty = true then .ok (2 :: int8 n) else .error 1 := rfl
theorem valE_3 (n : Int) (s : ByteArray) : valE ⟨3, n, s⟩ = if n = 0 then (match textE s with | .ok a => .ok (3 :: a) | .error e => .error e) else .error 1 := rfl
theorem val_good : Good ValD.Ok valE valP where
  back := fun v a r ho h => by
    obtain ⟨k, n, s⟩ := v
    rcases valE_ok h with ⟨rfl, e1, rfl, rfl⟩ | ⟨rfl, e1, h1, rfl⟩ | ⟨rfl, e1, rfl⟩ | ⟨rfl, rfl, c, e1, rfl⟩
    · obtain rfl := empty_eq e1
      rw [valP, (among_good 0 3).bindBack (x := 0) (a := [0]) (by decide) rfl]
      rfl
    · obtain rfl := empty_eq e1
      have h1 : n = 0 ∨ n = 1 := h1
      rw [valP, show [(1 : UInt8), byteI n] ++ r = [1] ++ ([byteI n] ++ r) from rfl, (among_good 0 3).bindBack (x := 1) (a := [1]) (by decide) rfl, if_pos rfl,
        (among_good 0 1).bindBack (x := byteI n) (by have := byteI_toNat n; omega) rfl]
      rw [byteI_toNat]
      have : n % 256 = n := by omega
      rw [this]
      rfl
    · obtain rfl := empty_eq e1
      rw [valP, show (2 :: int8 n) ++ r = [2] ++ (int8 n ++ r) from rfl, (among_good 0 3).bindBack (x := 2) (a := [2]) (by decide) rfl, if_neg (by decide), if_pos rfl,
        (take_good 8).bindBack (x := int8 n) rfl rfl, fold_int8 n ho]
      rfl
    · rw [valP, show (3 :: c) ++ r = [3] ++ (c ++ r) from rfl, (among_good 0 3).bindBack (x := 3) (a := [3]) (by decide) rfl, if_neg (by decide), if_neg (by decide), if_pos rfl,
        text_good.bindBack trivial e1]
      rfl
  cut := fun v a c d ho h he hd => by
    obtain ⟨k, n, s⟩ := v
    have hend : ∀ {c3 : List UInt8} {P : Prop}, ([] : List UInt8) = c3 ++ d → P := fun h3 => by simp at h3; exact absurd h3.2 hd
    rcases valE_ok h with ⟨rfl, e1, rfl, rfl⟩ | ⟨rfl, e1, h1, rfl⟩ | ⟨rfl, e1, rfl⟩ | ⟨rfl, rfl, c', e1, rfl⟩
    · exact (among_good 0 3).bindCut (x := 0) (a := [0]) (b := []) (by decide) rfl he hd fun c2 h2 => hend h2
    · have h1 : n = 0 ∨ n = 1 := h1
      refine (among_good 0 3).bindCut (x := 1) (a := [1]) (b := [byteI n]) (by decide) rfl he hd fun c2 h2 => ?_
      rw [if_pos rfl]
      exact (among_good 0 1).bindCut (x := byteI n) (b := []) (by have := byteI_toNat n; omega) rfl (by rw [List.append_nil]; exact h2) hd fun c3 h3 => hend h3
    · refine (among_good 0 3).bindCut (x := 2) (a := [2]) (b := int8 n) (by decide) rfl he hd fun c2 h2 => ?_
      rw [if_neg (by decide), if_pos rfl]
      exact (take_good 8).bindCut (x := int8 n) (b := []) rfl rfl (by rw [List.append_nil]; exact h2) hd fun c3 h3 => hend h3
    · refine (among_good 0 3).bindCut (x := 3) (a := [3]) (b := c') (by decide) rfl he hd fun c2 h2 => ?_
      rw [if_neg (by decide), if_neg (by decide), if_pos rfl]
      exact text_good.bindCut (b := []) trivial e1 (by rw [List.append_nil]; exact h2) hd fun c3 h3 => hend h3
  inv := fun l v r h => by
    obtain ⟨k, l', h1, h2⟩ := bindP_inv h
    obtain ⟨⟨g1, g2⟩, a, f1, rfl⟩ := (among_good _ _).inv _ _ _ h1
    cases f1
    by_cases k1 : k = 1
    · subst k1
      rw [if_pos rfl] at h2
      obtain ⟨b, l'', h3, h4⟩ := bindP_inv h2
      cases h4
      obtain ⟨⟨g3, g4⟩, a, f2, rfl⟩ := (among_good _ _).inv _ _ _ h3
      cases f2
      refine ⟨by simp only [ValD.Ok]; omega, [1, b], ?_, rfl⟩
      have hb : byteI (b.toNat : Int) = b := by
        apply UInt8.toNat_inj.1
        have := byteI_toNat (b.toNat : Int)
        omega
      have hn : (b.toNat : Int) = 0 ∨ (b.toNat : Int) = 1 := by omega
      rw [valE_1, if_pos ⟨emp_isEmpty, hn⟩, hb]
    · rw [if_neg k1] at h2
      by_cases k2 : k = 2
      · subst k2
        rw [if_pos rfl] at h2
        obtain ⟨t, l'', h3, h4⟩ := bindP_inv h2
        cases h4
        obtain ⟨e3, a, f2, rfl⟩ := (take_good _).inv _ _ _ h3
        cases f2
        match t, e3 with
        | [b1, b2, b3, b4, b5, b6, b7, b8], _ =>
          obtain ⟨h5, h6⟩ := int8_fold b1 b2 b3 b4 b5 b6 b7 b8
          refine ⟨h6, 2 :: [b1, b2, b3, b4, b5, b6, b7, b8], ?_, rfl⟩
          generalize [b1, b2, b3, b4, b5, b6, b7, b8].foldl shiftI 0 = N at h5 h6
          rw [valE_2, if_pos emp_isEmpty, h5]
      · rw [if_neg k2] at h2
        by_cases k3 : k = 3
        · subst k3
          rw [if_pos rfl] at h2
          obtain ⟨t, l'', h3, h4⟩ := bindP_inv h2
          cases h4
          obtain ⟨_, a, f2, rfl⟩ := text_good.inv _ _ _ h3
          refine ⟨by simp only [ValD.Ok]; omega, 3 :: a, ?_, rfl⟩
          rw [valE_3, if_pos rfl, f2]
        · rw [if_neg k3] at h2
          cases h2
          have k0 : k = 0 := by
            apply UInt8.toNat_inj.1
            have n1 : k.toNat ≠ 1 := fun h => k1 (UInt8.toNat_inj.1 h)
            have n2 : k.toNat ≠ 2 := fun h => k2 (UInt8.toNat_inj.1 h)
            have n3 : k.toNat ≠ 3 := fun h => k3 (UInt8.toNat_inj.1 h)
            show k.toNat = 0
            omega
          subst k0
          exact ⟨by simp only [ValD.Ok]; omega, [0], by rw [valE_0, if_pos ⟨emp_isEmpty, rfl⟩], rfl⟩
  err := fun l e h => by
    rcases bindP_err h with h1 | ⟨x, l', _, h2⟩
    · exact (among_good _ _).err _ _ h1
    · split at h2
      · rcases bindP_err h2 with h3 | ⟨x', l'', _, h4⟩
        · exact (among_good _ _).err _ _ h3
        · cases h4
      · split at h2
        · rcases bindP_err h2 with h3 | ⟨x', l'', _, h4⟩
          · exact (take_good _).err _ _ h3
          · cases h4
        · split at h2
          · rcases bindP_err h2 with h3 | ⟨x', l'', _, h4⟩
            · exact text_good.err _ _ h3
            · cases h4
          · cases h2
theorem code_good : Good CodeD.Ok codeE codeP where
  back := fun x a r ho h => by
    unfold codeE at h
    obtain ⟨a1, z1, h1, hz1, rfl⟩ := andE_ok.1 h
    obtain ⟨a2, z2, h2, hz2, rfl⟩ := andE_ok.1 hz1
    obtain ⟨a3, z3, h3, hz3, rfl⟩ := andE_ok.1 hz2
    obtain ⟨a4, z4, h4, hz4, rfl⟩ := andE_ok.1 hz3
    obtain ⟨a5, z5, h5, hz5, rfl⟩ := andE_ok.1 hz4
    obtain ⟨a6, z6, h6, hz6, rfl⟩ := andE_ok.1 hz5
    obtain ⟨a7, z7, h7, hz7, rfl⟩ := andE_ok.1 hz6
    obtain ⟨a8, z8, h8, hz8, rfl⟩ := andE_ok.1 hz7
    obtain ⟨a9, z9, h9, hz9, rfl⟩ := andE_ok.1 hz8
    obtain ⟨a10, z10, h10, hz10, rfl⟩ := andE_ok.1 hz9
    obtain ⟨a11, z11, h11, hz11, rfl⟩ := andE_ok.1 hz10
    obtain ⟨a12, a13, h12, h13, rfl⟩ := andE_ok.1 hz11
    obtain ⟨m2, e2, h2⟩ := numE_cnt h2
    obtain ⟨m3, e3, h3⟩ := numE_cnt h3
    obtain ⟨m4, e4, h4⟩ := numE_cnt h4
    have hc : cntE valE 4096 x.consts = .ok (a10 ++ a11) := andE_ok.2 ⟨_, _, h10, h11, rfl⟩
    have hi : cntE insE 65536 x.ins = .ok (a12 ++ a13) := andE_ok.2 ⟨_, _, h12, h13, rfl⟩
    cases h5
    simp only [List.append_assoc]
    rw [← List.append_assoc a12, ← List.append_assoc a10]
    rw [codeP, text_good.bindBack trivial h1, (num_good _).bindBack trivial h2, (num_good _).bindBack trivial h3, (num_good _).bindBack trivial h4,
      (among_good 0 1).bindBack (x := if x.gen then 1 else 0) (by split <;> decide) rfl, list_good.bindBack trivial h6, list_good.bindBack trivial h7, list_good.bindBack trivial h8, list_good.bindBack trivial h9,
      (cnt_good val_good 4096).bindBack ho hc, (cnt_good ins_good 65536).bindBack (fun _ _ => trivial) hi]
    obtain ⟨nm, kd, pa, de, ge, lo, ce, fr, na, co, is⟩ := x
    simp only at e2 e3 e4 ⊢
    rw [e2, e3, e4]
    cases ge <;> rfl
  cut := fun x a c d ho h he hd => by
    unfold codeE at h
    obtain ⟨a1, z1, h1, hz1, rfl⟩ := andE_ok.1 h
    obtain ⟨a2, z2, h2, hz2, rfl⟩ := andE_ok.1 hz1
    obtain ⟨a3, z3, h3, hz3, rfl⟩ := andE_ok.1 hz2
    obtain ⟨a4, z4, h4, hz4, rfl⟩ := andE_ok.1 hz3
    obtain ⟨a5, z5, h5, hz5, rfl⟩ := andE_ok.1 hz4
    obtain ⟨a6, z6, h6, hz6, rfl⟩ := andE_ok.1 hz5
    obtain ⟨a7, z7, h7, hz7, rfl⟩ := andE_ok.1 hz6
    obtain ⟨a8, z8, h8, hz8, rfl⟩ := andE_ok.1 hz7
    obtain ⟨a9, z9, h9, hz9, rfl⟩ := andE_ok.1 hz8
    obtain ⟨a10, z10, h10, hz10, rfl⟩ := andE_ok.1 hz9
    obtain ⟨a11, z11, h11, hz11, rfl⟩ := andE_ok.1 hz10
    obtain ⟨a12, a13, h12, h13, rfl⟩ := andE_ok.1 hz11
    obtain ⟨m2, e2, h2⟩ := numE_cnt h2
    obtain ⟨m3, e3, h3⟩ := numE_cnt h3
    obtain ⟨m4, e4, h4⟩ := numE_cnt h4
    have hc : cntE valE 4096 x.consts = .ok (a10 ++ a11) := andE_ok.2 ⟨_, _, h10, h11, rfl⟩
    have hi : cntE insE 65536 x.ins = .ok (a12 ++ a13) := andE_ok.2 ⟨_, _, h12, h13, rfl⟩
    cases h5
    rw [← List.append_assoc a10] at he
    refine text_good.bindCut trivial h1 he hd fun c1 he => ?_
    refine (num_good _).bindCut trivial h2 he hd fun c2 he => ?_
    refine (num_good _).bindCut trivial h3 he hd fun c3 he => ?_
    refine (num_good _).bindCut trivial h4 he hd fun c4 he => ?_
    refine (among_good 0 1).bindCut (x := if x.gen then 1 else 0) (by split <;> decide) rfl he hd fun c5 he => ?_
    refine list_good.bindCut trivial h6 he hd fun c6 he => ?_
    refine list_good.bindCut trivial h7 he hd fun c7 he => ?_
    refine list_good.bindCut trivial h8 he hd fun c8 he => ?_
    refine list_good.bindCut trivial h9 he hd fun c9 he => ?_
    refine (cnt_good val_good 4096).bindCut ho hc he hd fun c10 he => ?_
    exact (cnt_good ins_good 65536).bindCut (b := []) (fun _ _ => trivial) hi (by rw [List.append_nil]; exact he) hd fun c11 h3 => by simp at h3; exact absurd h3.2 hd
  inv := fun l x r h => by
    obtain ⟨nm, l1, p1, h⟩ := bindP_inv h
    obtain ⟨kd, l2, p2, h⟩ := bindP_inv h
    obtain ⟨pa, l3, p3, h⟩ := bindP_inv h
    obtain ⟨de, l4, p4, h⟩ := bindP_inv h
    obtain ⟨ge, l5, p5, h⟩ := bindP_inv h
    obtain ⟨lo, l6, p6, h⟩ := bindP_inv h
    obtain ⟨ce, l7, p7, h⟩ := bindP_inv h
    obtain ⟨fr, l8, p8, h⟩ := bindP_inv h
    obtain ⟨na, l9, p9, h⟩ := bindP_inv h
    obtain ⟨co, l10, p10, h⟩ := bindP_inv h
    obtain ⟨is, l11, p11, h⟩ := bindP_inv h
    cases h
    obtain ⟨_, a1, f1, rfl⟩ := text_good.inv _ _ _ p1
    obtain ⟨_, a2, f2, rfl⟩ := (num_good _).inv _ _ _ p2
    obtain ⟨_, a3, f3, rfl⟩ := (num_good _).inv _ _ _ p3
    obtain ⟨_, a4, f4, rfl⟩ := (num_good _).inv _ _ _ p4
    obtain ⟨⟨g1, g2⟩, a5, f5, rfl⟩ := (among_good _ _).inv _ _ _ p5
    obtain ⟨_, a6, f6, rfl⟩ := list_good.inv _ _ _ p6
    obtain ⟨_, a7, f7, rfl⟩ := list_good.inv _ _ _ p7
    obtain ⟨_, a8, f8, rfl⟩ := list_good.inv _ _ _ p8
    obtain ⟨_, a9, f9, rfl⟩ := list_good.inv _ _ _ p9
    obtain ⟨o10, a10, f10, rfl⟩ := (cnt_good val_good 4096).inv _ _ _ p10
    obtain ⟨_, a11, f11, rfl⟩ := (cnt_good ins_good 65536).inv _ _ _ p11
    cases f5
    obtain ⟨b1, b2, q1, q2, rfl⟩ := andE_ok.1 f10
    obtain ⟨b3, b4, q3, q4, rfl⟩ := andE_ok.1 f11
    refine ⟨o10, a1 ++ (a2 ++ (a3 ++ (a4 ++ ([ge] ++ (a6 ++ (a7 ++ (a8 ++ (a9 ++ (b1 ++ (b2 ++ (b3 ++ b4))))))))))), ?_, by simp only [List.append_assoc]⟩
    unfold codeE
    simp only
    have hg : (if (ge == 1) = true then (1 : UInt8) else 0) = ge := by
      by_cases e : ge = 1
      · subst e; rfl
      · have : ge = 0 := by
          apply UInt8.toNat_inj.1
          have n1 : ge.toNat ≠ 1 := fun h => e (UInt8.toNat_inj.1 h)
          show ge.toNat = 0
          omega
        subst this; rfl
    rw [hg]
    exact andE_ok.2 ⟨_, _, f1, andE_ok.2 ⟨_, _, cnt_numE f2, andE_ok.2 ⟨_, _, cnt_numE f3, andE_ok.2 ⟨_, _, cnt_numE f4, andE_ok.2 ⟨_, _, rfl, andE_ok.2 ⟨_, _, f6, andE_ok.2 ⟨_, _, f7, andE_ok.2 ⟨_, _, f8, andE_ok.2 ⟨_, _, f9,
      andE_ok.2 ⟨_, _, q1, andE_ok.2 ⟨_, _, q2, andE_ok.2 ⟨_, _, q3, q4, rfl⟩, rfl⟩, rfl⟩, rfl⟩, rfl⟩, rfl⟩, rfl⟩, rfl⟩, rfl⟩, rfl⟩, rfl⟩, rfl⟩
  err := fun l e h => by
    rcases bindP_err h with h | ⟨_, _, _, h⟩
    · exact text_good.err _ _ h
    rcases bindP_err h with h | ⟨_, _, _, h⟩
    · exact (num_good _).err _ _ h
    rcases bindP_err h with h | ⟨_, _, _, h⟩
    · exact (num_good _).err _ _ h
    rcases bindP_err h with h | ⟨_, _, _, h⟩
    · exact (num_good _).err _ _ h
    rcases bindP_err h with h | ⟨_, _, _, h⟩
    · exact (among_good _ _).err _ _ h
    rcases bindP_err h with h | ⟨_, _, _, h⟩
    · exact list_good.err _ _ h
    rcases bindP_err h with h | ⟨_, _, _, h⟩
    · exact list_good.err _ _ h
    rcases bindP_err h with h | ⟨_, _, _, h⟩
    · exact list_good.err _ _ h
    rcases bindP_err h with h | ⟨_, _, _, h⟩
    · exact list_good.err _ _ h
    rcases bindP_err h with h | ⟨_, _, _, h⟩
    · exact (cnt_good val_good 4096).err _ _ h
    rcases bindP_err h with h | ⟨_, _, _, h⟩
    · exact (cnt_good ins_good 65536).err _ _ h
    cases h
theorem head_good : ∀ l : List UInt8, Good (fun _ : Unit => True) (fun _ => .ok l) (headP l)
  | [] => ⟨fun x a r _ h => by cases h; rfl, fun x a c d _ h he hd => by cases h; simp at he; exact absurd he.2 hd, fun l x r h => by cases h; exact ⟨trivial, [], rfl, rfl⟩, fun l e h => by cases h⟩
  | b :: l => by
    have ih := head_good l
    have hb : b.toNat ≤ b.toNat ∧ b.toNat ≤ b.toNat := ⟨Nat.le_refl _, Nat.le_refl _⟩
    refine ⟨fun x a r _ h => ?_, fun x a c d _ h he hd => ?_, fun s x r h => ?_, fun s e h => ?_⟩
    · cases h
      rw [headP, show b :: l ++ r = [b] ++ (l ++ r) from rfl, (among_good _ _).bindBack (x := b) hb rfl]
      exact ih.back () l r trivial rfl
    · cases h
      exact (among_good _ _).bindCut (x := b) (b := l) hb rfl he hd fun c2 h2 => ih.cut () l c2 d trivial rfl h2 hd
    · obtain ⟨b', s', h1, h2⟩ := bindP_inv h
      obtain ⟨⟨g1, g2⟩, a, f1, rfl⟩ := (among_good _ _).inv _ _ _ h1
      obtain rfl : b' = b := UInt8.toNat_inj.1 (by omega)
      obtain ⟨_, a2, f2, rfl⟩ := ih.inv _ _ _ h2
      cases f1
      cases f2
      exact ⟨trivial, _, rfl, rfl⟩
    · rcases bindP_err h with h | ⟨_, _, _, h⟩
      · exact (among_good _ _).err _ _ h
      · exact ih.err _ _ h
theorem prog_good : Good (fun p : List CodeD => ∀ c ∈ p, c.Ok) encE progP where
  back := fun p a r ho h => by
    obtain ⟨a1, a2, h1, h2, rfl⟩ := andE_ok.1 h
    cases h1
    rw [progP, List.append_assoc, (head_good headB).bindBack (x := ()) trivial rfl]
    exact (cnt_good code_good 1000).back p a2 r ho h2
  cut := fun p a c d ho h he hd => by
    obtain ⟨a1, a2, h1, h2, rfl⟩ := andE_ok.1 h
    cases h1
    exact (head_good headB).bindCut (x := ()) trivial rfl he hd fun c2 hc => (cnt_good code_good 1000).cut p a2 c2 d ho h2 hc hd
  inv := fun l p r h => by
    obtain ⟨u, l', h1, h2⟩ := bindP_inv h
    obtain ⟨_, a1, f1, rfl⟩ := (head_good headB).inv _ _ _ h1
    obtain ⟨o2, a2, f2, rfl⟩ := (cnt_good code_good 1000).inv _ _ _ h2
    cases f1
    exact ⟨o2, headB ++ a2, andE_ok.2 ⟨_, _, rfl, f2, rfl⟩, by rw [List.append_assoc]⟩
  err := fun l e h => by
    rcases bindP_err h with h | ⟨_, _, _, h⟩
    · exact (head_good headB).err _ _ h
    · exact (cnt_good code_good 1000).err _ _ h
theorem dec_back {p : List CodeD} {a : List UInt8} (ho : ∀ c ∈ p, c.Ok) (h : encE p = .ok a) : decE a = .ok p := by
  have := prog_good.back p a [] ho h
  rw [List.append_nil] at this
  rw [decE, this]
  rfl
theorem dec_cut {p : List CodeD} {a c d : List UInt8} (ho : ∀ c ∈ p, c.Ok) (h : encE p = .ok a) (he : a = c ++ d) (hd : d ≠ []) : decE c = .error 50 := by
  rw [decE, prog_good.cut p a c d ho h he hd]
theorem dec_more {p : List CodeD} {a d : List UInt8} (ho : ∀ c ∈ p, c.Ok) (h : encE p = .ok a) (hd : d ≠ []) : decE (a ++ d) = .error 50 := by
  rw [decE, prog_good.back p a d ho h]
  exact if_neg hd
theorem dec_inv {p : List CodeD} {l : List UInt8} (h : decE l = .ok p) : (∀ c ∈ p, c.Ok) ∧ encE p = .ok l := by
  unfold decE at h
  cases hp : progP l with
  | error e => rw [hp] at h; cases h
  | ok v =>
    obtain ⟨q, r⟩ := v
    rw [hp] at h
    simp only at h
    split at h
    · rename_i hr
      cases h
      subst hr
      obtain ⟨h1, a, h2, h3⟩ := prog_good.inv _ _ _ hp
      rw [List.append_nil] at h3
      subst h3
      exact ⟨h1, h2⟩
    · cases h
theorem dec_err {l : List UInt8} {e : Int} (h : decE l = .error e) : e = 50 ∨ e = 2 := by
  unfold decE at h
  cases hp : progP l with
  | error e' => rw [hp] at h; cases h; exact prog_good.err _ _ hp
  | ok v =>
    obtain ⟨q, r⟩ := v
    rw [hp] at h
    simp only at h
    split at h
    · cases h
    · cases h; exact .inl rfl
end Go.Proofs.YtcfelfhjhkenaaaDoor
