/- ExpressLambdas: the walk. -/
import Derived.Test.YtjdcicopjipmnaaDoorTap
import Derived.Test.YtjdcicopjipmnaaDoorLmp
namespace Go.Proofs.YtjdcicopjipmnaaDoor
open Go.RowKit
set_option linter.unusedVariables false
set_option linter.unusedSimpArgs false
/-- told, what it tells said outright -/
theorem told_is {w : World} {A : Option Addr} {n c : Nat} {L : List TokD} {r : PS × Int} {a b e : Int} {T : List NodeD} {m : Nat} (hm : T.length = m) (hr : parsed L = some r) (ha : nodeOf r = a) (hb : usedOf r = b) (he : r.1.e = e) (hT : treeOf r.1.ns = T) (hl : Rd w A n c 4 (L.flatMap tcs)) (hla : ∀ b o, A = some ⟨b, o, none⟩ → b < w.heap.size) (hn : L.length = n) (hbig : n ≤ 274877906944)
    (hts : ∀ t ∈ L, t.s.size ≤ maxLen) (htab : Asp w) :
    Calls Tryd.prog 16 #[.slice A n c] w fun e' w' => ∃ A9 c9, e' = .returned (.agg #[.int .i64 a, .int .i64 b, .int .i64 e, .slice A9 m c9]) ∧ RowN (fun _ => False) w' (.slice A9 m c9) T ∧ Below w.heap.size w w' := by
  subst ha hb he hT hm
  refine (told_any hl hla hn hbig hts htab hr).mono ?_
  rintro e' w' ⟨v, rfl, h1, h2⟩
  obtain ⟨A9, c9, rfl, _⟩ := h1.rdT
  exact ⟨A9, c9, rfl, h1, h2⟩
theorem and1 : ∀ x : Nat, x < 256 → (bits BinOp.and IntKind.u8 (x : Int) 1 == 1) = decide (x % 2 = 1) := by decide +kernel
theorem bit_walk (b i : Nat) (hb : b < 256) : (bits BinOp.and IntKind.u8 ((b : Int) / 2 ^ i) 1 == 1) = bitN b i := by
  have e : ((b : Int) / 2 ^ i) = ((b / 2 ^ i : Nat) : Int) := by
    rw [Int.natCast_ediv]
    congr 1
  rw [e, and1 _ (Nat.lt_of_le_of_lt (Nat.div_le_self _ _) hb)]
  rfl
theorem lamS_next {b i : Nat} {L : List TokD} {late : Bool} {wg : Int} {wi : Nat} (h : lamS b i = (L, late, wg, wi)) : lamS b (i + 1) = if bitN b i then ((if 0 < i then L ++ [signT gComma] else L) ++ [wordT kP, signT gEq, numT i], true, wg, wi + 1)
    else ((if 0 < i then L ++ [signT gComma] else L) ++ [wordT kP], late, if late = true ∧ wg < 0 then ((if 0 < i then L ++ [signT gComma] else L).length : Int) else wg, wi) := by
  rw [lamS, h]
theorem lamS_small (b : Nat) : ∀ i, ∀ t ∈ (lamS b i).1, t.s.size ≤ 100
  | 0 => by intro t ht; simp only [lamS, List.mem_singleton] at ht; rw [ht]; decide
  | i + 1 => by
    have ih := lamS_small b i
    obtain ⟨⟨L, late, wg, wi⟩, h⟩ : ∃ s, lamS b i = s := ⟨_, rfl⟩
    rw [h] at ih
    rw [lamS_next h]
    simp only at ih ⊢
    intro t ht
    have hL : ∀ t ∈ (if 0 < i then L ++ [signT gComma] else L), t.s.size ≤ 100 := by
      intro t ht
      split at ht
      · rcases List.mem_append.1 ht with h1 | h1
        · exact ih t h1
        · rw [List.mem_singleton.1 h1]; decide
      · exact ih t ht
    split at ht
    · rcases List.mem_append.1 ht with h1 | h1
      · exact hL t h1
      · simp only [List.mem_cons, List.not_mem_nil, or_false] at h1
        rcases h1 with rfl | rfl | rfl
        · decide
        · decide
        · exact Nat.zero_le _
    · rcases List.mem_append.1 ht with h1 | h1
      · exact hL t h1
      · rw [List.mem_singleton.1 h1]; decide
theorem lam_small (b n : Nat) : ∀ t ∈ lamL b n, t.s.size ≤ maxLen := by
  intro t ht
  unfold lamL at ht
  rcases List.mem_append.1 ht with h1 | h1
  · exact sml (lamS_small b n t h1)
  · simp only [List.mem_cons, List.not_mem_nil, or_false] at h1
    rcases h1 with rfl | rfl | rfl | rfl | rfl | rfl | rfl | rfl <;> exact sml (by decide)
theorem lamS_len (b : Nat) : ∀ i, (lamS b i).1.length ≤ 4 * i + 1
  | 0 => by simp [lamS]
  | i + 1 => by
    have ih := lamS_len b i
    obtain ⟨⟨L, late, wg, wi⟩, h⟩ : ∃ s, lamS b i = s := ⟨_, rfl⟩
    rw [h] at ih
    rw [lamS_next h]
    simp only at ih ⊢
    split <;> split <;> simp <;> omega
set_option maxRecDepth 100000 in
set_option maxHeartbeats 2000000 in
theorem lambdas_walk (b n : Nat) (hb : b < 256) (hn : n < 256) (w : World) (htab : Asp w) : Calls Tryd.prog 12 #[.int .u8 b, .int .u8 n] w fun e w' => e = .returned (.bool true) ∧ Below w.heap.size w w' := by
  have HT := Lib.hid htab
  clear htab
  go_enter Tryd.func12, Tryd.ntmps12
  go_wp2_with (first | (go_at_call 14; go_must (refine (shown_any _ HT.out).mono ?_); rintro e w1 ⟨rfl, hb1⟩; have HB := Lib.hid hb1; have hsz := hb1.size; clear hb1) | (go_at_call 26; go_must (refine (word4_any _ _).mono ?_); rintro e w2 ⟨rfl, hb2⟩; replace HB := Lib.hid (HB.out.trans (hb2.mono HB.out.size)); clear hsz; have hsz := HB.out.size; clear hb2))
  rw [show ((n : Int) % 9) = ((n % 9 : Nat) : Int) from by omega]
  have hm8 : n % 9 ≤ 8 := by omega
  generalize n % 9 = m at *
  have H0 : Hid (NewT w (w2.alloc (.cells #[.int .i64 1, .int .i64 0, .string ⟨#[108, 97, 109, 98, 100, 97]⟩, .int .i64 0] 39)) (.slice (some ⟨w2.heap.size, 0, none⟩) 1 1) [wordT kLambda]) := Lib.hid ⟨OwnT.made w2 [wordT kLambda] _ 1 rfl rfl (by omega), fun b e => by have e2 : w2.heap.size = b := (by simpa [Value.ownBlock] using e); omega, (by have := HB.out; exact (by repeat (first | exact Below.refl _ _ | assumption | refine Below.setCell ?_ (by first | (simp; done) | (simp; omega) | omega) _ | refine below_drewN ?_ _ | refine Below.drew ?_ | refine Below.alloc ?_ (by first | (simp; done) | (simp; omega) | omega) _)))⟩
  clear HB hsz
  go_loopw [7, 8, 9, 10, 11] (fun v7 v8 v9 v10 v11 wr => ∃ (i : Nat) (A : Option Addr) (c : Nat) (L : List TokD) (late : Bool) (wg : Int) (wi : Nat), i ≤ m ∧ v11 = .int .i64 i ∧ v7 = .slice A L.length c ∧ v8 = .bool late ∧ v9 = .int .i64 wg ∧ v10 = .int .i64 wi ∧ Hid (lamS b i = (L, late, wg, wi)) ∧ Hid (NewT w wr (.slice A L.length c) L) ∧ L.length ≤ 4 * i + 1 ∧ wi ≤ i) (fun _ _ _ _ v11 _ => m - (intOf v11).toNat)
  case atStart => exact ⟨0, _, 1, [wordT kLambda], false, -1, 0, Nat.zero_le _, rfl, rfl, rfl, rfl, rfl, Lib.hid rfl, H0, by simp, by omega⟩
  case round =>
    obtain ⟨i, A, c, L, late, wg, wi, hi, rfl, rfl, rfl, rfl, rfl, HS, HN, hL, hwi⟩ := hrel
    clear H0
    by_cases hlt : i < m
    · by_cases hi0 : 0 < i
      · skip
        cases hbt : bitN b i with
        | true =>
          have HBT := Lib.hid hbt
          have hbw := (bit_walk b i hb).trans hbt
          clear hbt
          have HM1 := Lib.hid True.intro
          have HM2 := Lib.hid True.intro
          go_wp2_with (first | (go_at_call 21; go_must (refine (sign_any _ _).mono ?_); rintro e w3 ⟨rfl, hb3⟩; replace HN := Lib.hid (HN.out.move hb3); clear hb3) | (go_at_call 26; go_must (refine (word4_any _ _).mono ?_); rintro e w3 ⟨rfl, hb3⟩; replace HN := Lib.hid (HN.out.move hb3); clear hb3) | (go_at_call 23; go_must (refine (num_any _ _).mono ?_); rintro e w3 ⟨rfl, hb3⟩; replace HN := Lib.hid (HN.out.move hb3); clear hb3) | (at_builtin; go_must (first | (have hmk := HM1.out; clear HM1 hmk; refine wpList_appendT _ rfl _ _ rfl (.slice A L.length c) L rfl (Own.new HN.out.own (Below.alloc (Below.refl _ _) (Nat.le_refl _) _)) _ 1 1 [signT gComma] rfl (Rd.toks _ [signT gComma] _ 1 rfl rfl (by omega)) rfl (by omega) ?_; intro v6 w6 ho6 hg6 hn6; generalize hG : L ++ [signT gComma] = G1 at ho6; obtain ⟨A1, c1, rfl, -, -⟩ := Own.rd ho6; have HG1 := Lib.hid hG; have HlG1 := Lib.hid (show G1.length = L.length + 1 from (by rw [← hG, List.length_append]; rfl)); replace HN := Lib.hid (HN.out.app (Below.alloc (Below.refl _ _) (Nat.le_refl _) _) ho6 hg6 hn6); clear hG ho6 hg6 hn6) | (have hmk := HM2.out; clear HM2 hmk; refine wpList_appendT _ rfl _ _ rfl (.slice A1 G1.length c1) G1 rfl (Own.new HN.out.own (Below.alloc (Below.refl _ _) (Nat.le_refl _) _)) _ 3 3 [wordT kP, signT gEq, numT i] rfl (Rd.toks _ [wordT kP, signT gEq, numT i] _ 3 rfl rfl (by have hb1 := HlG1.out; omega)) rfl (by have hb1 := HlG1.out; omega) ?_; intro v6 w6 ho6 hg6 hn6; generalize hG : G1 ++ [wordT kP, signT gEq, numT i] = G2 at ho6; obtain ⟨A2, c2, rfl, -, -⟩ := Own.rd ho6; have HG2 := Lib.hid hG; have HlG2 := Lib.hid (show G2.length = G1.length + 3 from (by rw [← hG, List.length_append]; rfl)); replace HN := Lib.hid (HN.out.app (Below.alloc (Below.refl _ _) (Nat.le_refl _) _) ho6 hg6 hn6); clear hG ho6 hg6 hn6))))
          go_round
          case rel =>
            have E := lamS_next HS.out
            rw [HBT.out] at E
            rw [if_pos rfl] at E
            rw [if_pos hi0] at E
            rw [HG1.out] at E
            have hg2 := HG2.out
            have hl2 := HlG2.out
            have hl1 := HlG1.out
            exact ⟨i + 1, A2, c2, G2, true, wg, wi + 1, by omega, by go_num, rfl, rfl, rfl, by go_num, Lib.hid (by rw [E, ← hg2]), HN, by omega, by omega⟩
          case measure => simp [intOf]; omega
        | false =>
          have HBT := Lib.hid hbt
          have hbw := (bit_walk b i hb).trans hbt
          clear hbt
          cases late with
          | true =>
            by_cases hwg : wg < 0
            · have dwg : decide (wg < 0) = true := decide_eq_true hwg
              have HM1 := Lib.hid True.intro
              have HM2 := Lib.hid True.intro
              go_wp2_with (first | (go_at_call 21; go_must (refine (sign_any _ _).mono ?_); rintro e w3 ⟨rfl, hb3⟩; replace HN := Lib.hid (HN.out.move hb3); clear hb3) | (go_at_call 26; go_must (refine (word4_any _ _).mono ?_); rintro e w3 ⟨rfl, hb3⟩; replace HN := Lib.hid (HN.out.move hb3); clear hb3) | (go_at_call 23; go_must (refine (num_any _ _).mono ?_); rintro e w3 ⟨rfl, hb3⟩; replace HN := Lib.hid (HN.out.move hb3); clear hb3) | (at_builtin; go_must (first | (have hmk := HM1.out; clear HM1 hmk; refine wpList_appendT _ rfl _ _ rfl (.slice A L.length c) L rfl (Own.new HN.out.own (Below.alloc (Below.refl _ _) (Nat.le_refl _) _)) _ 1 1 [signT gComma] rfl (Rd.toks _ [signT gComma] _ 1 rfl rfl (by omega)) rfl (by omega) ?_; intro v6 w6 ho6 hg6 hn6; generalize hG : L ++ [signT gComma] = G1 at ho6; obtain ⟨A1, c1, rfl, -, -⟩ := Own.rd ho6; have HG1 := Lib.hid hG; have HlG1 := Lib.hid (show G1.length = L.length + 1 from (by rw [← hG, List.length_append]; rfl)); replace HN := Lib.hid (HN.out.app (Below.alloc (Below.refl _ _) (Nat.le_refl _) _) ho6 hg6 hn6); clear hG ho6 hg6 hn6) | (have hmk := HM2.out; clear HM2 hmk; refine wpList_appendT _ rfl _ _ rfl (.slice A1 G1.length c1) G1 rfl (Own.new HN.out.own (Below.alloc (Below.refl _ _) (Nat.le_refl _) _)) _ 1 1 [wordT kP] rfl (Rd.toks _ [wordT kP] _ 1 rfl rfl (by have hb1 := HlG1.out; omega)) rfl (by have hb1 := HlG1.out; omega) ?_; intro v6 w6 ho6 hg6 hn6; generalize hG : G1 ++ [wordT kP] = G2 at ho6; obtain ⟨A2, c2, rfl, -, -⟩ := Own.rd ho6; have HG2 := Lib.hid hG; have HlG2 := Lib.hid (show G2.length = G1.length + 1 from (by rw [← hG, List.length_append]; rfl)); replace HN := Lib.hid (HN.out.app (Below.alloc (Below.refl _ _) (Nat.le_refl _) _) ho6 hg6 hn6); clear hG ho6 hg6 hn6))))
              go_round
              case rel =>
                have E := lamS_next HS.out
                rw [HBT.out] at E
                rw [if_neg Bool.false_ne_true] at E
                rw [if_pos hi0] at E
                rw [HG1.out] at E
                rw [if_pos ⟨rfl, hwg⟩] at E
                have hg2 := HG2.out
                have hl2 := HlG2.out
                have hl1 := HlG1.out
                exact ⟨i + 1, A2, c2, G2, true, (G1.length : Int), wi, by omega, by go_num, rfl, rfl, rfl, by rfl, Lib.hid (by rw [E, ← hg2]), HN, by omega, by omega⟩
              case measure => simp [intOf]; omega
            · have dwg : decide (wg < 0) = false := decide_eq_false hwg
              have HM1 := Lib.hid True.intro
              have HM2 := Lib.hid True.intro
              go_wp2_with (first | (go_at_call 21; go_must (refine (sign_any _ _).mono ?_); rintro e w3 ⟨rfl, hb3⟩; replace HN := Lib.hid (HN.out.move hb3); clear hb3) | (go_at_call 26; go_must (refine (word4_any _ _).mono ?_); rintro e w3 ⟨rfl, hb3⟩; replace HN := Lib.hid (HN.out.move hb3); clear hb3) | (go_at_call 23; go_must (refine (num_any _ _).mono ?_); rintro e w3 ⟨rfl, hb3⟩; replace HN := Lib.hid (HN.out.move hb3); clear hb3) | (at_builtin; go_must (first | (have hmk := HM1.out; clear HM1 hmk; refine wpList_appendT _ rfl _ _ rfl (.slice A L.length c) L rfl (Own.new HN.out.own (Below.alloc (Below.refl _ _) (Nat.le_refl _) _)) _ 1 1 [signT gComma] rfl (Rd.toks _ [signT gComma] _ 1 rfl rfl (by omega)) rfl (by omega) ?_; intro v6 w6 ho6 hg6 hn6; generalize hG : L ++ [signT gComma] = G1 at ho6; obtain ⟨A1, c1, rfl, -, -⟩ := Own.rd ho6; have HG1 := Lib.hid hG; have HlG1 := Lib.hid (show G1.length = L.length + 1 from (by rw [← hG, List.length_append]; rfl)); replace HN := Lib.hid (HN.out.app (Below.alloc (Below.refl _ _) (Nat.le_refl _) _) ho6 hg6 hn6); clear hG ho6 hg6 hn6) | (have hmk := HM2.out; clear HM2 hmk; refine wpList_appendT _ rfl _ _ rfl (.slice A1 G1.length c1) G1 rfl (Own.new HN.out.own (Below.alloc (Below.refl _ _) (Nat.le_refl _) _)) _ 1 1 [wordT kP] rfl (Rd.toks _ [wordT kP] _ 1 rfl rfl (by have hb1 := HlG1.out; omega)) rfl (by have hb1 := HlG1.out; omega) ?_; intro v6 w6 ho6 hg6 hn6; generalize hG : G1 ++ [wordT kP] = G2 at ho6; obtain ⟨A2, c2, rfl, -, -⟩ := Own.rd ho6; have HG2 := Lib.hid hG; have HlG2 := Lib.hid (show G2.length = G1.length + 1 from (by rw [← hG, List.length_append]; rfl)); replace HN := Lib.hid (HN.out.app (Below.alloc (Below.refl _ _) (Nat.le_refl _) _) ho6 hg6 hn6); clear hG ho6 hg6 hn6))))
              go_round
              case rel =>
                have E := lamS_next HS.out
                rw [HBT.out] at E
                rw [if_neg Bool.false_ne_true] at E
                rw [if_pos hi0] at E
                rw [HG1.out] at E
                rw [if_neg (fun h => by have := h.2; omega)] at E
                have hg2 := HG2.out
                have hl2 := HlG2.out
                have hl1 := HlG1.out
                exact ⟨i + 1, A2, c2, G2, true, wg, wi, by omega, by go_num, rfl, rfl, rfl, by rfl, Lib.hid (by rw [E, ← hg2]), HN, by omega, by omega⟩
              case measure => simp [intOf]; omega
          | false =>
            have HM1 := Lib.hid True.intro
            have HM2 := Lib.hid True.intro
            go_wp2_with (first | (go_at_call 21; go_must (refine (sign_any _ _).mono ?_); rintro e w3 ⟨rfl, hb3⟩; replace HN := Lib.hid (HN.out.move hb3); clear hb3) | (go_at_call 26; go_must (refine (word4_any _ _).mono ?_); rintro e w3 ⟨rfl, hb3⟩; replace HN := Lib.hid (HN.out.move hb3); clear hb3) | (go_at_call 23; go_must (refine (num_any _ _).mono ?_); rintro e w3 ⟨rfl, hb3⟩; replace HN := Lib.hid (HN.out.move hb3); clear hb3) | (at_builtin; go_must (first | (have hmk := HM1.out; clear HM1 hmk; refine wpList_appendT _ rfl _ _ rfl (.slice A L.length c) L rfl (Own.new HN.out.own (Below.alloc (Below.refl _ _) (Nat.le_refl _) _)) _ 1 1 [signT gComma] rfl (Rd.toks _ [signT gComma] _ 1 rfl rfl (by omega)) rfl (by omega) ?_; intro v6 w6 ho6 hg6 hn6; generalize hG : L ++ [signT gComma] = G1 at ho6; obtain ⟨A1, c1, rfl, -, -⟩ := Own.rd ho6; have HG1 := Lib.hid hG; have HlG1 := Lib.hid (show G1.length = L.length + 1 from (by rw [← hG, List.length_append]; rfl)); replace HN := Lib.hid (HN.out.app (Below.alloc (Below.refl _ _) (Nat.le_refl _) _) ho6 hg6 hn6); clear hG ho6 hg6 hn6) | (have hmk := HM2.out; clear HM2 hmk; refine wpList_appendT _ rfl _ _ rfl (.slice A1 G1.length c1) G1 rfl (Own.new HN.out.own (Below.alloc (Below.refl _ _) (Nat.le_refl _) _)) _ 1 1 [wordT kP] rfl (Rd.toks _ [wordT kP] _ 1 rfl rfl (by have hb1 := HlG1.out; omega)) rfl (by have hb1 := HlG1.out; omega) ?_; intro v6 w6 ho6 hg6 hn6; generalize hG : G1 ++ [wordT kP] = G2 at ho6; obtain ⟨A2, c2, rfl, -, -⟩ := Own.rd ho6; have HG2 := Lib.hid hG; have HlG2 := Lib.hid (show G2.length = G1.length + 1 from (by rw [← hG, List.length_append]; rfl)); replace HN := Lib.hid (HN.out.app (Below.alloc (Below.refl _ _) (Nat.le_refl _) _) ho6 hg6 hn6); clear hG ho6 hg6 hn6))))
            go_round
            case rel =>
              have E := lamS_next HS.out
              rw [HBT.out] at E
              rw [if_neg Bool.false_ne_true] at E
              rw [if_pos hi0] at E
              rw [HG1.out] at E
              rw [if_neg (fun h => by cases h.1)] at E
              have hg2 := HG2.out
              have hl2 := HlG2.out
              have hl1 := HlG1.out
              exact ⟨i + 1, A2, c2, G2, false, wg, wi, by omega, by go_num, rfl, rfl, rfl, by rfl, Lib.hid (by rw [E, ← hg2]), HN, by omega, by omega⟩
            case measure => simp [intOf]; omega
      · skip
        cases hbt : bitN b i with
        | true =>
          have HBT := Lib.hid hbt
          have hbw := (bit_walk b i hb).trans hbt
          clear hbt
          have HM2 := Lib.hid True.intro
          go_wp2_with (first | (go_at_call 21; go_must (refine (sign_any _ _).mono ?_); rintro e w3 ⟨rfl, hb3⟩; replace HN := Lib.hid (HN.out.move hb3); clear hb3) | (go_at_call 26; go_must (refine (word4_any _ _).mono ?_); rintro e w3 ⟨rfl, hb3⟩; replace HN := Lib.hid (HN.out.move hb3); clear hb3) | (go_at_call 23; go_must (refine (num_any _ _).mono ?_); rintro e w3 ⟨rfl, hb3⟩; replace HN := Lib.hid (HN.out.move hb3); clear hb3) | (at_builtin; go_must (first | (have hmk := HM2.out; clear HM2 hmk; refine wpList_appendT _ rfl _ _ rfl (.slice A L.length c) L rfl (Own.new HN.out.own (Below.alloc (Below.refl _ _) (Nat.le_refl _) _)) _ 3 3 [wordT kP, signT gEq, numT i] rfl (Rd.toks _ [wordT kP, signT gEq, numT i] _ 3 rfl rfl (by omega)) rfl (by omega) ?_; intro v6 w6 ho6 hg6 hn6; generalize hG : L ++ [wordT kP, signT gEq, numT i] = G2 at ho6; obtain ⟨A2, c2, rfl, -, -⟩ := Own.rd ho6; have HG2 := Lib.hid hG; have HlG2 := Lib.hid (show G2.length = L.length + 3 from (by rw [← hG, List.length_append]; rfl)); replace HN := Lib.hid (HN.out.app (Below.alloc (Below.refl _ _) (Nat.le_refl _) _) ho6 hg6 hn6); clear hG ho6 hg6 hn6))))
          go_round
          case rel =>
            have E := lamS_next HS.out
            rw [HBT.out] at E
            rw [if_pos rfl] at E
            rw [if_neg hi0] at E
            have hg2 := HG2.out
            have hl2 := HlG2.out

            exact ⟨i + 1, A2, c2, G2, true, wg, wi + 1, by omega, by go_num, rfl, rfl, rfl, by go_num, Lib.hid (by rw [E, ← hg2]), HN, by omega, by omega⟩
          case measure => simp [intOf]; omega
        | false =>
          have HBT := Lib.hid hbt
          have hbw := (bit_walk b i hb).trans hbt
          clear hbt
          cases late with
          | true =>
            by_cases hwg : wg < 0
            · have dwg : decide (wg < 0) = true := decide_eq_true hwg
              have HM2 := Lib.hid True.intro
              go_wp2_with (first | (go_at_call 21; go_must (refine (sign_any _ _).mono ?_); rintro e w3 ⟨rfl, hb3⟩; replace HN := Lib.hid (HN.out.move hb3); clear hb3) | (go_at_call 26; go_must (refine (word4_any _ _).mono ?_); rintro e w3 ⟨rfl, hb3⟩; replace HN := Lib.hid (HN.out.move hb3); clear hb3) | (go_at_call 23; go_must (refine (num_any _ _).mono ?_); rintro e w3 ⟨rfl, hb3⟩; replace HN := Lib.hid (HN.out.move hb3); clear hb3) | (at_builtin; go_must (first | (have hmk := HM2.out; clear HM2 hmk; refine wpList_appendT _ rfl _ _ rfl (.slice A L.length c) L rfl (Own.new HN.out.own (Below.alloc (Below.refl _ _) (Nat.le_refl _) _)) _ 1 1 [wordT kP] rfl (Rd.toks _ [wordT kP] _ 1 rfl rfl (by omega)) rfl (by omega) ?_; intro v6 w6 ho6 hg6 hn6; generalize hG : L ++ [wordT kP] = G2 at ho6; obtain ⟨A2, c2, rfl, -, -⟩ := Own.rd ho6; have HG2 := Lib.hid hG; have HlG2 := Lib.hid (show G2.length = L.length + 1 from (by rw [← hG, List.length_append]; rfl)); replace HN := Lib.hid (HN.out.app (Below.alloc (Below.refl _ _) (Nat.le_refl _) _) ho6 hg6 hn6); clear hG ho6 hg6 hn6))))
              go_round
              case rel =>
                have E := lamS_next HS.out
                rw [HBT.out] at E
                rw [if_neg Bool.false_ne_true] at E
                rw [if_neg hi0] at E
                rw [if_pos ⟨rfl, hwg⟩] at E
                have hg2 := HG2.out
                have hl2 := HlG2.out

                exact ⟨i + 1, A2, c2, G2, true, (L.length : Int), wi, by omega, by go_num, rfl, rfl, rfl, by rfl, Lib.hid (by rw [E, ← hg2]), HN, by omega, by omega⟩
              case measure => simp [intOf]; omega
            · have dwg : decide (wg < 0) = false := decide_eq_false hwg
              have HM2 := Lib.hid True.intro
              go_wp2_with (first | (go_at_call 21; go_must (refine (sign_any _ _).mono ?_); rintro e w3 ⟨rfl, hb3⟩; replace HN := Lib.hid (HN.out.move hb3); clear hb3) | (go_at_call 26; go_must (refine (word4_any _ _).mono ?_); rintro e w3 ⟨rfl, hb3⟩; replace HN := Lib.hid (HN.out.move hb3); clear hb3) | (go_at_call 23; go_must (refine (num_any _ _).mono ?_); rintro e w3 ⟨rfl, hb3⟩; replace HN := Lib.hid (HN.out.move hb3); clear hb3) | (at_builtin; go_must (first | (have hmk := HM2.out; clear HM2 hmk; refine wpList_appendT _ rfl _ _ rfl (.slice A L.length c) L rfl (Own.new HN.out.own (Below.alloc (Below.refl _ _) (Nat.le_refl _) _)) _ 1 1 [wordT kP] rfl (Rd.toks _ [wordT kP] _ 1 rfl rfl (by omega)) rfl (by omega) ?_; intro v6 w6 ho6 hg6 hn6; generalize hG : L ++ [wordT kP] = G2 at ho6; obtain ⟨A2, c2, rfl, -, -⟩ := Own.rd ho6; have HG2 := Lib.hid hG; have HlG2 := Lib.hid (show G2.length = L.length + 1 from (by rw [← hG, List.length_append]; rfl)); replace HN := Lib.hid (HN.out.app (Below.alloc (Below.refl _ _) (Nat.le_refl _) _) ho6 hg6 hn6); clear hG ho6 hg6 hn6))))
              go_round
              case rel =>
                have E := lamS_next HS.out
                rw [HBT.out] at E
                rw [if_neg Bool.false_ne_true] at E
                rw [if_neg hi0] at E
                rw [if_neg (fun h => by have := h.2; omega)] at E
                have hg2 := HG2.out
                have hl2 := HlG2.out

                exact ⟨i + 1, A2, c2, G2, true, wg, wi, by omega, by go_num, rfl, rfl, rfl, by rfl, Lib.hid (by rw [E, ← hg2]), HN, by omega, by omega⟩
              case measure => simp [intOf]; omega
          | false =>
            have HM2 := Lib.hid True.intro
            go_wp2_with (first | (go_at_call 21; go_must (refine (sign_any _ _).mono ?_); rintro e w3 ⟨rfl, hb3⟩; replace HN := Lib.hid (HN.out.move hb3); clear hb3) | (go_at_call 26; go_must (refine (word4_any _ _).mono ?_); rintro e w3 ⟨rfl, hb3⟩; replace HN := Lib.hid (HN.out.move hb3); clear hb3) | (go_at_call 23; go_must (refine (num_any _ _).mono ?_); rintro e w3 ⟨rfl, hb3⟩; replace HN := Lib.hid (HN.out.move hb3); clear hb3) | (at_builtin; go_must (first | (have hmk := HM2.out; clear HM2 hmk; refine wpList_appendT _ rfl _ _ rfl (.slice A L.length c) L rfl (Own.new HN.out.own (Below.alloc (Below.refl _ _) (Nat.le_refl _) _)) _ 1 1 [wordT kP] rfl (Rd.toks _ [wordT kP] _ 1 rfl rfl (by omega)) rfl (by omega) ?_; intro v6 w6 ho6 hg6 hn6; generalize hG : L ++ [wordT kP] = G2 at ho6; obtain ⟨A2, c2, rfl, -, -⟩ := Own.rd ho6; have HG2 := Lib.hid hG; have HlG2 := Lib.hid (show G2.length = L.length + 1 from (by rw [← hG, List.length_append]; rfl)); replace HN := Lib.hid (HN.out.app (Below.alloc (Below.refl _ _) (Nat.le_refl _) _) ho6 hg6 hn6); clear hG ho6 hg6 hn6))))
            go_round
            case rel =>
              have E := lamS_next HS.out
              rw [HBT.out] at E
              rw [if_neg Bool.false_ne_true] at E
              rw [if_neg hi0] at E
              rw [if_neg (fun h => by cases h.1)] at E
              have hg2 := HG2.out
              have hl2 := HlG2.out

              exact ⟨i + 1, A2, c2, G2, false, wg, wi, by omega, by go_num, rfl, rfl, rfl, by rfl, Lib.hid (by rw [E, ← hg2]), HN, by omega, by omega⟩
            case measure => simp [intOf]; omega
    · obtain rfl : i = m := by omega
      obtain ⟨r, hr⟩ := exprE_start (lamL b i)
      have hok := lam_ok b i hm8
      unfold lamOk at hok
      rw [show parsed (lamL b i) = some r from hr] at hok
      simp only at hok
      have hLL : lamL b i = L ++ [signT gColon, wordT kP, wordT kIf, wordT kP, wordT kElse, wordT kLambda, signT gColon, numT 1] := by unfold lamL; rw [HS.out]
      rw [HS.out] at hok
      simp only at hok
      have HR : Hid (parsed (L ++ [signT gColon, wordT kP, wordT kIf, wordT kP, wordT kElse, wordT kLambda, signT gColon, numT 1]) = some r) := Lib.hid (by rw [← hLL]; exact hr)
      rw [hLL] at hok
      have HSM : Hid (∀ t ∈ L ++ [signT gColon, wordT kP, wordT kIf, wordT kP, wordT kElse, wordT kLambda, signT gColon, numT 1], t.s.size ≤ maxLen) := Lib.hid (by rw [← hLL]; exact lam_small b i)
      have HM2 := Lib.hid True.intro
      clear hr hLL
      by_cases hw0 : 0 ≤ wg
      · rw [if_pos hw0] at hok
        simp only [Bool.and_eq_true, decide_eq_true_eq] at hok
        obtain ⟨⟨h1, h2⟩, h3⟩ := hok
        have dw0 : decide (0 ≤ wg) = true := decide_eq_true hw0
        have H1 := Lib.hid (And.intro h1 (And.intro h2 h3))
        clear h1 h2 h3
        go_wp2_with (first | (go_at_call 21; go_must (refine (sign_any _ _).mono ?_); rintro e w3 ⟨rfl, hb3⟩; replace HN := Lib.hid (HN.out.move hb3); clear hb3) | (go_at_call 26; go_must (refine (word4_any _ _).mono ?_); rintro e w3 ⟨rfl, hb3⟩; replace HN := Lib.hid (HN.out.move hb3); clear hb3) | (go_at_call 23; go_must (refine (num_any _ _).mono ?_); rintro e w3 ⟨rfl, hb3⟩; replace HN := Lib.hid (HN.out.move hb3); clear hb3) | (at_builtin; go_must ((have hmk := HM2.out; clear HM2 hmk; refine wpList_appendT _ rfl _ _ rfl (.slice A L.length c) L rfl (Own.new HN.out.own (Below.alloc (Below.refl _ _) (Nat.le_refl _) _)) _ 8 8 [signT gColon, wordT kP, wordT kIf, wordT kP, wordT kElse, wordT kLambda, signT gColon, numT 1] rfl (Rd.toks _ [signT gColon, wordT kP, wordT kIf, wordT kP, wordT kElse, wordT kLambda, signT gColon, numT 1] _ 8 rfl rfl (by omega)) rfl (by omega) ?_; intro v6 w6 ho6 hg6 hn6; generalize hG : L ++ [signT gColon, wordT kP, wordT kIf, wordT kP, wordT kElse, wordT kLambda, signT gColon, numT 1] = G2 at ho6; obtain ⟨A2, c2, rfl, -, -⟩ := Own.rd ho6; have HG2 := Lib.hid hG; have HlG2 := Lib.hid (show G2.length = L.length + 8 from (by rw [← hG, List.length_append]; rfl)); replace HN := Lib.hid (HN.out.app (Below.alloc (Below.refl _ _) (Nat.le_refl _) _) ho6 hg6 hn6); clear hG ho6 hg6 hn6))) | (go_at_call 16; have hb9 := HN.out.bel; have hrd := HN.out.own; obtain ⟨Aq, cq, eq, hrq, hAq⟩ := Own.rd hrd; injection eq with e1 e2 e3; subst e1 e3; go_must (refine (told_is (m := (treeOf r.1.ns).length) (hm := rfl) (by rw [← HG2.out]; exact HR.out) H1.out.2.2 H1.out.2.1 H1.out.1 rfl hrq (fun b o e => Own.lt hrd (hAq b o e)) rfl (by have hl2 := HlG2.out; omega) (by rw [← HG2.out]; exact HSM.out) (HT.out.below hb9)).mono ?_); rintro e w8 ⟨A9, c9, rfl, hrn, hbn⟩; have HB := Lib.hid (hb9.trans (hbn.mono hb9.size)); clear hrn hbn hb9 hrd hrq hAq))
        go_ret
        exact ⟨rfl, by have := HB.out; have hsz := HB.out.size; exact (by repeat (first | exact Below.refl _ _ | assumption | refine Below.setCell ?_ (by first | (simp; done) | (simp; omega) | omega) _ | refine below_drewN ?_ _ | refine Below.drew ?_ | refine Below.alloc ?_ (by first | (simp; done) | (simp; omega) | omega) _))⟩
      · rw [if_neg hw0] at hok
        simp only [Bool.and_eq_true, decide_eq_true_eq] at hok
        obtain ⟨⟨⟨h1, h2⟩, h3⟩, h4⟩ := hok
        have dw0 : decide (0 ≤ wg) = false := decide_eq_false hw0
        generalize hT : treeOf r.1.ns = T at *
        obtain ⟨x, y, hx, hy, h5, h6, h7⟩ : ∃ x y, T[T.length - 1]? = some x ∧ T[T.length - 2]? = some y ∧ x.op = 21 ∧ x.kids.length = i + 1 ∧ y.op = 16 := by
          split at h4
          · rename_i x y hx hy
            simp only [Bool.and_eq_true, decide_eq_true_eq] at h4
            exact ⟨x, y, hx, hy, h4.1.1, h4.1.2, h4.2⟩
          · cases h4
        obtain ⟨tl, htl⟩ : ∃ tl, tl = T.length := ⟨_, rfl⟩
        have hti : tl = i + wi + 6 := by omega
        have htq : ((tl : Int) == (i : Int) + (wi : Int) + 6) = true := by
          rw [beq_iff_eq]
          omega
        have hw1 : IntKind.i64.wrap ((tl : Int) - 1) = ((tl - 1 : Nat) : Int) := by rw [IntWalk.i64_in _ (by omega)]; omega
        have hw2 : IntKind.i64.wrap ((tl : Int) - 2) = ((tl - 2 : Nat) : Int) := by rw [IntWalk.i64_in _ (by omega)]; omega
        have hl1 : tl - 1 < tl := by omega
        have hl2 : tl - 2 < tl := by omega
        have H1 := Lib.hid (And.intro h1 (And.intro h2 (And.intro hT htl)))
        have H2 := Lib.hid (And.intro hx (And.intro hy (And.intro h5 (And.intro h6 h7))))
        clear h1 h2 h3 h4 h5 h6 h7 hx hy htl hT hti
        go_wp2_with (first | (go_at_call 21; go_must (refine (sign_any _ _).mono ?_); rintro e w3 ⟨rfl, hb3⟩; replace HN := Lib.hid (HN.out.move hb3); clear hb3) | (go_at_call 26; go_must (refine (word4_any _ _).mono ?_); rintro e w3 ⟨rfl, hb3⟩; replace HN := Lib.hid (HN.out.move hb3); clear hb3) | (go_at_call 23; go_must (refine (num_any _ _).mono ?_); rintro e w3 ⟨rfl, hb3⟩; replace HN := Lib.hid (HN.out.move hb3); clear hb3) | (at_builtin; go_must ((have hmk := HM2.out; clear HM2 hmk; refine wpList_appendT _ rfl _ _ rfl (.slice A L.length c) L rfl (Own.new HN.out.own (Below.alloc (Below.refl _ _) (Nat.le_refl _) _)) _ 8 8 [signT gColon, wordT kP, wordT kIf, wordT kP, wordT kElse, wordT kLambda, signT gColon, numT 1] rfl (Rd.toks _ [signT gColon, wordT kP, wordT kIf, wordT kP, wordT kElse, wordT kLambda, signT gColon, numT 1] _ 8 rfl rfl (by omega)) rfl (by omega) ?_; intro v6 w6 ho6 hg6 hn6; generalize hG : L ++ [signT gColon, wordT kP, wordT kIf, wordT kP, wordT kElse, wordT kLambda, signT gColon, numT 1] = G2 at ho6; obtain ⟨A2, c2, rfl, -, -⟩ := Own.rd ho6; have HG2 := Lib.hid hG; have HlG2 := Lib.hid (show G2.length = L.length + 8 from (by rw [← hG, List.length_append]; rfl)); replace HN := Lib.hid (HN.out.app (Below.alloc (Below.refl _ _) (Nat.le_refl _) _) ho6 hg6 hn6); clear hG ho6 hg6 hn6))) | (go_at_call 16; have hb9 := HN.out.bel; have hrd := HN.out.own; obtain ⟨Aq, cq, eq, hrq, hAq⟩ := Own.rd hrd; injection eq with e1 e2 e3; subst e1 e3; go_must (refine (told_is (m := tl) (hm := H1.out.2.2.2.symm) (by rw [← HG2.out]; exact HR.out) rfl (H1.out.2.1.trans (by rw [HG2.out])) H1.out.1 H1.out.2.2.1 hrq (fun b o e => Own.lt hrd (hAq b o e)) rfl (by have hl2 := HlG2.out; omega) (by rw [← HG2.out]; exact HSM.out) (HT.out.below hb9)).mono ?_); rintro e w8 ⟨A9, c9, rfl, hrn, hbn⟩; obtain ⟨Ax, cx, ex, hnn⟩ := hrn.node; injection ex with ex1 ex2 ex3; subst ex1 ex3; clear ex2; obtain ⟨hx, hy, h5, h6, h7⟩ := H2.out; rw [← H1.out.2.2.2] at hx hy; obtain ⟨b9, o9, A19, c19, rfl, hlt9, p0, p1, p2, p3, p4, -⟩ := hnn _ _ hx; obtain ⟨b8, o8, A18, c18, e8, -, q0, -, -, -, -, -⟩ := hnn _ _ hy; injection e8 with e8; injection e8 with e8 e7; subst e8 e7; rw [h5] at p0; rw [h6] at p4; rw [h7] at q0; clear hnn hx hy h5 h6 h7; have HB := Lib.hid (hb9.trans (hbn.mono hb9.size)); clear hrn hbn hb9 hrd hrq hAq))
        go_ret
        exact ⟨rfl, by have := HB.out; have hsz := HB.out.size; exact (by repeat (first | exact Below.refl _ _ | assumption | refine Below.setCell ?_ (by first | (simp; done) | (simp; omega) | omega) _ | refine below_drewN ?_ _ | refine Below.drew ?_ | refine Below.alloc ?_ (by first | (simp; done) | (simp; omega) | omega) _))⟩
theorem byte_of {n : Int} (h : (Lit.int .u8 n).wf = true) : ∃ b : Nat, n = (b : Int) ∧ b < 256 := by
  have h2 : (decide (0 ≤ n) && decide (n ≤ 255)) = true := h
  simp only [Bool.and_eq_true, decide_eq_true_eq] at h2
  exact ⟨n.toNat, by omega, by omega⟩
theorem lambdas_int (a b : Int) (ha : (Lit.int .u8 a).wf = true) (hb : (Lit.int .u8 b).wf = true) (w : World) (htab : Asp w) : Calls Tryd.prog 12 #[.int .u8 a, .int .u8 b] w fun e w' => e = .returned (.bool true) ∧ Below w.heap.size w w' := by
  obtain ⟨a, rfl, h1⟩ := byte_of ha
  obtain ⟨b, rfl, h2⟩ := byte_of hb
  exact lambdas_walk a b h1 h2 w htab
end Go.Proofs.YtjdcicopjipmnaaDoor
