/- pack: the rows packed, the map told anew. -/
import Derived.Test.YtfdihmbmlhlkgaaDlf
namespace Go.Proofs.Ytfdihmbmlhlkgaa
open Go.RowKit
attribute [local go_sem high] guardV eqV neqV
attribute [local go_sem] V.v

theorem uniq_nodup : ∀ (rs : List Row), (∀ (i j : Nat) (k x y : V), rs[i]? = some (some (k, x)) → rs[j]? = some (some (k, y)) → i = j) → (live rs).Pairwise (fun p q => p.1 ≠ q.1)
  | [], _ => List.Pairwise.nil
  | r :: rs, h => by
    have ih := uniq_nodup rs (fun i j k x y h1 h2 => by
      have := h (i + 1) (j + 1) k x y (by simpa using h1) (by simpa using h2)
      omega)
    cases r with
    | none => rw [live_none]; exact ih
    | some p =>
      rw [live_some, List.pairwise_cons]
      refine ⟨fun q hq e => ?_, ih⟩
      obtain ⟨j, hj⟩ := mem_live.1 hq
      have := h 0 (j + 1) p.1 p.2 q.2 (by simp) (by rw [e]; simpa using hj)
      omega
theorem KeysAt.nodup {f : V → Option Nat} {rs : List Row} (h : KeysAt f rs) : (live rs).Pairwise (fun p q => p.1 ≠ q.1) := uniq_nodup rs fun _ _ _ _ _ h1 h2 => h.only h1 h2
theorem nodup_at {L : List (V × V)} (h : L.Pairwise (fun p q => p.1 ≠ q.1)) {i j : Nat} {p q : V × V} (hi : L[i]? = some p) (hj : L[j]? = some q) (e : p.1 = q.1) : i = j := by
  obtain ⟨hil, rfl⟩ := List.getElem?_eq_some_iff.1 hi
  obtain ⟨hjl, rfl⟩ := List.getElem?_eq_some_iff.1 hj
  rw [List.pairwise_iff_getElem] at h
  rcases Nat.lt_trichotomy i j with hlt | rfl | hgt
  · exact absurd e (h i j hil hjl hlt)
  · rfl
  · exact absurd e.symm (h j i hjl hil hgt)
/-- the map tells the new places of the first k pairs, and knows the same keys -/
structure Told (f f' : V → Option Nat) (L : List (V × V)) (k : Nat) : Prop where
  same : ∀ y, (f' y).isSome = (f y).isSome
  told : ∀ j p, j < k → L[j]? = some p → f' p.1 = some j
theorem Told.start (f : V → Option Nat) (L : List (V × V)) : Told f f L 0 := ⟨fun _ => rfl, fun j p h => absurd h (by omega)⟩
theorem Told.step {f f' : V → Option Nat} {L : List (V × V)} {k : Nat} (h : Told f f' L k) (hn : L.Pairwise (fun p q => p.1 ≠ q.1)) {p : V × V} (hp : L[k]? = some p) (hs : (f p.1).isSome = true) : Told f (upd f' p.1 (some k)) L (k + 1) := by
  refine ⟨fun y => ?_, fun j q hj hq => ?_⟩
  · unfold upd
    split
    · rename_i e; rw [e, hs]; rfl
    · exact h.same y
  · unfold upd
    split
    · rename_i e; rw [nodup_at hn hp hq e.symm]
    · rename_i e
      refine h.told j q ?_ hq
      rcases Nat.lt_or_ge j k with h' | h'
      · exact h'
      · have : j = k := by omega
        subst this
        rw [hp] at hq
        exact absurd (congrArg Prod.fst (Option.some.inj hq)).symm e
theorem Told.done {f f' : V → Option Nat} {rs : List Row} {L : List (V × V)} (h : Told f f' L L.length) (hk : KeysAt f rs) (hl : live rs = L) : KeysAt f' (L.map some) := by
  intro y i
  constructor
  · intro e
    have h1 := h.same y
    rw [e] at h1
    obtain ⟨j, hj⟩ := Option.isSome_iff_exists.1 h1.symm
    obtain ⟨x, hx⟩ := (hk y j).1 hj
    have hm : (y, x) ∈ L := by rw [← hl]; exact mem_live.2 ⟨j, hx⟩
    obtain ⟨m, hm⟩ := List.getElem?_of_mem hm
    have := h.told m _ (List.getElem?_eq_some_iff.1 hm).1 hm
    rw [e] at this
    obtain rfl := Option.some.inj this
    exact ⟨x, by rw [List.getElem?_map, hm]; rfl⟩
  · rintro ⟨x, hx⟩
    rw [List.getElem?_map] at hx
    cases hm : L[i]? with
    | none => rw [hm] at hx; cases hx
    | some p =>
      rw [hm] at hx
      have := Option.some.inj (Option.some.inj hx)
      subst this
      exact h.told i _ (List.getElem?_eq_some_iff.1 hm).1 hm
theorem live_map (L : List (V × V)) : live (L.map some) = L := by
  induction L with
  | nil => rfl
  | cons p L ih => rw [List.map_cons, live_some, ih]

theorem Blk.mod' {S : Nat → Prop} {w w' : World} {g : Nat} {t : TypeId} {cs : Array Value} (h : Blk w g t cs) (hm : Mod S w w') (hg : ¬ S g) : Blk w' g t cs := h.mod hm hg
set_option maxRecDepth 100000 in
set_option maxHeartbeats 1000000 in
theorem pack_any {w : World} {g B b m c : Nat} {rs : List Row} {f : V → Option Nat} {L : List (V × V)} (h : DictAt w g B (.slice (some ⟨b, 0, none⟩) m c) rs f L) :
    Calls Try.prog 35 #[.pointer (some ⟨g, 0, none⟩)] w fun e w' => e = .returned (.tuple #[]) ∧ ∃ f', DictAt w' g B (.slice (some ⟨b, 0, none⟩) L.length c) (L.map some) f' L ∧ Mod (fun i => i = g ∨ i = B ∨ i = b) w w' := by
  have hm : m = rs.length := by
    rcases h.own.2 with ⟨e, _⟩ | ⟨_, _, _, e, _⟩
    · cases e
    · simp only [Value.slice.injEq] at e
      exact e.2.1
  subst hm
  have hb := h.blk.lt
  have c0 := h.blk.cell 0
  have c1 := h.blk.cell 1
  have fz := h.blk.frozen 1
  simp only [List.getElem?_toArray, List.getElem?_cons_zero, List.getElem?_cons_succ] at c0 c1
  have HH := Lib.hid h
  have hrn := h.rows
  have hgb : ¬ g = b := h.ne_gb
  have hgB : ¬ g = B := h.ne_gB
  have hBb : ¬ B = b := h.ne_Bb
  clear h
  go_enter Try.func35, Try.ntmps35
  go_wp2_with (go_at_call 40; refine (delf_any b c rs _ (by exact HH.out.own.new (by repeat (first | exact Below.refl _ _ | assumption | refine Below.setCell ?_ (by first | (simp; done) | (simp; omega) | omega) _ | refine below_drewN ?_ _ | refine Below.drew ?_ | refine Below.alloc ?_ (by first | (simp; done) | (simp; omega) | omega) _))) (by omega)).mono ?_; rintro e w1 ⟨n, rs', rfl, hrs, hn, own1, mod1⟩; rw [HH.out.live] at hrs; subst hrs; rw [List.length_map] at hn; subst hn; have cg1 := (mod1.cell (p := ⟨g, 1, none⟩) hb hgb).trans c1; have cf1 := (mod1.frozen (p := ⟨g, 1, none⟩) hb hgb).trans fz; have HB1 := Lib.hid (HH.out.blk.mod mod1 hgb); have HO1 := Lib.hid own1; have HM1 := Lib.hid mod1; clear own1 mod1)
  go_loopw [17] (fun v wr => ∃ (k : Nat) (f' : V → Option Nat), k ≤ L.length ∧ v = .int .i64 k ∧ Blk wr g 71 #[.map (some B), .slice (some ⟨b, 0, none⟩) L.length c] ∧ MapAt wr B f' L.length ∧ Own wr 73 7 (.slice (some ⟨b, 0, none⟩) L.length c) (L.map some).length (rcs (L.map some)) ∧ Hid (Told f f' L k) ∧ Mod (fun i => i = g ∨ i = B ∨ i = b) w wr) (fun v _ => L.length - (intOf v).toNat)
  case atStart =>
    have ms : Mod (· = g) w1 (w1.setCell ⟨g, 1, none⟩ (.slice (some ⟨b, 0, none⟩) L.length c)) := Mod.setCell (S := (· = g)) (p := ⟨g, 1, none⟩) (Mod.refl _ _) (fun _ => rfl) _
    refine ⟨0, f, Nat.zero_le _, rfl, HB1.out.set_ 1 _, (HH.out.map.mod HM1.out hBb).mod ms (fun e => hgB e.symm), HO1.out.mod ms (fun b' e => ?_), Told.start f L, Mod.trans (HM1.out.mono (fun _ _ e => .inr (.inr e))) ms (fun _ _ e => .inl e)⟩
    simp only [Value.ownBlock] at e
    obtain rfl := Option.some.inj e
    exact fun e => hgb e.symm
  case round =>
    obtain ⟨k, f', hk, rfl, hbk, hmap, hown, htold, hmod⟩ := hrel
    have c0r := hbk.cell 0
    have c1r := hbk.cell 1
    simp only [List.getElem?_toArray, List.getElem?_cons_zero, List.getElem?_cons_succ] at c0r c1r
    have hbr := hbk.lt
    have hBr := hmap.lt
    have HBK := Lib.hid hbk
    have HMAP := Lib.hid hmap
    have HOWN := Lib.hid hown
    have HMOD := Lib.hid hmod
    have hlen := HH.out.len
    clear hmap hmod hbk c0 c1 cg1 cf1 fz
    by_cases hlt : k < L.length
    · obtain ⟨p, hp⟩ : ∃ p, L[k]? = some p := ⟨L[k], List.getElem?_eq_getElem _⟩
      have hpm : p ∈ L := List.mem_of_getElem? hp
      have hok := HH.out.ok p hpm
      obtain ⟨hbb, hcc⟩ := hown.at_ (i := k) (r := some p) (by rw [List.getElem?_map, hp]; rfl)
      have hfs : (f p.1).isSome = true := by
        rw [← HH.out.live] at hpm
        obtain ⟨j, hj⟩ := mem_live.1 hpm
        rw [(HH.out.keys p.1 j).2 ⟨p.2, hj⟩]
        rfl
      have HT := Lib.hid (htold.out.step (by have := HH.out.keys.nodup; rwa [HH.out.live] at this) hp hfs)
      have HFS : Hid ((f' p.1).isSome = true) := by
        show _ = true
        rw [htold.out.same]; exact hfs
      obtain ⟨⟨k1, n1, s1⟩, ⟨k2, n2, s2⟩⟩ := p
      have z0 := hcc 0 (.int .i64 k1) rfl
      have z1 := hcc 1 (.int .i64 n1) rfl
      have z2 := hcc 2 (.string s1) rfl
      have z3 := hcc 3 (.int .i64 k2) rfl
      have z4 := hcc 4 (.int .i64 n2) rfl
      have z5 := hcc 5 (.string s2) rfl
      have z6 := hcc 6 (.bool false) rfl
      simp only [Nat.add_zero] at z0
      have HOK := Lib.hid hok.1
      have HWB : Hid (¬ wr.heap.size = B) := by show ¬ _ = _; omega
      clear hcc hown hok hpm hfs hp htold
      obtain ⟨w4, hrun4, map4, mod4⟩ := MapAt.store (x := ⟨k1, n1, s1⟩) (HMAP.out.new (w' := (wr.alloc (.cells #[.int .i64 k1, .int .i64 n1, .string s1, .int .i64 k2, .int .i64 n2, .string s2, .bool false] 73)).drew) (by repeat (first | exact Below.refl _ _ | assumption | refine Below.setCell ?_ (by first | (simp; done) | (simp; omega) | omega) _ | refine below_drewN ?_ _ | refine Below.drew ?_ | refine Below.alloc ?_ (by first | (simp; done) | (simp; omega) | omega) _))) HOK.out (i := k) (by omega) (by unfold maxLen; omega)
      simp only [V.v] at hrun4
      have HK4 := Lib.hid (And.intro ((mod4.cell (p := ⟨g, 0, none⟩) (Nat.lt_of_lt_of_le hbr (by simp)) hgB).trans ((HBK.out.alloc _).cell 0)) (And.intro ((mod4.cell (p := ⟨wr.heap.size, 0, none⟩) (by simp) HWB.out).trans ((Blk.new wr 73 #[.int .i64 k1, .int .i64 n1, .string s1, .int .i64 k2, .int .i64 n2, .string s2, .bool false]).cell 0)) (And.intro ((mod4.cell (p := ⟨wr.heap.size, 1, none⟩) (by simp) HWB.out).trans ((Blk.new wr 73 #[.int .i64 k1, .int .i64 n1, .string s1, .int .i64 k2, .int .i64 n2, .string s2, .bool false]).cell 1)) ((mod4.cell (p := ⟨wr.heap.size, 2, none⟩) (by simp) HWB.out).trans ((Blk.new wr 73 #[.int .i64 k1, .int .i64 n1, .string s1, .int .i64 k2, .int .i64 n2, .string s2, .bool false]).cell 2)))))
      have HMAP4 := Lib.hid map4
      have HMOD4 := Lib.hid mod4
      clear map4 mod4
      go_wp2_with fail
      go_region_held3 (fun w' => w'.cell? ⟨g, 0, none⟩ = some (.map (some B)) ∧ w'.cell? ⟨wr.heap.size, 0, none⟩ = some (.int .i64 k1) ∧ w'.cell? ⟨wr.heap.size, 1, none⟩ = some (.int .i64 n1) ∧ w'.cell? ⟨wr.heap.size, 2, none⟩ = some (.string s1)) (first | exact HK4.out | go_keep)
        (fail)
      have m04 : Mod (· = B) wr w4 := Mod.trans (Mod.new (by repeat (first | exact Below.refl _ _ | assumption | refine Below.setCell ?_ (by first | (simp; done) | (simp; omega) | omega) _ | refine below_drewN ?_ _ | refine Below.drew ?_ | refine Below.alloc ?_ (by first | (simp; done) | (simp; omega) | omega) _))) HMOD4.out (fun _ _ e => e)
      have hmap4 := HMAP4.out
      rw [HFS.out, if_pos rfl] at hmap4
      have HM04 := Lib.hid m04
      have HMM := Lib.hid hmap4
      clear m04 hmap4
      go_wp2_with fail
      go_roundw
      case rel =>
        refine ⟨k + 1, upd f' ⟨k1, n1, s1⟩ (some k), by omega, by go_num, HBK.out.mod HM04.out hgB, HMM.out, HOWN.out.mod HM04.out (fun b' e => ?_), HT.out, HMOD.out.trans HM04.out (fun _ _ e => .inr (.inl e))⟩
        simp only [Value.ownBlock] at e
        obtain rfl := Option.some.inj e
        exact fun e => hBb e.symm
      case measure => simp [intOf]; omega
    · have HT := Lib.hid htold
      clear htold hown
      go_wp2_with fail
      go_end0
      have hkl : k = L.length := by omega
      subst hkl
      refine ⟨rfl, f', ⟨HBK.out, HMAP.out, ?_, HT.out.out.done HH.out.keys HH.out.live, live_map L, HH.out.ok, hlen, ?_, HH.out.lt⟩, HMOD.out⟩
      · have := HOWN.out
        exact this
      · rw [List.length_map]; omega
end Go.Proofs.Ytfdihmbmlhlkgaa
