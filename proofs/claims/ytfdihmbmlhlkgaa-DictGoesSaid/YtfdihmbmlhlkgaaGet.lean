/- IsDict; Len, Get. -/
import Derived.Test.YtfdihmbmlhlkgaaDct
import Derived.BigQuiet
namespace Go.Proofs.Ytfdihmbmlhlkgaa
open Go.RowKit
attribute [local go_sem high] guardV eqV neqV
attribute [local go_sem] V.v

theorem MapAt.new {w w' : World} {b : Nat} {f : V → Option Nat} {s : Nat} (h : MapAt w b f s) (hb : Below w.heap.size w w') : MapAt w' b f s := h.mod (S := fun _ => False) (Mod.new hb) id
/-- The parts of a dict: the map's block, the rows' slice, the rows, the map. -/
structure DictAt (w : World) (g B : Nat) (v : Value) (rs : List Row) (f : V → Option Nat) (L : List (V × V)) : Prop where
  blk : Blk w g 71 #[.map (some B), v]
  map : MapAt w B f L.length
  own : Own w 73 7 v rs.length (rcs rs)
  keys : KeysAt f rs
  live : live rs = L
  ok : ∀ p ∈ L, p.1.Ok ∧ isKey p.1 = true
  len : L.length ≤ 4096
  rows : rs.length ≤ 8201
  lt : B < g
/-- Block g is a dict of the pairs L, that lies in S. -/
def IsDict (w : World) (S : Nat → Prop) (g : Nat) (L : List (V × V)) : Prop :=
  ∃ B v rs f, DictAt w g B v rs f L ∧ S g ∧ S B ∧ (∀ b, v.ownBlock = some b → S b) ∧ (∀ i, S i → i < w.heap.size)
/-- S, and what was made since w -/
def Grew (S : Nat → Prop) (w w' : World) (i : Nat) : Prop := S i ∨ (w.heap.size ≤ i ∧ i < w'.heap.size)
section
variable {w w' : World} {g B : Nat} {v : Value} {rs : List Row} {f : V → Option Nat} {L : List (V × V)} {S T : Nat → Prop}
theorem DictAt.mod (h : DictAt w g B v rs f L) (hm : Mod T w w') (hg : ¬ T g) (hB : ¬ T B) (hv : ∀ b, v.ownBlock = some b → ¬ T b) : DictAt w' g B v rs f L :=
  ⟨h.blk.mod hm hg, h.map.mod hm hB, h.own.mod hm hv, h.keys, h.live, h.ok, h.len, h.rows, h.lt⟩
theorem IsDict.mod (h : IsDict w S g L) (hm : Mod T w w') (hT : ∀ b, S b → ¬ T b) : IsDict w' S g L := by
  obtain ⟨B, v, rs, f, h, h1, h2, h3, h4⟩ := h
  exact ⟨B, v, rs, f, h.mod hm (hT _ h1) (hT _ h2) (fun b e => hT _ (h3 b e)), h1, h2, h3, fun i hi => Nat.lt_of_lt_of_le (h4 i hi) hm.size⟩
theorem IsDict.new (h : IsDict w S g L) (hb : Below w.heap.size w w') : IsDict w' S g L := h.mod (T := fun _ => False) (Mod.new hb) (fun _ _ => id)
/-- what stands in a row -/
theorem DictAt.at_ (h : DictAt w g B v rs f L) {i : Nat} {r : Row} (hr : rs[i]? = some r) :
    ∃ b n c, v = .slice (some ⟨b, 0, none⟩) n c ∧ i < n ∧ n = rs.length ∧ b < w.heap.size ∧ ∀ j u, r.cs[j]? = some u → w.cell? ⟨b, i * 7 + j, none⟩ = some u := by
  have hl := (List.getElem?_eq_some_iff.1 hr).1
  obtain ⟨hle, ⟨_, h0⟩ | ⟨b, c, cur, rfl, hb, h1, h2, h3, h4⟩⟩ := h.own
  · omega
  · refine ⟨b, _, c, rfl, hl, rfl, (Array.getElem?_eq_some_iff.1 hb).1, fun j u hj => ?_⟩
    have hj7 : j < 7 := by have := (List.getElem?_eq_some_iff.1 hj).1; rwa [Row.cs_length] at this
    rw [← rcs_at rs i r hr j hj7, ← h4, List.getElem?_take, if_pos (by omega)] at hj
    rw [cell_of_row w b _ cur 73 (0, 0) hb]
    simpa using hj
end

theorem len_any {w : World} {S : Nat → Prop} {g : Nat} {L : List (V × V)} (h : IsDict w S g L) :
    Calls Try.prog 23 #[.pointer (some ⟨g, 0, none⟩)] w fun e w' => e = .returned (.int .i64 L.length) ∧ w' = w := by
  obtain ⟨B, v, rs, f, h, _⟩ := h
  have hb := h.blk.lt
  have c0 := h.blk.cell 0
  have hlen := h.map.len
  simp only [List.getElem?_toArray, List.getElem?_cons_zero] at c0
  clear h
  go_enter Try.func23, Try.ntmps23
  go_wp2_with fail
  go_ret
  exact ⟨rfl, rfl⟩

set_option maxRecDepth 100000 in
set_option maxHeartbeats 400000 in
theorem get_any {w : World} {S : Nat → Prop} {g : Nat} {L : List (V × V)} (h : IsDict w S g L) (x : V) (hx : x.Ok) :
    Calls Try.prog 29 #[.pointer (some ⟨g, 0, none⟩), .agg #[.int .i64 x.k, .int .i64 x.n, .string x.s]] w fun e w' => e = .returned (.tuple #[((findL L x).getD V.zero).v, .bool (findL L x).isSome]) ∧ Below w.heap.size w w' := by
  obtain ⟨B, v, rs, f, h, _⟩ := h
  have hb := h.blk.lt
  have c0 := h.blk.cell 0
  have c1 := h.blk.cell 1
  simp only [List.getElem?_toArray, List.getElem?_cons_zero, List.getElem?_cons_succ] at c0 c1
  obtain ⟨k, n, s⟩ := x
  cases e : f ⟨k, n, s⟩ with
  | none =>
    have hl : ∀ o1 o2 q, (Instr.lookup 68 (.map (some B)) (.agg #[.int .i64 k, .int .i64 n, .string s]) true).run Try.prog (((w.alloc o1).alloc o2).drewN q) = .ok (.tuple #[.int .i64 0, .bool false]) (((w.alloc o1).alloc o2).drewN q) := fun o1 o2 q => by
      have := (h.map.new (w' := ((w.alloc o1).alloc o2).drewN q) (by repeat (first | exact Below.refl _ _ | assumption | refine Below.setCell ?_ (by first | (simp; done) | (simp; omega) | omega) _ | refine below_drewN ?_ _ | refine Below.drew ?_ | refine Below.alloc ?_ (by first | (simp; done) | (simp; omega) | omega) _))).look hx
      rw [e] at this
      exact this
    have HF := Lib.hid (h.keys.no e)
    rw [h.live] at HF
    have E := Lib.hid e
    clear h e
    go_enter Try.func29, Try.ntmps29
    go_wp2_with fail
    go_quiet (fail)
    go_wp2
    refine bodyPost_ret (v := .tuple #[V.zero.v, .bool false]) (by simp [results, Try.results29, go_sem, V.zero]; try rfl) rfl ⟨?_, (by repeat (first | exact Below.refl _ _ | assumption | refine Below.setCell ?_ (by first | (simp; done) | (simp; omega) | omega) _ | refine below_drewN ?_ _ | refine Below.drew ?_ | refine Below.alloc ?_ (by first | (simp; done) | (simp; omega) | omega) _))⟩
    rw [HF.out]
    rfl
  | some i =>
    obtain ⟨⟨k', n', s'⟩, hr⟩ := (h.keys _ _).1 e
    obtain ⟨b, m, c, rfl, him, hm, hb1, hc⟩ := h.at_ hr
    have z0 := hc 3 _ rfl
    have z1 := hc 4 _ rfl
    have z2 := hc 5 _ rfl
    have hn := h.rows
    have hl : ∀ o1 o2 q, (Instr.lookup 68 (.map (some B)) (.agg #[.int .i64 k, .int .i64 n, .string s]) true).run Try.prog (((w.alloc o1).alloc o2).drewN q) = .ok (.tuple #[.int .i64 i, .bool true]) (((w.alloc o1).alloc o2).drewN q) := fun o1 o2 q => by
      have := (h.map.new (w' := ((w.alloc o1).alloc o2).drewN q) (by repeat (first | exact Below.refl _ _ | assumption | refine Below.setCell ?_ (by first | (simp; done) | (simp; omega) | omega) _ | refine below_drewN ?_ _ | refine Below.drew ?_ | refine Below.alloc ?_ (by first | (simp; done) | (simp; omega) | omega) _))).look hx
      rw [e] at this
      exact this
    have HF := Lib.hid (h.keys.find hr)
    rw [h.live] at HF
    have E := Lib.hid e
    clear h e hc hr
    go_enter Try.func29, Try.ntmps29
    go_wp2_with fail
    go_quiet (fail)
    go_wp2
    refine bodyPost_ret (v := .tuple #[(V.mk k' n' s').v, .bool true]) (by simp [results, Try.results29, go_sem]; try rfl) rfl ⟨?_, (by repeat (first | exact Below.refl _ _ | assumption | refine Below.setCell ?_ (by first | (simp; done) | (simp; omega) | omega) _ | refine below_drewN ?_ _ | refine Below.drew ?_ | refine Below.alloc ?_ (by first | (simp; done) | (simp; omega) | omega) _))⟩
    rw [HF.out]
    rfl
end Go.Proofs.Ytfdihmbmlhlkgaa
