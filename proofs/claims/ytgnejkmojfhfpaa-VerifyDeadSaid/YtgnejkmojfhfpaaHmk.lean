/- verify.Heights: what it makes, and how it reads. -/
import Derived.Test.YtgnejkmojfhfpaaLke
import Derived.Test.YtgnejkmojfhfpaaSam
import Derived.Test.YtgnejkmojfhfpaaFst
import Derived.Test.YtgnejkmojfhfpaaTbl
import Derived.Test.YtgnejkmojfhfpaaEfa
import Derived.Laws.MakeOwn
namespace Go.Proofs.Ytgnejkmojfhfpaa
open Go.RowKit
set_option linter.unusedVariables false
set_option linter.unusedSimpArgs false

theorem run_make_rowN {P : Program} (t e : TypeId) (i : TypeInfo) (z : Value) (ht : P.underlying t = some (.slice e)) (hi : P.info? e = some i) (hz : i.zero = some z)
    (kl kc : IntKind) (n c : Nat) (hnc : n ≤ c) (hbytes : i.bytes * c ≤ 281474976710656) (h63 : c ≤ 9223372036854775807) (w : World) :
    (Instr.makeSlice t (.int kl (n : Int)) (.int kc (c : Int))).run P w = .ok (.slice (some ⟨w.heap.size, 0, none⟩) n c) (w.alloc (.cells (madeCells z.cells (c * i.size)) e)) := by
  have hb : (i.bytes : Int) * (c : Int) ≤ 281474976710656 := by
    have h : ((i.bytes * c : Nat) : Int) ≤ 281474976710656 := by omega
    rwa [Int.natCast_mul] at h
  have hr := run_make (P := P) w t e i z ht hi hz kl kc n c (by omega) (by omega) hb (by omega)
  simp only [Int.toNat_natCast] at hr
  exact hr
theorem made_one (z : Value) (n : Nat) : madeCells #[z] n = (List.replicate n z).toArray := by
  apply Array.toList_inj.1
  rw [toList_madeCells_one]
theorem info_parts {t : TypeId} {z : Value} {s b : Nat} (h : (Try.prog.info? t).map (fun i => (i.zero, i.size, i.bytes)) = some (some z, s, b)) : ∃ i, Try.prog.info? t = some i ∧ i.zero = some z ∧ i.size = s ∧ i.bytes = b := by
  obtain ⟨i, h1, h2⟩ := Option.map_eq_some_iff.1 h
  simp only [Prod.mk.injEq] at h2
  exact ⟨i, h1, h2.1, h2.2.1, h2.2.2⟩
theorem info_P : (Try.prog.info? 65).map (fun i => (i.zero, i.size, i.bytes)) = some (some (.pointer none), 1, 8) := by kernel_rfl
theorem info_Bo : (Try.prog.info? 4).map (fun i => (i.zero, i.size, i.bytes)) = some (some (.bool false), 1, 1) := by kernel_rfl
theorem info_I : (Try.prog.info? 3).map (fun i => (i.zero, i.size, i.bytes)) = some (some (.int .i64 0), 1, 8) := by kernel_rfl
theorem make_P (n : Nat) (hn : n ≤ 8796093022208) (w : World) : (Instr.makeSlice 63 (.int .i64 (n : Int)) (.int .i64 (n : Int))).run Try.prog w = .ok (.slice (some ⟨w.heap.size, 0, none⟩) n n) (w.alloc (.cells (List.replicate n (.pointer none)).toArray 65)) := by
  obtain ⟨i0, hi, hz0, hz1, hz2⟩ := info_parts info_P
  have := run_make_rowN (P := Try.prog) 63 65 i0 _ Try.underlying63 hi hz0 .i64 .i64 n n (Nat.le_refl _) (by rw [hz2]; omega) (by omega) w
  rw [hz1, Nat.mul_one] at this
  rw [← made_one]
  exact this
theorem make_B (n : Nat) (hn : n ≤ 8796093022208) (w : World) : (Instr.makeSlice 64 (.int .i64 (n : Int)) (.int .i64 (n : Int))).run Try.prog w = .ok (.slice (some ⟨w.heap.size, 0, none⟩) n n) (w.alloc (.cells (List.replicate n (.bool false)).toArray 4)) := by
  obtain ⟨i0, hi, hz0, hz1, hz2⟩ := info_parts info_Bo
  have := run_make_rowN (P := Try.prog) 64 4 i0 _ Try.underlying64 hi hz0 .i64 .i64 n n (Nat.le_refl _) (by rw [hz2]; omega) (by omega) w
  rw [hz1, Nat.mul_one] at this
  rw [← made_one]
  exact this
theorem make_I (n : Nat) (hn : n ≤ 8796093022208) (w : World) : (Instr.makeSlice 25 (.int .i64 (n : Int)) (.int .i64 (n : Int))).run Try.prog w = .ok (.slice (some ⟨w.heap.size, 0, none⟩) n n) (w.alloc (.cells (List.replicate n (.int .i64 0)).toArray 3)) := by
  obtain ⟨i0, hi, hz0, hz1, hz2⟩ := info_parts info_I
  have := run_make_rowN (P := Try.prog) 25 3 i0 _ Try.underlying25 hi hz0 .i64 .i64 n n (Nat.le_refl _) (by rw [hz2]; omega) (by omega) w
  rw [hz1, Nat.mul_one] at this
  rw [← made_one]
  exact this
theorem chain_keep {w w' : World} (hk : ∀ g cs, Blk w g 98 cs → Blk w' g 98 cs) : ∀ {l : List (Int × Int)} {p : Option Addr}, ChainAt w p l → ChainAt w' p l
  | [], _, h => h
  | _ :: r, _, ⟨g, q, e, h1, h2⟩ => ⟨g, q, e, hk _ _ h1, chain_keep hk h2⟩
/-- a state behind a pointer -/
def StAt (W : World) (sb ob : Nat) (q : Option Addr) (s : St) : Prop := ∃ b k t, q = some ⟨b, k, none⟩ ∧ b < W.heap.size ∧ b ≠ sb ∧ b ≠ ob ∧ W.cell? ⟨b, k, none⟩ = some (.int .i64 s.h) ∧ W.cell? ⟨b, k + 1, none⟩ = some (.pointer t) ∧ ChainAt W t s.bl
def StO (W : World) (sb ob : Nat) (q : Option Addr) : Option St → Prop
  | none => q = none
  | some s => StAt W sb ob q s
/-- what is known so far, as memory holds it -/
structure FlAt (W0 : World) (n sb ob : Nat) (W : World) (f : Fl) (ps : List (Option Addr)) : Prop where
  bel : Below W0.heap.size W0 W
  sb_ : W0.heap.size ≤ sb
  ob_ : W0.heap.size ≤ ob
  ln : f.st.length = n
  lo : f.op.length = n
  lp : ps.length = n
  st : Blk W sb 65 (ps.map Value.pointer).toArray
  op : Blk W ob 4 (bvs f.op).toArray
  at_ : ∀ (i : Nat) o q, f.st[i]? = some o → ps[i]? = some q → StO W sb ob q o
theorem StAt.new {W W' : World} {sb ob : Nat} {q : Option Addr} {s : St} (h : StAt W sb ob q s) (hb : Below W.heap.size W W') : StAt W' sb ob q s := by
  obtain ⟨b, k, t, e, h1, h2, h3, h4, h5, h6⟩ := h
  exact ⟨b, k, t, e, Nat.lt_of_lt_of_le h1 hb.size, h2, h3, (hb.cell (p := ⟨b, k, none⟩) h1).trans h4, (hb.cell (p := ⟨b, k + 1, none⟩) h1).trans h5, h6.new hb⟩
theorem StO.new {W W' : World} {sb ob : Nat} {q : Option Addr} {o : Option St} (h : StO W sb ob q o) (hb : Below W.heap.size W W') : StO W' sb ob q o := by
  cases o with
  | none => exact h
  | some s => exact StAt.new h hb
theorem cell_far (w : World) {p q : Addr} (v : Value) (h : q.block ≠ p.block) : (w.setCell p v).cell? q = w.cell? q := World.cell?_of_block (Below.heap_setCell w p v _ h)
theorem StO.set_ {W : World} {sb ob : Nat} {q : Option Addr} {o : Option St} (h : StO W sb ob q o) {g i : Nat} {t : TypeId} {cs : Array Value} (hg : g = sb ∨ g = ob) (hb : Blk W g t cs) (ht : t ≠ 98) (v : Value) : StO (W.setCell ⟨g, i, none⟩ v) sb ob q o := by
  cases o with
  | none => exact h
  | some s =>
    obtain ⟨b, k, u, e, h1, h2, h3, h4, h5, h6⟩ := h
    have hne : b ≠ g := by rcases hg with rfl | rfl <;> assumption
    exact ⟨b, k, u, e, by simpa [World.setCell] using h1, h2, h3, (cell_far W v hne).trans h4, (cell_far W v hne).trans h5, chain_keep (fun g' cs' hb' => hb'.far (Blk.ne_ hb' hb (Ne.symm ht)) v) h6⟩
section
variable {W0 W W' : World} {n sb ob : Nat} {f : Fl} {ps : List (Option Addr)}
theorem FlAt.new (h : FlAt W0 n sb ob W f ps) (hb : Below W.heap.size W W') : FlAt W0 n sb ob W' f ps :=
  ⟨h.bel.trans (hb.mono h.bel.size), h.sb_, h.ob_, h.ln, h.lo, h.lp, h.st.new' hb, h.op.new' hb, fun i o q ho hq => (h.at_ i o q ho hq).new hb⟩
theorem FlAt.ne (h : FlAt W0 n sb ob W f ps) : sb ≠ ob := Blk.ne_ h.st h.op (by decide)
/-- one mark is set -/
theorem FlAt.mark (h : FlAt W0 n sb ob W f ps) (i : Nat) (v : Bool) : FlAt W0 n sb ob (W.setCell ⟨ob, i, none⟩ (.bool v)) ⟨f.st, f.op.set i v⟩ ps := by
  refine ⟨h.bel.setCell h.ob_ _, h.sb_, h.ob_, h.ln, by simpa using h.lo, h.lp, h.st.far h.ne _, ?_, fun j o q ho hq => (h.at_ j o q ho hq).set_ (.inr rfl) h.op (by decide) _⟩
  have := h.op.set_ i (.bool v)
  rw [show (bvs (f.op.set i v)).toArray = (bvs f.op).toArray.setIfInBounds i (.bool v) by simp [bvs, List.map_set]]
  exact this
/-- one state is known -/
theorem FlAt.know (h : FlAt W0 n sb ob W f ps) {i : Nat} (hi : i < n) {q : Option Addr} {s : St} (hs : StAt W sb ob q s) : FlAt W0 n sb ob (W.setCell ⟨sb, i, none⟩ (.pointer q)) ⟨f.st.set i (some s), f.op⟩ (ps.set i q) := by
  have hnew : StAt (W.setCell ⟨sb, i, none⟩ (.pointer q)) sb ob q s := StO.set_ (o := some s) hs (.inl rfl) h.st (by decide) _
  refine ⟨h.bel.setCell h.sb_ _, h.sb_, h.ob_, by simpa using h.ln, h.lo, by simpa using h.lp, ?_, h.op.far (Ne.symm h.ne) _, fun j o q' ho hq => ?_⟩
  · have := h.st.set_ i (.pointer q)
    rw [show ((ps.set i q).map Value.pointer).toArray = (ps.map Value.pointer).toArray.setIfInBounds i (.pointer q) by simp [List.map_set]]
    exact this
  · by_cases e : i = j
    · subst e
      simp only [List.getElem?_set, h.ln, h.lp, hi, if_true] at ho hq
      cases ho
      cases hq
      exact hnew
    · simp only at ho
      rw [List.getElem?_set_ne e] at ho hq
      exact (h.at_ j o q' ho hq).set_ (.inl rfl) h.st (by decide) _
theorem FlAt.ptr (h : FlAt W0 n sb ob W f ps) {i : Nat} {q : Option Addr} (hq : ps[i]? = some q) : W.cell? ⟨sb, i, none⟩ = some (.pointer q) := by
  rw [h.st.cell i]
  simp [hq]
theorem FlAt.get (h : FlAt W0 n sb ob W f ps) {i : Nat} (hi : i < n) : ∃ q o, ps[i]? = some q ∧ f.st[i]? = some o ∧ StO W sb ob q o ∧ W.cell? ⟨sb, i, none⟩ = some (.pointer q) := by
  have l1 : i < ps.length := by rw [h.lp]; exact hi
  have h1 : ps[i]? = some ps[i] := List.getElem?_eq_getElem l1
  have l2 : i < f.st.length := by rw [h.ln]; exact hi
  have h2 : f.st[i]? = some f.st[i] := List.getElem?_eq_getElem l2
  exact ⟨_, _, h1, h2, h.at_ i _ _ h2 h1, h.ptr h1⟩
theorem FlAt.rd (h : FlAt W0 n sb ob W f ps) (hn : n ≤ 9223372036854775807) : Rd W (some ⟨ob, 0, none⟩) n n 1 (bvs f.op) := by
  refine ⟨Nat.le_refl _, hn, by simp [bvs, h.lo], fun _ => ⟨ob, 0, rfl, h.op.lt, fun j u hu => ?_⟩⟩
  rw [Nat.zero_add, h.op.cell j]
  simpa using hu
theorem FlAt.bool (h : FlAt W0 n sb ob W f ps) {i : Nat} (hi : i < n) : ∃ b, f.op[i]? = some b ∧ W.cell? ⟨ob, i, none⟩ = some (.bool b) := by
  have l2 : i < f.op.length := by rw [h.lo]; exact hi
  have h2 : f.op[i]? = some f.op[i] := List.getElem?_eq_getElem l2
  exact ⟨_, h2, by rw [h.op.cell i]; simp [bvs, h2]⟩
end
/-- what Heights tells -/
def HtR (w : World) (r : List Int × Int × Int) (e : Ending) (w' : World) : Prop := Below w.heap.size w w' ∧ ∃ A n c, e = .returned (.tuple #[.slice A n c, .int .i64 r.2.1, .int .i64 r.2.2]) ∧ r.1.length = n ∧ Rd w' A n c 1 (r.1.map (Value.int .i64))
theorem HtR.bad {w w' : World} (hb : Below w.heap.size w w') (a b : Int) : HtR w ([], a, b) (.returned (.tuple #[.slice none 0 0, .int .i64 a, .int .i64 b])) w' := ⟨hb, none, 0, 0, rfl, rfl, Rd.nil_.2 (by omega)⟩
end Go.Proofs.Ytgnejkmojfhfpaa
