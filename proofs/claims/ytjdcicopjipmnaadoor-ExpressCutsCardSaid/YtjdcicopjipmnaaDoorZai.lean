/- Rows of tokens that are appended to. Rows of tokens side by side; told, said outright. A drawn region by items: what each operation leaves, and in which blocks it lies; whatever the order. Items: the steps of drawn regions that make rows of tokens. few: 40 tokens at most, of texts of 12 bytes. -/
import Derived.RegionTactic
import Derived.Test.YtjdcicopjipmnaaDoorZag
namespace Go.Proofs.YtjdcicopjipmnaaDoor
set_option maxRecDepth 100000
set_option maxHeartbeats 4000000
section
open Go.RowKit
set_option linter.unusedVariables false
set_option linter.unusedSimpArgs false
theorem info_Tok : (Tryd.prog.info? 39).map (fun i => (i.zero, i.size, i.bytes)) = some (some (.agg #[.int .i64 0, .int .i64 0, .string ⟨#[]⟩, .int .i64 0]), 4, 40) := by kernel_rfl
theorem tflat_len (L : List TokD) : (L.flatMap tcs).length = L.length * 4 := by
 induction L with
 | nil => rfl
 | cons t L ih => rw [List.flatMap_cons, List.length_append, ih, List.length_cons]; show 4 + _ = _; omega
theorem tflat_one (L : List TokD) : ∀ u ∈ L.flatMap tcs, u.oneCell' = true := by
 intro u hu
 obtain ⟨t, _, ht⟩ := List.mem_flatMap.1 hu
 simp only [tcs, List.mem_cons, List.not_mem_nil, or_false] at ht
 rcases ht with rfl | rfl | rfl | rfl <;> rfl
def OwnT (w : World) (v : Value) (L : List TokD) : Prop := Own w 39 4 v L.length (L.flatMap tcs)
theorem OwnT.made (w : World) (L : List TokD) (cs : Array Value) (n : Nat) (hn : L.length = n) (hc : cs = (L.flatMap tcs).toArray) (hm : n ≤ 9223372036854775807) : OwnT (w.alloc (.cells cs 39)) (.slice (some ⟨w.heap.size, 0, none⟩) n n) L := by
 have h := Own.made (t := 39) (sz := 4) w cs n hm (by rw [hc]; simp only [List.size_toArray]; rw [tflat_len, hn])
 unfold OwnT
 rw [hc] at h ⊢
 rw [hn]
 exact h
section
variable {ops : Array Oper} {rest : List Oper} {o : Oper} {a : Act} {Q : Exit → Act → World → Prop}
theorem wpList_appendT (w : World) (hgd : o.guard = none) (s x : Operand) (ho : o.op = .call { callee := .builtin .append, args := #[s, x], argTypes := #[26, 26] })
  (v : Value) (L : List TokD) (hs : a.eval s = v) (hown : OwnT w v L) (A : Option Addr) (m c : Nat) (M : List TokD) (hx : a.eval x = .slice A m c) (hr : Rd w A m c 4 (M.flatMap tcs)) (hm : M.length = m) (hbound : L.length + m ≤ 1099511627776)
  (h : ∀ v' w', OwnT w' v' (L ++ M) → w.grownBy w' v.ownBlock → (v'.ownBlock = v.ownBlock ∨ v'.ownBlock = some w.heap.size) → wpList Tryd.prog ops Q rest (a.put o.dst v') w') :
  wpList Tryd.prog ops Q (o :: rest) a w := by
 obtain ⟨i0, hi, hz0, hz1, hz2⟩ := info_parts info_Tok
 refine wpList_append_Own w hgd s x _ ho _ i0 _ 4 40 Tryd.underlying26 hi hz0 hz1 hz2 rfl v L.length (L.flatMap tcs) hs hown A m c (M.flatMap tcs) hx hr (tflat_one M) (by omega) (by omega) (fun v' w' h1 h2 h3 => h v' w' ?_ h2 h3)
 unfold OwnT
 rw [List.length_append, List.flatMap_append, hm]
 exact h1
end
end
section
open Go.RowKit
set_option linter.unusedVariables false
set_option linter.unusedSimpArgs false
theorem told_is {w : World} {A : Option Addr} {n c : Nat} {L : List TokD} {r : PS × Int} {a b e : Int} {T : List NodeD} {m : Nat} (hm : T.length = m) (hr : parsed L = some r) (ha : nodeOf r = a) (hb : usedOf r = b) (he : r.1.e = e) (hT : treeOf r.1.ns = T) (hl : Rd w A n c 4 (L.flatMap tcs)) (hla : ∀ b o, A = some ⟨b, o, none⟩ → b < w.heap.size) (hn : L.length = n) (hbig : n ≤ 274877906944)
  (hts : ∀ t ∈ L, t.s.size ≤ maxLen) (htab : Asp w) :
  Calls Tryd.prog 16 #[.slice A n c] w fun e' w' => ∃ A9 c9, e' = .returned (.agg #[.int .i64 a, .int .i64 b, .int .i64 e, .slice A9 m c9]) ∧ RowN (fun _ => False) w' (.slice A9 m c9) T ∧ Below w.heap.size w w' := by
 subst ha hb he hT hm
 refine (told_any hl hla hn hbig hts htab hr).mono ?_
 rintro e' w' ⟨v, rfl, h1, h2⟩
 obtain ⟨A9, c9, rfl, _⟩ := h1.rdT
 exact ⟨A9, c9, rfl, h1, h2⟩
theorem byte_of {n : Int} (h : (Lit.int .u8 n).wf = true) : ∃ b : Nat, n = (b : Int) ∧ b < 256 := by
 have h2 : (decide (0 ≤ n) && decide (n ≤ 255)) = true := h
 simp only [Bool.and_eq_true, decide_eq_true_eq] at h2
 exact ⟨n.toNat, by omega, by omega⟩
theorem OwnT.rd_ {w : World} {A : Option Addr} {n c : Nat} {L : List TokD} (h : OwnT w (.slice A n c) L) : Rd w A L.length c 4 (L.flatMap tcs) := by
 obtain ⟨A', c', e, hr, _⟩ := Own.rd h
 injection e with e1 e2 e3
 subst e1 e3
 exact hr
theorem OwnT.old {w : World} {A : Option Addr} {n c : Nat} {L : List TokD} (h : OwnT w (.slice A n c) L) : ∀ b o, A = some ⟨b, o, none⟩ → b < w.heap.size := by
 obtain ⟨A', c', e, hr, hA⟩ := Own.rd h
 injection e with e1 e2 e3
 subst e1 e3
 exact fun b o e => Own.lt h (hA b o e)
def kA : ByteArray := ⟨#[97]⟩
def dB : Nat → List TokD
 | 2 => [signT gPlus, numT 2]
 | 3 => [signT gRb]
 | 4 => [signT gDot, wordT kA]
 | 5 => [signT gLp, signT gRp]
 | _ => []
end
section
open Go.RowKit
set_option linter.unusedVariables false
set_option linter.unusedSimpArgs false
theorem countP_lt {α : Type} {l : List α} {a b : α → Bool} (h : ∀ x ∈ l, b x = true → a x = true) {x : α} (hx : x ∈ l) (ha : a x = true) (hb : b x = false) : l.countP b < l.countP a := by
 induction l with
 | nil => cases hx
 | cons y l ih =>
  simp only [List.countP_cons]
  rcases List.mem_cons.1 hx with rfl | hx
  ·have := List.countP_mono_left (l := l) (p := b) (q := a) fun z hz hz' => h z (by simp [hz]) hz'
   simp [ha, hb]
   omega
  ·have h1 := ih (fun z hz => h z (by simp [hz])) hx
   have h2 := h y (by simp)
   cases hby : b y <;> cases hay : a y <;> simp_all <;> omega
theorem wpAny_inv {P : Program} {md : Region.Mode} {ops : Array Oper} {Q : Exit → Act → World → Prop} (J : Array Bool → Act → World → Prop)
  (hlt : ∀ (i : Nat) (o : Oper), ops[i]? = some o → ∀ e ∈ o.after, e.on < i)
  (hsz : ∀ listed a w, J listed a w → listed.size = ops.size)
  (hstep : ∀ listed a w i, J listed a w → i ∈ Region.ready md ops listed → wpOp P ops Q i (fun a' w' => J (listed.setIfInBounds i true) a' w') a w)
  (hend : ∀ listed a w, J listed a w → (∀ i, i < ops.size → listed.getD i false = true) → Q .normal a w) :
  ∀ (k : Nat) (listed : Array Bool) (a : Act) (w : World), (List.range ops.size).countP (fun i => !listed.getD i true) ≤ k → J listed a w → wpAny P md ops Q k listed a w := by
 have hall : ∀ listed : Array Bool, listed.size = ops.size → Region.ready md ops listed = [] → ∀ i, i < ops.size → listed.getD i false = true := by
  intro listed hs hr i
  induction i using Nat.strongRecOn with
  | _ i ih =>
   intro hi
   cases hc : listed.getD i false with
   | true => rfl
   | false =>
    exfalso
    have hit : listed.getD i true = false := by
     have h1 : i < listed.size := by omega
     simp [h1] at hc ⊢
     exact hc
    have : i ∈ Region.ready md ops listed := by
     rw [mem_ready]
     refine ⟨hit, ops[i], Array.getElem?_eq_getElem hi, fun e he _ => ?_⟩
     have := hlt i _ (Array.getElem?_eq_getElem hi) e he
     exact ih e.on this (by omega)
    rw [hr] at this
    cases this
 intro k
 induction k with
 | zero =>
  intro listed a w hk hJ
  have hr : Region.ready md ops listed = [] := by
   rw [List.eq_nil_iff_forall_not_mem]
   intro i hi
   obtain ⟨h0, o, ho, _⟩ := mem_ready.1 hi
   have hlt := (Array.getElem?_eq_some_iff.1 ho).1
   have h1 : 0 < (List.range ops.size).countP (fun i => !listed.getD i true) := List.countP_pos_iff.2 ⟨i, List.mem_range.2 hlt, by rw [h0]; rfl⟩
   omega
  exact ⟨hr, hend _ _ _ hJ (hall _ (hsz _ _ _ hJ) hr)⟩
 | succ k ih =>
  intro listed a w hk hJ
  refine ⟨fun hr => hend _ _ _ hJ (hall _ (hsz _ _ _ hJ) hr), fun i hi => ?_⟩
  refine wpOp_mono (fun a' w' h' => ih _ _ _ ?_ h') (hstep _ _ _ _ hJ hi)
  obtain ⟨h0, o, ho, _⟩ := mem_ready.1 hi
  have hlt := (Array.getElem?_eq_some_iff.1 ho).1
  have hls : i < listed.size := by rw [hsz _ _ _ hJ]; exact hlt
  have := countP_lt (l := List.range ops.size) (a := fun j => !listed.getD j true) (b := fun j => !(listed.setIfInBounds i true).getD j true) (fun j _ hj => by
   by_cases e : i = j
   ·subst e
    simp [hls] at hj
   ·rw [getD_set_ne true e] at hj
    exact hj) (x := i) (List.mem_range.2 hlt) (by rw [h0]; rfl) (by simp [hls])
  omega
theorem wp_region_inv {P : Program} {ops : Array Oper} {Q : Exit → Act → World → Prop} {id : Nat} {a : Act} {w : World} (hm : P.follows .mixedOrders = true) (J : Array Bool → Act → World → Prop)
  (hlt : ∀ (i : Nat) (o : Oper), ops[i]? = some o → ∀ e ∈ o.after, e.on < i)
  (hsz : ∀ listed a w, J listed a w → listed.size = ops.size)
  (hstep : ∀ listed a w i, J listed a w → i ∈ Region.ready .any ops listed → wpOp P ops Q i (fun a' w' => J (listed.setIfInBounds i true) a' w') a w)
  (hend : ∀ listed a w, J listed a w → (∀ i, i < ops.size → listed.getD i false = true) → Q .normal a w)
  (h : J (Array.replicate ops.size false) a w.drew) : (Code.region id ops true).wp P Q a w :=
 wp_region_any hm (wpAny_inv J hlt hsz hstep hend _ _ _ _ (by
  have := List.countP_le_length (p := fun i => !(Array.replicate ops.size false).getD i true) (l := List.range ops.size)
  simpa using this) h)
inductive Item
 | val (v : Value)
 | row (L : List TokD)
 | ptr (t : TypeId) (cs : Array Value)
 | got (a b e : Int) (T : List NodeD)
 | gotAt (a b e : Int) (T : List NodeD)
def Turns (w : World) (g : Nat) : Prop := ∃ t cs, (t = 39 ∨ t = 31) ∧ Blk w g t cs
def Item.Is : Item → (Nat → Prop) → Value → World → Prop
 | .val v0, _, v, _ => v = v0
 | .row L, S, v, w => OwnT w v L ∧ ∀ b, v.ownBlock = some b → S b
 | .ptr t cs, S, v, w => ∃ b, v = .pointer (some ⟨b, 0, none⟩) ∧ S b ∧ Blk w b t cs
 | .got a b e T, _, v, w => ∃ A c, v = .agg #[.int .i64 a, .int .i64 b, .int .i64 e, .slice A T.length c] ∧ RowN (fun _ => False) w (.slice A T.length c) T
 | .gotAt a b e T, S, v, w => ∃ g A c, v = .pointer (some ⟨g, 0, none⟩) ∧ S g ∧ Blk w g 31 #[.int .i64 a, .int .i64 b, .int .i64 e, .slice A T.length c] ∧ RowN (fun _ => False) w (.slice A T.length c) T
structure Kept (S : Nat → Prop) (w w' : World) : Prop where
 size : w.heap.size ≤ w'.heap.size
 block : ∀ g, g < w.heap.size → ¬ (S g ∧ Turns w g) → w'.heap[g]? = w.heap[g]?
theorem turns_no {w : World} {g : Nat} {t : TypeId} {cs : Array Value} (h : Blk w g t cs) (h1 : t ≠ 39) (h2 : t ≠ 31) : ¬ Turns w g := by
 rintro ⟨t', cs', h3, h4⟩
 unfold Blk at h h4
 rw [h] at h4
 cases h4
 rcases h3 with h3 | h3
 ·exact h1 h3
 ·exact h2 h3
theorem RowN.kept {w w' : World} {v : Value} {T : List NodeD} {S : Nat → Prop} (h : RowN (fun _ => False) w v T) (hk : Kept S w w') : RowN (fun _ => False) w' v T := by
 obtain ⟨Z, e, z1, z2⟩ := h
 refine RowN.keep ⟨Z, e, z1, z2⟩ (fun b hbv => hk.block b (z1.lt hbv) fun ⟨_, ht⟩ => ?_) (fun k cs hlt _ hc => hk.block k hlt fun ⟨_, ht⟩ => turns_no (t := 3) hc (by decide) (by decide) ht) (fun k _ hf => hf)
 obtain ⟨t, cs, h3, h4⟩ := ht
 exact own_blk_ne z1 h4 (by rcases h3 with rfl | rfl <;> decide) hbv
theorem Item.Is.kept {it : Item} {S S' : Nat → Prop} {v : Value} {w w' : World} (h : it.Is S v w) {D : Nat → Prop} (hk : Kept D w w') (hD : ∀ g, g < w.heap.size → S g → ¬ D g) (hS : ∀ g, g < w.heap.size → S g → S' g) : it.Is S' v w' := by
 cases it with
 | val v0 => exact h
 | row L => exact ⟨h.1.keep fun b e => hk.block b (h.1.lt e) fun ⟨hd, _⟩ => hD b (h.1.lt e) (h.2 b e) hd, fun b e => hS b (h.1.lt e) (h.2 b e)⟩
 | ptr t cs =>
  obtain ⟨b, h1, h2, h3⟩ := h
  exact ⟨b, h1, hS b h3.lt h2, (hk.block b h3.lt fun ⟨hd, _⟩ => hD b h3.lt h2 hd).trans h3⟩
 | got a b e T =>
  obtain ⟨A, c, h1, h2⟩ := h
  exact ⟨A, c, h1, h2.kept hk⟩
 | gotAt a b e T =>
  obtain ⟨g, A, c, h1, h2, h3, h4⟩ := h
  exact ⟨g, A, c, h1, hS g h3.lt h2, (hk.block g h3.lt fun ⟨hd, _⟩ => hD g h3.lt h2 hd).trans h3, h4.kept hk⟩
theorem Item.Is.mono {it : Item} {S S' : Nat → Prop} {v : Value} {w : World} (h : it.Is S v w) (hS : ∀ g, S g → S' g) : it.Is S' v w := h.kept (D := fun _ => False) ⟨Nat.le_refl _, fun _ _ _ => rfl⟩ (fun _ _ _ h => h) fun g _ hg => hS g hg
def Hold (B : Nat) (w : World) (l : List (Value × Item)) : Prop := ∃ f : Nat → Nat, ∀ (i : Nat) (p : Value × Item), l[i]? = some p → p.2.Is (fun g => B ≤ g ∧ f g = i) p.1 w
section
variable {B : Nat} {w w' : World} {l : List (Value × Item)} {v : Value} {it : Item}
theorem Hold.nil (B : Nat) (w : World) : Hold B w [] := ⟨fun _ => 0, fun i p h => by cases h⟩
theorem Hold.head {p : Value × Item} (h : Hold B w (p :: l)) : p.2.Is (fun g => B ≤ g) p.1 w := by
 obtain ⟨f, h⟩ := h
 exact (h 0 p rfl).mono fun g hg => hg.1
end
def after_ (o : Oper) (j : Nat) : Bool := o.after.any fun e => decide (e.on = j) && Region.binds .any e
structure Got where
 sl : Nat
 eat : Option Nat
 it : Item
def slOf (gs : List Got) (i : Nat) : Nat := ((gs[i]?).map (·.sl)).getD 0
def eatOf (gs : List Got) (i : Nat) : Option Nat := (gs[i]?).bind (·.eat)
def itOf (gs : List Got) (i : Nat) : Item := ((gs[i]?).map (·.it)).getD (.val undef)
def behind (ops : Array Oper) (c i : Nat) : Bool := (ops[c]?).any fun o => after_ o i
def live (gs : List Got) (ops : Array Oper) (i j : Nat) : Bool := match eatOf gs j with
 | none => true
 | some c => decide (c = i) || behind ops c i
def early (ops : Array Oper) (i s : Nat) : Bool := (List.range ops.size).all fun k => decide (k = i) || behind ops k i || (ops[k]?).all fun o => decide (o.dst ≠ some s)
def known (gs : List Got) (ops : Array Oper) (o : Oper) (j : Nat) : Bool := after_ o j || (decide (ops.size ≤ j) && decide (j < gs.length))
def chkOp (sls : List Nat) (eats : List (Option Nat)) (n : Nat) (ops : Array Oper) (i : Nat) (o : Oper) : Bool :=
 o.guard.isNone && o.after.all (fun e => decide (e.on < i)) &&
 (match o.dst with
  | some d => decide (d = sls.getD i 0) && decide (d < n) && (List.range sls.length).all fun j => decide (j = i) || decide (sls.getD j 0 ≠ d) || behind ops j i || (match eats.getD j none with | some c => decide (c = i) || after_ o c | none => false)
  | none => true)
def chkOps (sls : List Nat) (eats : List (Option Nat)) (n : Nat) (ops : Array Oper) : Bool :=
 decide (ops.size ≤ sls.length) && (List.range ops.size).all fun i => match ops[i]? with
  | some o => chkOp sls eats n ops i o
  | none => false
def dsts (ops : Array Oper) : List (Option Nat) := ops.toList.map (·.dst)
def putAll (a : Act) : List (Option Nat × Value) → Act
 | [] => a
 | (d, v) :: r => putAll (a.put d v) r
section
variable (P : Program) (gs : List Got) (ops : Array Oper) (B : Nat) (w0 : World) (a0 : Act)
def StepOk (i : Nat) (o : Oper) : Prop :=
 ∀ (a : Act) (w : World) (S : Nat → Nat → Prop) (K : Act → World → Prop) (Q : Exit → Act → World → Prop),
  (∀ s, early ops i s = true → a.eval (.tmp s) = a0.eval (.tmp s)) → Below B w0 w → B ≤ w.heap.size →
  (∀ j, known gs ops o j = true → live gs ops i j = true → (itOf gs j).Is (S j) (a.eval (.tmp (slOf gs j))) w) →
  (∀ j g, S j g → B ≤ g) →
  (∀ v w', Below B w0 w' → Kept (fun g => ∃ j, eatOf gs j = some i ∧ S j g) w w' →
   (itOf gs i).Is (fun g => B ≤ g ∧ (w.heap.size ≤ g ∨ ∃ j, eatOf gs j = some i ∧ S j g)) v w' → (o.dst = none → v = a.eval (.tmp (slOf gs i))) → K (a.put o.dst v) w') →
  o.wp P a w K Q
structure JJ (listed : Array Bool) (a : Act) (w : World) : Prop where
 size : listed.size = ops.size
 tmps : a.tmps.size = a0.tmps.size
 defers : a.defers = a0.defers
 base : ∀ s, (∀ k o, ops[k]? = some o → o.dst = some s → listed.getD k false = false) → a.eval (.tmp s) = a0.eval (.tmp s)
 bel : Below B w0 w
 grow : w0.heap.size ≤ w.heap.size
 down : ∀ j o', ops[j]? = some o' → listed.getD j false = true → ∀ i, after_ o' i = true → listed.getD i false = true
 items : ∃ f : Nat → Nat, ∀ i, (listed.getD i false = true ∨ (ops.size ≤ i ∧ i < gs.length)) → (∀ c, eatOf gs i = some c → listed.getD c false = false) → (itOf gs i).Is (fun g => B ≤ g ∧ f g = i) (a.eval (.tmp (slOf gs i))) w
def StepsOk : Nat → List Oper → Prop
 | _, [] => True
 | i, o :: r => StepOk P gs ops B w0 a0 i o ∧ StepsOk (i + 1) r
end
theorem StepsOk.at_ {P : Program} {gs : List Got} {ops : Array Oper} {B : Nat} {w0 : World} {a0 : Act} : ∀ {l : List Oper} {k : Nat}, StepsOk P gs ops B w0 a0 k l → ∀ (i : Nat) (o : Oper), l[i]? = some o → StepOk P gs ops B w0 a0 (k + i) o
 | [], k, h, i, o, ho => by cases ho
 | x :: l, k, h, 0, o, ho => by
  obtain rfl := Option.some.inj ho
  exact h.1
 | x :: l, k, h, i + 1, o, ho => by
  have := StepsOk.at_ h.2 i o ho
  rw [show k + (i + 1) = k + 1 + i from by omega]
  exact this
theorem put_same {a : Act} {d : Nat} {v : Value} (h : d < a.tmps.size) : (a.put (some d) v).eval (.tmp d) = v := by
 simp [Act.put, Act.eval, h]
theorem put_ne {a : Act} {d s : Nat} {v : Value} (h : d ≠ s) : (a.put (some d) v).eval (.tmp s) = a.eval (.tmp s) := by
 simp [Act.put, Act.eval, Array.getElem?_setIfInBounds_ne h]
theorem put_size {a : Act} {d : Option Nat} {v : Value} : (a.put d v).tmps.size = a.tmps.size := by
 cases d <;> simp [Act.put]
theorem put_defers {a : Act} {d : Option Nat} {v : Value} : (a.put d v).defers = a.defers := by
 cases d <;> rfl
theorem getD_set_cases {listed : Array Bool} {i j : Nat} (h : (listed.setIfInBounds i true).getD j false = true) : j = i ∨ listed.getD j false = true := by
 by_cases e : i = j
 ·exact .inl e.symm
 ·right
  rwa [getD_set_ne false e] at h
theorem getD_lt {listed : Array Bool} {i : Nat} (h : listed.getD i false = true) : i < listed.size := by
 rcases Nat.lt_or_ge i listed.size with h1 | h1
 ·exact h1
 ·simp [Array.getElem?_eq_none h1] at h
theorem getD_rep (n j : Nat) : (Array.replicate n false).getD j false = false := by
 unfold Array.getD
 split <;> simp
theorem behind_at {ops : Array Oper} {c i : Nat} (h : behind ops c i = true) : ∃ o, ops[c]? = some o ∧ after_ o i = true := by
 unfold behind at h
 cases ho : ops[c]? with
 | none => rw [ho] at h; cases h
 | some o => rw [ho] at h; exact ⟨o, rfl, h⟩
theorem frame_put : ∀ (l : List (Option Nat)) (a0 a : Act), a.tmps.size = a0.tmps.size → a.defers = a0.defers → (∀ s, some s ∉ l → a.eval (.tmp s) = a0.eval (.tmp s)) → ∃ xs : List Value, xs.length = l.length ∧ a = putAll a0 (l.zip xs)
 | [], a0, a, h1, h2, h3 => by
  refine ⟨[], rfl, ?_⟩
  obtain ⟨t, d⟩ := a
  obtain ⟨t0, d0⟩ := a0
  simp only at h1 h2
  subst h2
  show Act.mk t d = Act.mk t0 d
  congr 1
  refine Array.ext h1 fun i hi hi0 => ?_
  have := h3 i (by simp)
  simp only [Act.eval] at this
  simpa [hi, hi0] using this
 | d :: l, a0, a, h1, h2, h3 => by
  cases d with
  | none =>
   obtain ⟨xs, hx, e⟩ := frame_put l a0 a h1 h2 fun s hs => h3 s (by simp [hs])
   exact ⟨undef :: xs, by simp [hx], e⟩
  | some d =>
   obtain ⟨xs, hx, e⟩ := frame_put l (a0.put (some d) (a.eval (.tmp d))) a (by rw [put_size]; exact h1) (by rw [put_defers]; exact h2) fun s hs => by
    by_cases e : d = s
    ·subst e
     by_cases hlt : d < a0.tmps.size
     ·rw [put_same hlt]
     ·simp [Act.eval, Act.put, h1, hlt]
    ·rw [put_ne e]
     exact h3 s (by simp only [List.mem_cons, not_or]; exact ⟨fun e2 => e (Option.some.inj e2).symm, hs⟩)
   exact ⟨a.eval (.tmp d) :: xs, by simp [hx], e⟩
def virt (gs : List Got) (ops : Array Oper) (a : Act) : List (Value × Item) := (gs.drop ops.size).map fun g => (a.eval (.tmp g.sl), g.it)
def lookAll (l : List (Option Nat × Value)) (s : Nat) (d : Value) : Value := l.foldl (fun acc p => if p.1 = some s then p.2 else acc) d
theorem eval_putAll (s : Nat) : ∀ (l : List (Option Nat × Value)) (a : Act), s < a.tmps.size → (putAll a l).eval (.tmp s) = lookAll l s (a.eval (.tmp s))
 | [], a, h => rfl
 | (d, v) :: l, a, h => by
  show (putAll (a.put d v) l).eval (.tmp s) = _
  rw [eval_putAll s l (a.put d v) (by rw [put_size]; exact h)]
  unfold lookAll
  simp only [List.foldl_cons]
  cases d with
  | none => rfl
  | some d =>
   by_cases e : d = s
   ·subst e
    rw [put_same h, if_pos rfl]
   ·rw [put_ne e, if_neg (fun e2 => e (Option.some.inj e2))]
def outs (os : List (Nat × Item)) (l : List (Option Nat × Value)) (a : Act) : List (Value × Item) := os.map fun p => (lookAll l p.1 (a.eval (.tmp p.1)), p.2)
theorem len_succ {α : Type} {xs : List α} {n : Nat} (h : xs.length = n + 1) : ∃ x ys, xs = x :: ys ∧ ys.length = n := by
 cases xs with
 | nil => cases h
 | cons x ys => exact ⟨x, ys, rfl, by simpa using h⟩
theorem len_zero {α : Type} {xs : List α} (h : xs.length = 0) : xs = [] := List.length_eq_zero_iff.1 h
theorem wp_items {P : Program} {ops : Array Oper} {Q : Exit → Act → World → Prop} {id : Nat} {a : Act} {w : World} (hm : P.follows .mixedOrders = true) (gs : List Got) (sls : List Nat) (eats : List (Option Nat))
  (hs : gs.map (·.sl) = sls) (he : gs.map (·.eat) = eats) (n B : Nat) (hB : B ≤ w.heap.size) (hn : a.tmps.size = n) (hc : chkOps sls eats n ops = true)
  (left : List Nat) (hl : (left.all fun i => decide (i < sls.length) && (eats.getD i none).isNone) = true) (hnd : left.Nodup)
  (hv : Hold B w (virt gs ops a))
  (hstep : StepsOk P gs ops B w a 0 ops.toList) (ds : List (Option Nat)) (hds : dsts ops = ds) (os : List (Nat × Item)) (hos : left.map (fun i => (slOf gs i, itOf gs i)) = os) (hfit : os.all (fun p => decide (p.1 < n)) = true)
  (hend : ∀ xs w', xs.length = ds.length → Below B w w' → w.heap.size ≤ w'.heap.size → Hold B w' (outs os (ds.zip xs) a) → Q .normal (putAll a (ds.zip xs)) w') :
  (Code.region id ops true).wp P Q a w := by
 subst hs he hds
 unfold chkOps at hc
 rw [Bool.and_eq_true] at hc
 obtain ⟨hcs, hc⟩ := hc
 have hlen : ops.size ≤ gs.length := by simpa using hcs
 have esl : ∀ i, (gs.map (·.sl)).getD i 0 = slOf gs i := fun i => by simp [slOf, List.getElem?_map]
 have eeat : ∀ i, (gs.map (·.eat)).getD i none = eatOf gs i := fun i => by
  simp only [eatOf, List.getD_eq_getElem?_getD, List.getElem?_map]
  cases gs[i]? <;> rfl
 have chk : ∀ i o, ops[i]? = some o → chkOp (gs.map (·.sl)) (gs.map (·.eat)) n ops i o = true := by
  intro i o ho
  have hlt := (Array.getElem?_eq_some_iff.1 ho).1
  have := List.all_eq_true.1 hc i (List.mem_range.2 hlt)
  rw [ho] at this
  exact this
 have hafter : ∀ {o' : Oper} {j : Nat}, after_ o' j = true → ∃ e ∈ o'.after, e.on = j ∧ Region.binds .any e = true := by
  intro o' j h
  obtain ⟨e, h1, h2⟩ := Array.any_eq_true'.1 h
  simp only [Bool.and_eq_true, decide_eq_true_eq] at h2
  exact ⟨e, h1, h2.1, h2.2⟩
 have hcb : ∀ (i : Nat) (o : Oper), ops[i]? = some o → ∀ e ∈ o.after, e.on < i := by
  intro i o ho e he
  have := chk i o ho
  unfold chkOp at this
  simp only [Bool.and_eq_true] at this
  simpa using Array.all_eq_true'.1 this.1.2 e he
 refine wp_region_inv hm (JJ gs ops B w a) hcb (fun _ _ _ h => h.size) (fun listed a1 w1 i hJ hi => ?_) (fun listed a1 w1 hJ hall => ?_) ?_
 ·obtain ⟨hun, o, ho, hdep⟩ := mem_ready.1 hi
  have hisz := (Array.getElem?_eq_some_iff.1 ho).1
  have hlt : i < listed.size := by rw [hJ.size]; exact hisz
  have hck := chk i o ho
  unfold chkOp at hck
  simp only [Bool.and_eq_true] at hck
  obtain ⟨⟨hg, -⟩, hd⟩ := hck
  have hguard : o.guard = none := by simpa using hg
  refine wpOp_step ho fun K' hK => ?_
  rw [if_pos (by simp [Region.wanted, hguard])]
  obtain ⟨f, hf⟩ := hJ.items
  have hunl : listed.getD i false = false := by
   simp [hlt] at hun ⊢
   exact hun
  have hl : ∀ j, after_ o j = true → listed.getD j false = true := fun j hj => by
   obtain ⟨e, h1, rfl, h3⟩ := hafter hj
   exact hdep e h1 h3
  have hbeh : ∀ c, behind ops c i = true → listed.getD c false = false := fun c hc => by
   obtain ⟨o', h1, h2⟩ := behind_at hc
   cases h3 : listed.getD c false with
   | false => rfl
   | true => rw [hJ.down c o' h1 h3 i h2] at hunl; cases hunl
  have hB1 : B ≤ w1.heap.size := Nat.le_trans hB hJ.grow
  have hso := hstep.at_ i o (by rw [Array.getElem?_toList]; exact ho)
  rw [Nat.zero_add] at hso
  refine hso a1 w1 (fun j g => B ≤ g ∧ f g = j) K' Q (fun s hs => hJ.base s fun k o' ho' hd' => ?_) hJ.bel hB1 (fun j hj hlv => hf j ?_ fun c hcj => ?_) (fun j g h => h.1) (fun v w' hb hk hit hv => ?_)
  ·have := List.all_eq_true.1 hs k (List.mem_range.2 (Array.getElem?_eq_some_iff.1 ho').1)
   simp only [Bool.or_eq_true, decide_eq_true_eq] at this
   rcases this with (h1 | h1) | h1
   ·rw [h1]; exact hunl
   ·exact hbeh k h1
   ·rw [ho'] at h1
    simp [hd'] at h1
  ·unfold known at hj
   simp only [Bool.or_eq_true, Bool.and_eq_true, decide_eq_true_eq] at hj
   exact hj.imp (hl j) fun h => h
  ·unfold live at hlv
   rw [hcj] at hlv
   simp only [Bool.or_eq_true, decide_eq_true_eq] at hlv
   rcases hlv with h1 | h1
   ·rw [h1]; exact hunl
   ·exact hbeh c h1
  ·refine hK _ _ ⟨by simp [hJ.size], by rw [put_size]; exact hJ.tmps, by rw [put_defers]; exact hJ.defers, fun s hs => ?_, hb, Nat.le_trans hJ.grow hk.size, fun j o' ho' hj q hq => ?_, fun g => if w1.heap.size ≤ g then i else if eatOf gs (f g) = some i then i else f g, fun j hj hcj => ?_⟩
   ·have hold := hJ.base s fun k o' ho' hd' => by
     have := hs k o' ho' hd'
     by_cases e : i = k
     ·subst e
      simp [hlt] at this
     ·rwa [getD_set_ne false e] at this
    cases hdst : o.dst with
    | none => exact hold
    | some d =>
     have : d ≠ s := by
      intro e
      subst e
      have := hs i o ho hdst
      simp [hlt] at this
     rw [put_ne this]
     exact hold
   ·rcases getD_set_cases hj with rfl | hjl
    ·rw [ho] at ho'
     injection ho' with ho'
     subst ho'
     have h1 := hl q hq
     by_cases e : j = q
     ·subst e
      simp [hlt]
     ·rwa [getD_set_ne false e]
    ·have h1 := hJ.down j o' ho' hjl q hq
     by_cases e : i = q
     ·subst e
      simp [hlt]
     ·rwa [getD_set_ne false e]
   ·have hval : (itOf gs i).Is (fun g => B ≤ g ∧ (w1.heap.size ≤ g ∨ ∃ j, eatOf gs j = some i ∧ (B ≤ g ∧ f g = j))) ((a1.put o.dst v).eval (.tmp (slOf gs i))) w' := by
     cases hdst : o.dst with
     | none => rw [hv hdst] at hit; exact hit
     | some d =>
      rw [hdst] at hd
      simp only [Bool.and_eq_true, decide_eq_true_eq] at hd
      rw [esl] at hd
      rw [← hd.1.1, put_same (by rw [hJ.tmps, hn]; exact hd.1.2)]
      exact hit
    have hj2 : j = i ∨ (j ≠ i ∧ (listed.getD j false = true ∨ (ops.size ≤ j ∧ j < gs.length))) := by
     by_cases e : j = i
     ·exact .inl e
     ·refine .inr ⟨e, ?_⟩
      rcases hj with h | h
      ·exact .inl ((getD_set_cases h).resolve_left e)
      ·exact .inr h
    rcases hj2 with rfl | ⟨hij, hjl⟩
    ·refine hval.mono fun g hg => ⟨hg.1, ?_⟩
     rcases hg.2 with h | ⟨q, h1, h2, h3⟩
     ·show (if w1.heap.size ≤ g then _ else _) = _
      rw [if_pos h]
     ·show (if w1.heap.size ≤ g then _ else _) = _
      split
      ·rfl
      ·rw [if_pos (by rw [h3]; exact h1)]
    ·have hej : eatOf gs j ≠ some i := fun e => by
      have := hcj i e
      simp [hlt] at this
     have hold := hf j hjl fun c hc => by
      have := hcj c hc
      by_cases hci : c = i
      ·rw [hci]; exact hunl
      ·rwa [getD_set_ne false (Ne.symm hci)] at this
     have hslot : (a1.put o.dst v).eval (.tmp (slOf gs j)) = a1.eval (.tmp (slOf gs j)) := by
      cases hdst : o.dst with
      | none => rfl
      | some d =>
       rw [hdst] at hd
       simp only [Bool.and_eq_true, decide_eq_true_eq] at hd
       refine put_ne fun e => ?_
       have hjs : j < gs.length := by
        rcases hjl with h | h
        ·have := getD_lt h
         rw [hJ.size] at this
         omega
        ·exact h.2
       have := List.all_eq_true.1 hd.2 j (List.mem_range.2 (by rw [List.length_map]; exact hjs))
       rw [esl, eeat] at this
       simp only [Bool.or_eq_true, decide_eq_true_eq] at this
       rcases this with ((h | h) | h) | h
       ·exact hij h
       ·exact h e.symm
       ·have h1 := hbeh j h
        rcases hjl with h2 | h2
        ·rw [h2] at h1; cases h1
        ·obtain ⟨o', h3, _⟩ := behind_at h
         have := (Array.getElem?_eq_some_iff.1 h3).1
         omega
       ·split at h
        ·rename_i c hc
         simp only [Bool.or_eq_true, decide_eq_true_eq] at h
         rcases h with h | h
         ·rw [h] at hc; exact hej hc
         ·have h1 := hl c h
          have h2 := hcj c hc
          by_cases hci : i = c
          ·subst hci
           simp [hlt] at h2
          ·rw [getD_set_ne false hci, h1] at h2
           cases h2
        ·cases h
     rw [hslot]
     refine hold.kept hk (fun g _ hg ⟨q, h1, h2, h3⟩ => ?_) fun g hlt2 hg => ⟨hg.1, ?_⟩
     ·rw [← h3, hg.2] at h1
      exact hej h1
     ·show (if w1.heap.size ≤ g then _ else _) = _
      rw [if_neg (by omega), hg.2, if_neg hej]
 ·obtain ⟨f, hf⟩ := hJ.items
  obtain ⟨xs, hx, e⟩ := frame_put (dsts ops) a a1 hJ.tmps hJ.defers fun s hs => hJ.base s fun k o ho hd => by
   exfalso
   exact hs (List.mem_map.2 ⟨o, by rw [Array.mem_toList_iff]; exact Array.mem_of_getElem? ho, hd⟩)
  subst e
  refine hend xs w1 hx hJ.bel hJ.grow ?_
  refine ⟨fun g => left.idxOf (f g), fun q p hp => ?_⟩
  unfold outs at hp
  rw [List.getElem?_map, ← hos, List.getElem?_map] at hp
  cases hq : left[q]? with
  | none => rw [hq] at hp; cases hp
  | some i =>
   rw [hq] at hp
   obtain rfl := Option.some.inj hp
   have hmem := List.mem_of_getElem? hq
   have h1 := List.all_eq_true.1 hl i hmem
   simp only [Bool.and_eq_true, decide_eq_true_eq] at h1
   rw [List.length_map, eeat] at h1
   have hnone : eatOf gs i = none := by simpa using h1.2
   have hdone : listed.getD i false = true ∨ (ops.size ≤ i ∧ i < gs.length) := by
    rcases Nat.lt_or_ge i ops.size with h2 | h2
    ·exact .inl (hall i h2)
    ·exact .inr ⟨h2, h1.1⟩
   have hsl : slOf gs i < a.tmps.size := by
    have := List.all_eq_true.1 hfit (slOf gs i, itOf gs i) (by rw [← hos]; exact List.mem_map.2 ⟨i, hmem, rfl⟩)
    rw [hn]
    simpa using this
   have h5 := hf i hdone fun c hc => by rw [hnone] at hc; cases hc
   rw [eval_putAll _ _ _ hsl] at h5
   refine h5.kept (D := fun _ => False) ⟨Nat.le_refl _, fun _ _ _ => rfl⟩ (fun _ _ _ h => h) fun g _ hg => ⟨hg.1, ?_⟩
   show left.idxOf (f g) = q
   rw [hg.2]
   obtain ⟨hql, he⟩ := List.getElem?_eq_some_iff.1 hq
   rw [← he, List.Nodup.idxOf_getElem hnd]
 ·obtain ⟨f, hf⟩ := hv
  refine ⟨by simp, rfl, rfl, fun _ _ => rfl, ⟨rfl, rfl, rfl, Nat.le_refl _, fun _ _ => rfl⟩, Nat.le_refl _, fun j o' _ hj => absurd hj (by rw [getD_rep]; decide), fun g => f g + ops.size, fun i hi hci => ?_⟩
  rcases hi with h | ⟨h1, h2⟩
  ·exact absurd h (by rw [getD_rep]; decide)
  ·have := hf (i - ops.size) (a.eval (.tmp (slOf gs i)), itOf gs i) (by
    unfold virt
    rw [List.getElem?_map, List.getElem?_drop, show ops.size + (i - ops.size) = i from by omega]
    unfold slOf itOf
    rw [List.getElem?_eq_getElem h2]
    rfl)
   have h3 : (itOf gs i).Is (fun g => B ≤ g ∧ f g = i - ops.size) (a.eval (.tmp (slOf gs i))) w := this
   exact h3.kept (D := fun _ => False) ⟨Nat.le_refl _, fun _ _ _ => rfl⟩ (fun _ _ _ h => h) fun g _ hg => ⟨hg.1, by show f g + ops.size = i; rw [hg.2]; omega⟩
end
section
open Go.RowKit
set_option linter.unusedVariables false
set_option linter.unusedSimpArgs false
theorem Kept.refl (S : Nat → Prop) (w : World) : Kept S w w := ⟨Nat.le_refl _, fun _ _ _ => rfl⟩
theorem Kept.of_below {S : Nat → Prop} {w w' : World} (h : Below w.heap.size w w') : Kept S w w' := ⟨h.size, fun g hg _ => h.block g hg⟩
theorem OwnT.turns {w : World} {v : Value} {L : List TokD} (h : OwnT w v L) {b : Nat} (e : v.ownBlock = some b) : Turns w b := by
 rcases h.2 with ⟨rfl, _⟩ | ⟨g, c, cur, rfl, hg, _⟩
 ·cases e
 ·have e2 : g = b := by simpa [Value.ownBlock] using e
  subst e2
  exact ⟨39, cur, .inl rfl, hg⟩
theorem grown_kept {w w' : World} {v : Value} {L : List TokD} {S : Nat → Prop} (h : OwnT w v L) (hS : ∀ b, v.ownBlock = some b → S b) (hg : w.grownBy w' v.ownBlock) : Kept S w w' :=
 ⟨hg.size, fun g hlt hn => hg.block g hlt fun e => hn ⟨hS g e.symm, h.turns e.symm⟩⟩
theorem Hold.own {B : Nat} {w : World} {v : Value} {L : List TokD} {l : List (Value × Item)} (h : Hold B w ((v, .row L) :: l)) : OwnT w v L := h.head.1
theorem below_low {B C : Nat} {w w' : World} (h : Below C w w') (hB : B ≤ C) : Below B w w' := ⟨h.os, h.tape, h.output, h.size, fun k hk => h.block k (by omega)⟩
theorem grown_below {B : Nat} {w w' : World} {r : Option Nat} (h : w.grownBy w' r) (hB : B ≤ w.heap.size) (hr : ∀ b, r = some b → B ≤ b) : Below B w w' :=
 ⟨h.os, h.tape, h.output, h.size, fun k hk => h.block k (by omega) fun e => by have := hr k e.symm; omega⟩
section
variable {gs : List Got} {ops : Array Oper} {B : Nat} {w0 : World} {a0 : Act} {i : Nat} {o : Oper}
structure At (gs : List Got) (ops : Array Oper) (B : Nat) (w0 : World) (a0 : Act) (i : Nat) (o : Oper) (a : Act) (w : World) (S : Nat → Nat → Prop) : Prop where
 base : ∀ s, early ops i s = true → a.eval (.tmp s) = a0.eval (.tmp s)
 bel : Below B w0 w
 size : B ≤ w.heap.size
 dep : ∀ j, known gs ops o j = true → live gs ops i j = true → (itOf gs j).Is (S j) (a.eval (.tmp (slOf gs j))) w
 own : ∀ j g, S j g → B ≤ g
def Ev (gs : List Got) (ops : Array Oper) (B : Nat) (w0 : World) (a0 : Act) (i : Nat) (o : Oper) (x : Operand) (v : Value) : Prop :=
 ∀ a w S, At gs ops B w0 a0 i o a w S → a.eval x = v
theorem Ev.const (v : Value) : Ev gs ops B w0 a0 i o (.const v) v := fun _ _ _ _ => rfl
theorem Ev.base {s : Nat} {v : Value} (h : early ops i s = true) (hv : a0.eval (.tmp s) = v) : Ev gs ops B w0 a0 i o (.tmp s) v := fun a _ _ hA => (hA.base s h).trans hv
theorem Ev.item (j : Nat) {s : Nat} {v : Value} (h : known gs ops o j = true) (he : live gs ops i j = true) (hs : slOf gs j = s) (hi : itOf gs j = .val v) : Ev gs ops B w0 a0 i o (.tmp s) v := fun a w S hA => by
 have := hA.dep j h he
 rw [hi, hs] at this
 exact this
def EvRow (gs : List Got) (ops : Array Oper) (B : Nat) (w0 : World) (a0 : Act) (i : Nat) (o : Oper) (x : Operand) (L : List TokD) : Prop :=
 ∀ a w S, At gs ops B w0 a0 i o a w S → ∃ A m c, a.eval x = .slice A m c ∧ L.length = m ∧ Rd w A m c 4 (L.flatMap tcs)
theorem EvRow.of_own {x : Operand} {L : List TokD} (h : ∀ a w S, At gs ops B w0 a0 i o a w S → OwnT w (a.eval x) L) : EvRow gs ops B w0 a0 i o x L := fun a w S hA => by
 obtain ⟨A, c, e, hr, _⟩ := Own.rd (h a w S hA)
 exact ⟨A, _, c, e, rfl, hr⟩
theorem EvRow.item (j : Nat) {s : Nat} {L : List TokD} (h : known gs ops o j = true) (he : live gs ops i j = true) (hs : slOf gs j = s) (hi : itOf gs j = .row L) : EvRow gs ops B w0 a0 i o (.tmp s) L :=
 .of_own fun a w S hA => by
  have := hA.dep j h he
  rw [hi, hs] at this
  exact this.1
theorem step_val {v : Value} (hr : ∀ a w S, At gs ops B w0 a0 i o a w S → (execOp a.eval o).run Tryd.prog w = .ok (.value v) w) (hit : itOf gs i = .val v) (hd : o.dst ≠ none) : StepOk Tryd.prog gs ops B w0 a0 i o := by
 intro a w S K Q hb hbel hB hdp hS hK
 unfold Oper.wp
 rw [hr a w S ⟨hb, hbel, hB, hdp, hS⟩, Oper.upon_value]
 exact hK _ _ hbel (Kept.refl _ _) (by rw [hit]; rfl) fun h => absurd h hd
theorem step_move {x : Operand} {v : Value} (hop : o.op = .move x) (hx : Ev gs ops B w0 a0 i o x v) (hit : itOf gs i = .val v) (hd : o.dst ≠ none) : StepOk Tryd.prog gs ops B w0 a0 i o :=
 step_val (fun a w S hA => by unfold execOp; simp only [hop, hx a w S hA, Sem.run_pure]) hit hd
theorem step_pass (j : Nat) {s : Nat} (hop : o.op = .move (.tmp s) ∨ o.op = .assign (.tmp s)) (h : known gs ops o j = true) (he : eatOf gs j = some i) (hs : slOf gs j = s) (hit : itOf gs i = itOf gs j) (hd : o.dst ≠ none) : StepOk Tryd.prog gs ops B w0 a0 i o := by
 intro a w S K Q hb hbel hB hdp hS hK
 have hl : live gs ops i j = true := by unfold live; rw [he]; simp
 have hi := hdp j h hl
 rw [hs] at hi
 have hrun : (execOp a.eval o).run Tryd.prog w = .ok (.value (a.eval (.tmp s))) w := by
  unfold execOp
  rcases hop with hop | hop <;> simp only [hop, Sem.run_pure]
 unfold Oper.wp
 rw [hrun, Oper.upon_value]
 exact hK _ _ hbel (Kept.refl _ _) (by rw [hit]; exact hi.mono fun g hg => ⟨hS j g hg, .inr ⟨j, he, hg⟩⟩) fun h => absurd h hd
theorem step_call {f : FuncId} (hf : ∀ (args : Array Value) (w : World), (callFunc f args).run Tryd.prog w = .ok (.enter f args) w) {xs : Array Operand} {ps : List Value} {ts : Array TypeId} (hop : o.op = .call { callee := .value (.func f), args := xs, argTypes := ts })
  (hx : ∀ a w S, At gs ops B w0 a0 i o a w S → xs.toList.map a.eval = ps)
  (hc : ∀ a w S, At gs ops B w0 a0 i o a w S → Calls Tryd.prog f ps.toArray w fun e w' => ∃ v, e = .returned v ∧ Below w.heap.size w w' ∧ (itOf gs i).Is (fun g => w.heap.size ≤ g) v w') (hd : o.dst ≠ none) : StepOk Tryd.prog gs ops B w0 a0 i o := by
 intro a w S K Q hb hbel hB hdp hS hK
 have hA : At gs ops B w0 a0 i o a w S := ⟨hb, hbel, hB, hdp, hS⟩
 have hrun : (execOp a.eval o).run Tryd.prog w = .ok (.enter f ps.toArray) w := by
  rw [← hx a w S hA]
  unfold execOp
  simp only [hop, resolve, Deferred.ofValue, invoke]
  go_simp
  rw [← Array.toList_map]
 unfold Oper.wp
 rw [hrun, Oper.upon_enter]
 refine (hc a w S hA).mono ?_
 rintro e w' ⟨v, rfl, hb', hi⟩
 exact hK _ _ (hbel.trans (below_low hb' hB)) (Kept.of_below hb') (hi.mono fun g hg => ⟨by omega, .inl hg⟩) fun h => absurd h hd
theorem step_made {M : List TokD} (hr : ∀ a w S, At gs ops B w0 a0 i o a w S → (execOp a.eval o).run Tryd.prog w = .ok (.value (.slice (some ⟨w.heap.size, 0, none⟩) M.length M.length)) (w.alloc (.cells (M.flatMap tcs).toArray 39))) (hm : M.length ≤ 1000) (hit : itOf gs i = .row M) (hd : o.dst ≠ none) : StepOk Tryd.prog gs ops B w0 a0 i o := by
 intro a w S K Q hb hbel hB hdp hS hK
 unfold Oper.wp
 rw [hr a w S ⟨hb, hbel, hB, hdp, hS⟩, Oper.upon_value]
 have hbw : Below w.heap.size w (w.alloc (.cells (M.flatMap tcs).toArray 39)) := bl1
 refine hK _ _ (hbel.trans (below_low hbw hB)) (Kept.of_below hbw) ?_ fun h => absurd h hd
 rw [hit]
 exact ⟨OwnT.made w M _ _ rfl rfl (by omega), fun b e => by have e2 : w.heap.size = b := (by simpa [Value.ownBlock] using e); exact ⟨by omega, .inl (by omega)⟩⟩
theorem step_app (j : Nat) {s : Nat} {x : Operand} {L M : List TokD} (hop : o.op = .call { callee := .builtin .append, args := #[.tmp s, x], argTypes := #[26, 26] }) (h : known gs ops o j = true) (he : eatOf gs j = some i) (hs : slOf gs j = s) (hi : itOf gs j = .row L)
  (hx : EvRow gs ops B w0 a0 i o x M) (hbound : L.length + M.length ≤ 1099511627776) (hit : itOf gs i = .row (L ++ M)) (hd : o.dst ≠ none) : StepOk Tryd.prog gs ops B w0 a0 i o := by
 intro a w S K Q hb hbel hB hdp hS hK
 have hA : At gs ops B w0 a0 i o a w S := ⟨hb, hbel, hB, hdp, hS⟩
 obtain ⟨A, m, c, hxe, hm, hr⟩ := hx a w S hA
 have hl : live gs ops i j = true := by unfold live; rw [he]; simp
 have hj := hdp j h hl
 rw [hs, hi] at hj
 obtain ⟨i0, hi0, hz0, hz1, hz2⟩ := info_parts info_Tok
 refine wp_append_Own w (.tmp s) x 26 hop 39 i0 _ 4 40 Tryd.underlying26 hi0 hz0 hz1 hz2 rfl (a.eval (.tmp s)) L.length (L.flatMap tcs) rfl hj.1 A m c (M.flatMap tcs) hxe hr (tflat_one M) (by omega) (by omega) fun v' w' h1 h2 h3 => ?_
 have hsb : ∀ b, (a.eval (.tmp s)).ownBlock = some b → B ≤ b := fun b e => hS j b (hj.2 b e)
 refine hK v' w' (hbel.trans (grown_below h2 hB hsb)) (grown_kept hj.1 (fun b e => ⟨j, he, hj.2 b e⟩) h2) ?_ fun h => absurd h hd
 rw [hit]
 refine ⟨?_, fun b e => ?_⟩
 ·unfold OwnT
  rw [List.length_append, List.flatMap_append, hm]
  exact h1
 ·rcases h3 with e' | e' <;> rw [e'] at e
  ·exact ⟨hsb b e, .inr ⟨j, he, hj.2 b e⟩⟩
  ·injection e with e
   exact ⟨by omega, .inl (by omega)⟩
theorem step_addr {t : TypeId} {x y : Operand} {p q v : Value} (hop : o.op = .indexAddr t x y) (hx : Ev gs ops B w0 a0 i o x p) (hy : Ev gs ops B w0 a0 i o y q) (hr : ∀ w, (Instr.indexAt t p q).run Tryd.prog w = .ok v w) (hit : itOf gs i = .val v) (hd : o.dst ≠ none) : StepOk Tryd.prog gs ops B w0 a0 i o :=
 step_val (fun a w S hA => by unfold execOp; simp only [hop, hx a w S hA, hy a w S hA, Sem.run_bind, hr w, Result.andThen_ok, Sem.run_pure]) hit hd
theorem step_load {t : TypeId} {x : Operand} {p v : Value} (hop : o.op = .load t x) (hx : Ev gs ops B w0 a0 i o x p) (hr : ∀ a w S, At gs ops B w0 a0 i o a w S → (Instr.loadAt t p).run Tryd.prog w = .ok v w) (hit : itOf gs i = .val v) (hd : o.dst ≠ none) : StepOk Tryd.prog gs ops B w0 a0 i o :=
 step_val (fun a w S hA => by unfold execOp; simp only [hop, hx a w S hA, Sem.run_bind, hr a w S hA, Result.andThen_ok, Sem.run_pure]) hit hd
theorem run_made1 (t : TokD) (w : World) : (Instr.buildSlice 26 1 #[(0, tokV t)]).run Tryd.prog w = .ok (.slice (some ⟨w.heap.size, 0, none⟩) 1 1) (w.alloc (.cells (tcs t).toArray 39)) := by
 unfold tokV tcs
 go_simp
theorem run_made2 (t u : TokD) (w : World) : (Instr.buildSlice 26 2 #[(0, tokV t), (1, tokV u)]).run Tryd.prog w = .ok (.slice (some ⟨w.heap.size, 0, none⟩) 2 2) (w.alloc (.cells (tcs t ++ tcs u).toArray 39)) := by
 unfold tokV tcs
 go_simp
theorem step_made1 {x : Operand} {t : TokD} (hop : o.op = .buildSlice 26 1 #[(0, x)]) (hx : Ev gs ops B w0 a0 i o x (tokV t)) (hit : itOf gs i = .row [t]) (hd : o.dst ≠ none) : StepOk Tryd.prog gs ops B w0 a0 i o :=
 step_made (M := [t]) (fun a w S hA => by unfold execOp; simp only [hop, List.map_toArray, List.map_cons, List.map_nil, hx a w S hA, Sem.run_bind, run_made1, Result.andThen_ok, Sem.run_pure]; rfl) (by simp) hit hd
theorem step_made2 {x y : Operand} {t u : TokD} (hop : o.op = .buildSlice 26 2 #[(0, x), (1, y)]) (hx : Ev gs ops B w0 a0 i o x (tokV t)) (hy : Ev gs ops B w0 a0 i o y (tokV u)) (hit : itOf gs i = .row [t, u]) (hd : o.dst ≠ none) : StepOk Tryd.prog gs ops B w0 a0 i o :=
 step_made (M := [t, u]) (fun a w S hA => by unfold execOp; simp only [hop, List.map_toArray, List.map_cons, List.map_nil, hx a w S hA, hy a w S hA, Sem.run_bind, run_made2, Result.andThen_ok, Sem.run_pure]; rfl) (by simp) hit hd
end
theorem RowN.belw {w w' : World} {v : Value} {T : List NodeD} (h : RowN (fun _ => False) w v T) (hb : Below w.heap.size w w') : RowN (fun _ => False) w' v T := h.kept (S := fun _ => False) (Kept.of_below hb)
theorem RowN.nth {F : Nat → Prop} {w : World} {A : Option Addr} {m c : Nat} {ns : List NodeD} (h : RowN F w (.slice A m c) ns) {j : Nat} {op a n : Int} {s : ByteArray} {ks : List Int} (hj : ns[j]? = some ⟨op, a, s, n, ks⟩) : ∃ b o A1 c1, A = some ⟨b, o, none⟩ ∧ b < w.heap.size ∧ w.cell? ⟨b, o + j * 5, none⟩ = some (.int .i64 op) ∧ w.cell? ⟨b, o + j * 5 + 1, none⟩ = some (.int .i64 a) ∧ w.cell? ⟨b, o + j * 5 + 2, none⟩ = some (.string s) ∧ w.cell? ⟨b, o + j * 5 + 3, none⟩ = some (.int .i64 n) ∧ w.cell? ⟨b, o + j * 5 + 4, none⟩ = some (.slice A1 ks.length c1) ∧ Rd w A1 ks.length c1 1 (ics ks) := by
 obtain ⟨A', c', e, hn⟩ := h.node
 obtain ⟨b, o, A1, c1, e2, hb, h0, h1, h2, h3, h4, hr⟩ := hn j _ hj
 subst e2
 injection e with e
 exact ⟨b, o, A1, c1, e, hb, h0, h1, h2, h3, h4, hr⟩
end
section
open Go.RowKit
set_option linter.unusedVariables false
set_option linter.unusedSimpArgs false
theorem Rd.tok {w : World} {A : Option Addr} {n c : Nat} {L : List TokD} (h : Rd w A n c 4 (L.flatMap tcs)) {k : Nat} {t : TokD} (hk : L[k]? = some t) (hn : 0 < n) : ∃ b o, A = some ⟨b, o, none⟩ ∧ b < w.heap.size ∧ w.cell? ⟨b, o + k * 4, none⟩ = some (.int .i64 t.k) ∧ w.cell? ⟨b, o + k * 4 + 1, none⟩ = some (.int .i64 t.at_) ∧ w.cell? ⟨b, o + k * 4 + 2, none⟩ = some (.string t.s) ∧ w.cell? ⟨b, o + k * 4 + 3, none⟩ = some (.int .i64 t.n) := by
 obtain ⟨b, o, e, hb, hc⟩ := h.2.2.2 hn
 exact ⟨b, o, e, hb, hc _ _ (flat_at hk 0 _ rfl), hc _ _ (flat_at hk 1 _ rfl), hc _ _ (flat_at hk 2 _ rfl), hc _ _ (flat_at hk 3 _ rfl)⟩
end
end Go.Proofs.YtjdcicopjipmnaaDoor
