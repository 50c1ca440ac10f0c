/- A drawn region by items: what each operation leaves, and in which blocks it lies; whatever the order. -/
import Derived.Test.YtjdcicopjipmnaaDoorOpr
import Derived.RegionTactic
namespace Go.Proofs.YtjdcicopjipmnaaDoor
open Go.RowKit
set_option linter.unusedVariables false
set_option linter.unusedSimpArgs false

theorem countP_lt {α : Type} {l : List α} {a b : α → Bool} (h : ∀ x ∈ l, b x = true → a x = true) {x : α} (hx : x ∈ l) (ha : a x = true) (hb : b x = false) : l.countP b < l.countP a := by
  induction l with
  | nil => cases hx
  | cons y l ih =>
    simp only [List.countP_cons]
    rcases List.mem_cons.1 hx with rfl | hx
    · have := List.countP_mono_left (l := l) (p := b) (q := a) fun z hz hz' => h z (by simp [hz]) hz'
      simp [ha, hb]
      omega
    · have h1 := ih (fun z hz => h z (by simp [hz])) hx
      have h2 := h y (by simp)
      cases hby : b y <;> cases hay : a y <;> simp_all <;> omega
/-- any order: an invariant that tells which operations are done -/
theorem wpAny_inv {P : Program} {md : Region.Mode} {ops : Array Oper} {Q : Exit → Act → World → Prop} (J : Array Bool → Act → World → Prop)
    (hlt : ∀ (i : Nat) (o : Oper), ops[i]? = some o → ∀ e ∈ o.after, e.on < i)
    (hsz : ∀ listed a w, J listed a w → listed.size = ops.size)
    (hstep : ∀ listed a w i, J listed a w → i ∈ Region.ready md ops listed → wpOp P ops Q i (fun a' w' => J (listed.setIfInBounds i true) a' w') a w)
    (hend : ∀ listed a w, J listed a w → (∀ i, i < ops.size → listed.getD i false = true) → Q .normal a w) :
    ∀ (k : Nat) (listed : Array Bool) (a : Act) (w : World), (List.range ops.size).countP (fun i => !listed.getD i true) ≤ k → J listed a w → wpAny P md ops Q k listed a w := by
  have hall : ∀ listed : Array Bool, listed.size = ops.size → Region.ready md ops listed = [] → ∀ i, i < ops.size → listed.getD i false = true := by
    intro listed hs hr i
    induction i using Nat.strongRecOn with
    | _ i ih =>
      intro hi
      cases hc : listed.getD i false with
      | true => rfl
      | false =>
        exfalso
        have hit : listed.getD i true = false := by
          have h1 : i < listed.size := by omega
          simp [h1] at hc ⊢
          exact hc
        have : i ∈ Region.ready md ops listed := by
          rw [mem_ready]
          refine ⟨hit, ops[i], Array.getElem?_eq_getElem hi, fun e he _ => ?_⟩
          have := hlt i _ (Array.getElem?_eq_getElem hi) e he
          exact ih e.on this (by omega)
        rw [hr] at this
        cases this
  intro k
  induction k with
  | zero =>
    intro listed a w hk hJ
    have hr : Region.ready md ops listed = [] := by
      rw [List.eq_nil_iff_forall_not_mem]
      intro i hi
      obtain ⟨h0, o, ho, _⟩ := mem_ready.1 hi
      have hlt := (Array.getElem?_eq_some_iff.1 ho).1
      have h1 : 0 < (List.range ops.size).countP (fun i => !listed.getD i true) := List.countP_pos_iff.2 ⟨i, List.mem_range.2 hlt, by rw [h0]; rfl⟩
      omega
    exact ⟨hr, hend _ _ _ hJ (hall _ (hsz _ _ _ hJ) hr)⟩
  | succ k ih =>
    intro listed a w hk hJ
    refine ⟨fun hr => hend _ _ _ hJ (hall _ (hsz _ _ _ hJ) hr), fun i hi => ?_⟩
    refine wpOp_mono (fun a' w' h' => ih _ _ _ ?_ h') (hstep _ _ _ _ hJ hi)
    obtain ⟨h0, o, ho, _⟩ := mem_ready.1 hi
    have hlt := (Array.getElem?_eq_some_iff.1 ho).1
    have hls : i < listed.size := by rw [hsz _ _ _ hJ]; exact hlt
    have := countP_lt (l := List.range ops.size) (a := fun j => !listed.getD j true) (b := fun j => !(listed.setIfInBounds i true).getD j true) (fun j _ hj => by
      by_cases e : i = j
      · subst e
        simp [hls] at hj
      · rw [getD_set_ne true e] at hj
        exact hj) (x := i) (List.mem_range.2 hlt) (by rw [h0]; rfl) (by simp [hls])
    omega
theorem wp_region_inv {P : Program} {ops : Array Oper} {Q : Exit → Act → World → Prop} {id : Nat} {a : Act} {w : World} (hm : P.follows .mixedOrders = true) (J : Array Bool → Act → World → Prop)
    (hlt : ∀ (i : Nat) (o : Oper), ops[i]? = some o → ∀ e ∈ o.after, e.on < i)
    (hsz : ∀ listed a w, J listed a w → listed.size = ops.size)
    (hstep : ∀ listed a w i, J listed a w → i ∈ Region.ready .any ops listed → wpOp P ops Q i (fun a' w' => J (listed.setIfInBounds i true) a' w') a w)
    (hend : ∀ listed a w, J listed a w → (∀ i, i < ops.size → listed.getD i false = true) → Q .normal a w)
    (h : J (Array.replicate ops.size false) a w.drew) : (Code.region id ops true).wp P Q a w :=
  wp_region_any hm (wpAny_inv J hlt hsz hstep hend _ _ _ _ (by
    have := List.countP_le_length (p := fun i => !(Array.replicate ops.size false).getD i true) (l := List.range ops.size)
    simpa using this) h)

/-- what a value is, and what lies where -/
inductive Item
  | val (v : Value)
  | row (L : List TokD)
  | ptr (t : TypeId) (cs : Array Value)
  | got (a b e : Int) (T : List NodeD)
  | gotAt (a b e : Int) (T : List NodeD)
/-- types whose blocks an operation may turn, if it takes them over -/
def Turns (w : World) (g : Nat) : Prop := ∃ t cs, (t = 39 ∨ t = 31) ∧ Blk w g t cs
def Item.Is : Item → (Nat → Prop) → Value → World → Prop
  | .val v0, _, v, _ => v = v0
  | .row L, S, v, w => OwnT w v L ∧ ∀ b, v.ownBlock = some b → S b
  | .ptr t cs, S, v, w => ∃ b, v = .pointer (some ⟨b, 0, none⟩) ∧ S b ∧ Blk w b t cs
  | .got a b e T, _, v, w => ∃ A c, v = .agg #[.int .i64 a, .int .i64 b, .int .i64 e, .slice A T.length c] ∧ RowN (fun _ => False) w (.slice A T.length c) T
  | .gotAt a b e T, S, v, w => ∃ g A c, v = .pointer (some ⟨g, 0, none⟩) ∧ S g ∧ Blk w g 31 #[.int .i64 a, .int .i64 b, .int .i64 e, .slice A T.length c] ∧ RowN (fun _ => False) w (.slice A T.length c) T
/-- all blocks lie on but those of S that may turn -/
structure Kept (S : Nat → Prop) (w w' : World) : Prop where
  size : w.heap.size ≤ w'.heap.size
  block : ∀ g, g < w.heap.size → ¬ (S g ∧ Turns w g) → w'.heap[g]? = w.heap[g]?
theorem turns_no {w : World} {g : Nat} {t : TypeId} {cs : Array Value} (h : Blk w g t cs) (h1 : t ≠ 39) (h2 : t ≠ 31) : ¬ Turns w g := by
  rintro ⟨t', cs', h3, h4⟩
  unfold Blk at h h4
  rw [h] at h4
  cases h4
  rcases h3 with h3 | h3
  · exact h1 h3
  · exact h2 h3
theorem RowN.kept {w w' : World} {v : Value} {T : List NodeD} {S : Nat → Prop} (h : RowN (fun _ => False) w v T) (hk : Kept S w w') : RowN (fun _ => False) w' v T := by
  obtain ⟨Z, e, z1, z2⟩ := h
  refine RowN.keep ⟨Z, e, z1, z2⟩ (fun b hbv => hk.block b (z1.lt hbv) fun ⟨_, ht⟩ => ?_) (fun k cs hlt _ hc => hk.block k hlt fun ⟨_, ht⟩ => turns_no (t := 3) hc (by decide) (by decide) ht) (fun k _ hf => hf)
  obtain ⟨t, cs, h3, h4⟩ := ht
  exact own_blk_ne z1 h4 (by rcases h3 with rfl | rfl <;> decide) hbv
theorem Item.Is.kept {it : Item} {S S' : Nat → Prop} {v : Value} {w w' : World} (h : it.Is S v w) {D : Nat → Prop} (hk : Kept D w w') (hD : ∀ g, g < w.heap.size → S g → ¬ D g) (hS : ∀ g, g < w.heap.size → S g → S' g) : it.Is S' v w' := by
  cases it with
  | val v0 => exact h
  | row L => exact ⟨h.1.keep fun b e => hk.block b (h.1.lt e) fun ⟨hd, _⟩ => hD b (h.1.lt e) (h.2 b e) hd, fun b e => hS b (h.1.lt e) (h.2 b e)⟩
  | ptr t cs =>
    obtain ⟨b, h1, h2, h3⟩ := h
    exact ⟨b, h1, hS b h3.lt h2, (hk.block b h3.lt fun ⟨hd, _⟩ => hD b h3.lt h2 hd).trans h3⟩
  | got a b e T =>
    obtain ⟨A, c, h1, h2⟩ := h
    exact ⟨A, c, h1, h2.kept hk⟩
  | gotAt a b e T =>
    obtain ⟨g, A, c, h1, h2, h3, h4⟩ := h
    exact ⟨g, A, c, h1, hS g h3.lt h2, (hk.block g h3.lt fun ⟨hd, _⟩ => hD g h3.lt h2 hd).trans h3, h4.kept hk⟩
theorem Item.Is.mono {it : Item} {S S' : Nat → Prop} {v : Value} {w : World} (h : it.Is S v w) (hS : ∀ g, S g → S' g) : it.Is S' v w := h.kept (D := fun _ => False) ⟨Nat.le_refl _, fun _ _ _ => rfl⟩ (fun _ _ _ h => h) fun g _ hg => hS g hg
/-- values, and what each of them is; each in blocks of its own, at B and behind it -/
def Hold (B : Nat) (w : World) (l : List (Value × Item)) : Prop := ∃ f : Nat → Nat, ∀ (i : Nat) (p : Value × Item), l[i]? = some p → p.2.Is (fun g => B ≤ g ∧ f g = i) p.1 w
section
variable {B : Nat} {w w' : World} {l : List (Value × Item)} {v : Value} {it : Item}
theorem Hold.nil (B : Nat) (w : World) : Hold B w [] := ⟨fun _ => 0, fun i p h => by cases h⟩
theorem Hold.bel (h : Hold B w l) (hb : Below w.heap.size w w') : Hold B w' l := by
  obtain ⟨f, h⟩ := h
  exact ⟨f, fun i p hp => (h i p hp).kept (D := fun _ => False) ⟨hb.size, fun g hg _ => hb.block g hg⟩ (fun _ _ _ h => h) fun g _ hg => hg⟩
/-- a new one -/
theorem Hold.new (h : Hold B w l) (hb : Below w.heap.size w w') (hB : B ≤ w.heap.size) (hi : it.Is (fun g => w.heap.size ≤ g) v w') : Hold B w' ((v, it) :: l) := by
  obtain ⟨f, h⟩ := h
  refine ⟨fun g => if w.heap.size ≤ g then 0 else f g + 1, fun i p hp => ?_⟩
  cases i with
  | zero =>
    obtain rfl := Option.some.inj hp
    exact hi.mono fun g hg => ⟨by omega, if_pos hg⟩
  | succ i =>
    exact (h i p hp).kept (D := fun _ => False) ⟨hb.size, fun g hg _ => hb.block g hg⟩ (fun _ _ _ h => h) fun g hlt hg => ⟨hg.1, by
      show (if w.heap.size ≤ g then 0 else f g + 1) = i + 1
      rw [if_neg (by omega), hg.2]⟩
theorem Hold.val (h : Hold B w l) (v : Value) : Hold B w ((v, .val v) :: l) := by
  obtain ⟨f, h⟩ := h
  refine ⟨fun g => f g + 1, fun i p hp => ?_⟩
  cases i with
  | zero =>
    obtain rfl := Option.some.inj hp
    rfl
  | succ i => exact (h i p hp).mono fun g hg => ⟨hg.1, congrArg (· + 1) hg.2⟩
theorem Hold.tail {p : Value × Item} (h : Hold B w (p :: l)) : Hold B w l := by
  obtain ⟨f, h⟩ := h
  exact ⟨fun g => f g - 1, fun i p hp => (h (i + 1) p hp).mono fun g hg => ⟨hg.1, congrArg (· - 1) hg.2⟩⟩
/-- one is taken to the front -/
theorem Hold.front (h : Hold B w l) (i : Nat) {p : Value × Item} (hi : l[i]? = some p) : Hold B w (p :: l.eraseIdx i) := by
  obtain ⟨f, h⟩ := h
  refine ⟨fun g => if f g = i then 0 else if f g < i then f g + 1 else f g, fun j q hq => ?_⟩
  cases j with
  | zero =>
    obtain rfl := Option.some.inj hq
    exact (h i _ hi).mono fun g hg => ⟨hg.1, if_pos hg.2⟩
  | succ j =>
    have hq : (l.eraseIdx i)[j]? = some q := hq
    rw [List.getElem?_eraseIdx] at hq
    split at hq
    · exact (h j q hq).mono fun g hg => ⟨hg.1, by
        show (if f g = i then 0 else if f g < i then f g + 1 else f g) = j + 1
        rw [hg.2, if_neg (by omega), if_pos (by omega)]⟩
    · exact (h (j + 1) q hq).mono fun g hg => ⟨hg.1, by
        show (if f g = i then 0 else if f g < i then f g + 1 else f g) = j + 1
        rw [hg.2, if_neg (by omega), if_neg (by omega)]⟩
theorem Hold.head {p : Value × Item} (h : Hold B w (p :: l)) : p.2.Is (fun g => B ≤ g) p.1 w := by
  obtain ⟨f, h⟩ := h
  exact (h 0 p rfl).mono fun g hg => hg.1
/-- the first one turns into another one: it takes new blocks and its own -/
theorem Hold.turn {p : Value × Item} (h : Hold B w (p :: l)) (hB : B ≤ w.heap.size) (hs : w.heap.size ≤ w'.heap.size)
    (hk : ∀ S : Nat → Prop, p.2.Is S p.1 w → (∀ g, S g → B ≤ g) → Kept S w w' ∧ it.Is (fun g => B ≤ g ∧ (w.heap.size ≤ g ∨ S g)) v w') : Hold B w' ((v, it) :: l) := by
  obtain ⟨f, h⟩ := h
  obtain ⟨k, hv⟩ := hk _ (h 0 p rfl) fun g hg => hg.1
  refine ⟨fun g => if w.heap.size ≤ g then 0 else f g, fun i q hq => ?_⟩
  cases i with
  | zero =>
    obtain rfl := Option.some.inj hq
    refine hv.mono fun g hg => ⟨hg.1, ?_⟩
    show (if w.heap.size ≤ g then 0 else f g) = 0
    split
    · rfl
    · rcases hg.2 with h1 | h1
      · omega
      · exact h1.2
  | succ i =>
    refine (h (i + 1) q hq).kept k (fun g _ hg hd => ?_) fun g hlt hg => ⟨hg.1, ?_⟩
    · rw [hg.2] at hd
      exact absurd hd.2 (by omega)
    · show (if w.heap.size ≤ g then 0 else f g) = i + 1
      rw [if_neg (by omega), hg.2]
end
/-- does o stand behind operation j? -/
def after_ (o : Oper) (j : Nat) : Bool := o.after.any fun e => decide (e.on = j) && Region.binds .any e
/-- an operation's item (behind the operations: what is there ahead of them): in which slot it lies, which operation takes it over, what it is -/
structure Got where
  sl : Nat
  eat : Option Nat
  it : Item
def slOf (gs : List Got) (i : Nat) : Nat := ((gs[i]?).map (·.sl)).getD 0
def eatOf (gs : List Got) (i : Nat) : Option Nat := (gs[i]?).bind (·.eat)
def itOf (gs : List Got) (i : Nat) : Item := ((gs[i]?).map (·.it)).getD (.val undef)
/-- operation c stands behind operation i -/
def behind (ops : Array Oper) (c i : Nat) : Bool := (ops[c]?).any fun o => after_ o i
/-- the item is there when operation i is done -/
def live (gs : List Got) (ops : Array Oper) (i j : Nat) : Bool := match eatOf gs j with
  | none => true
  | some c => decide (c = i) || behind ops c i
/-- the slot is as it was when operation i is done -/
def early (ops : Array Oper) (i s : Nat) : Bool := (List.range ops.size).all fun k => decide (k = i) || behind ops k i || (ops[k]?).all fun o => decide (o.dst ≠ some s)
def known (gs : List Got) (ops : Array Oper) (o : Oper) (j : Nat) : Bool := after_ o j || (decide (ops.size ≤ j) && decide (j < gs.length))
def chkOp (sls : List Nat) (eats : List (Option Nat)) (n : Nat) (ops : Array Oper) (i : Nat) (o : Oper) : Bool :=
  o.guard.isNone && o.after.all (fun e => decide (e.on < i)) &&
  (match o.dst with
    | some d => decide (d = sls.getD i 0) && decide (d < n) && (List.range sls.length).all fun j => decide (j = i) || decide (sls.getD j 0 ≠ d) || behind ops j i || (match eats.getD j none with | some c => decide (c = i) || after_ o c | none => false)
    | none => true)
def chkOps (sls : List Nat) (eats : List (Option Nat)) (n : Nat) (ops : Array Oper) : Bool :=
  decide (ops.size ≤ sls.length) && (List.range ops.size).all fun i => match ops[i]? with
    | some o => chkOp sls eats n ops i o
    | none => false
/-- the operations' slots -/
def dsts (ops : Array Oper) : List (Option Nat) := ops.toList.map (·.dst)
def putAll (a : Act) : List (Option Nat × Value) → Act
  | [] => a
  | (d, v) :: r => putAll (a.put d v) r
section
variable (P : Program) (gs : List Got) (ops : Array Oper) (B : Nat) (w0 : World) (a0 : Act)
/-- the operation leaves its item, of what stands ahead of it -/
def StepOk (i : Nat) (o : Oper) : Prop :=
  ∀ (a : Act) (w : World) (S : Nat → Nat → Prop) (K : Act → World → Prop) (Q : Exit → Act → World → Prop),
    (∀ s, early ops i s = true → a.eval (.tmp s) = a0.eval (.tmp s)) → Below B w0 w → B ≤ w.heap.size →
    (∀ j, known gs ops o j = true → live gs ops i j = true → (itOf gs j).Is (S j) (a.eval (.tmp (slOf gs j))) w) →
    (∀ j g, S j g → B ≤ g) →
    (∀ v w', Below B w0 w' → Kept (fun g => ∃ j, eatOf gs j = some i ∧ S j g) w w' →
      (itOf gs i).Is (fun g => B ≤ g ∧ (w.heap.size ≤ g ∨ ∃ j, eatOf gs j = some i ∧ S j g)) v w' → (o.dst = none → v = a.eval (.tmp (slOf gs i))) → K (a.put o.dst v) w') →
    o.wp P a w K Q
structure JJ (listed : Array Bool) (a : Act) (w : World) : Prop where
  size : listed.size = ops.size
  tmps : a.tmps.size = a0.tmps.size
  defers : a.defers = a0.defers
  base : ∀ s, (∀ k o, ops[k]? = some o → o.dst = some s → listed.getD k false = false) → a.eval (.tmp s) = a0.eval (.tmp s)
  bel : Below B w0 w
  grow : w0.heap.size ≤ w.heap.size
  down : ∀ j o', ops[j]? = some o' → listed.getD j false = true → ∀ i, after_ o' i = true → listed.getD i false = true
  items : ∃ f : Nat → Nat, ∀ i, (listed.getD i false = true ∨ (ops.size ≤ i ∧ i < gs.length)) → (∀ c, eatOf gs i = some c → listed.getD c false = false) → (itOf gs i).Is (fun g => B ≤ g ∧ f g = i) (a.eval (.tmp (slOf gs i))) w
def StepsOk : Nat → List Oper → Prop
  | _, [] => True
  | i, o :: r => StepOk P gs ops B w0 a0 i o ∧ StepsOk (i + 1) r
end
theorem StepsOk.at_ {P : Program} {gs : List Got} {ops : Array Oper} {B : Nat} {w0 : World} {a0 : Act} : ∀ {l : List Oper} {k : Nat}, StepsOk P gs ops B w0 a0 k l → ∀ (i : Nat) (o : Oper), l[i]? = some o → StepOk P gs ops B w0 a0 (k + i) o
  | [], k, h, i, o, ho => by cases ho
  | x :: l, k, h, 0, o, ho => by
    obtain rfl := Option.some.inj ho
    exact h.1
  | x :: l, k, h, i + 1, o, ho => by
    have := StepsOk.at_ h.2 i o ho
    rw [show k + (i + 1) = k + 1 + i from by omega]
    exact this
theorem put_same {a : Act} {d : Nat} {v : Value} (h : d < a.tmps.size) : (a.put (some d) v).eval (.tmp d) = v := by
  simp [Act.put, Act.eval, h]
theorem put_ne {a : Act} {d s : Nat} {v : Value} (h : d ≠ s) : (a.put (some d) v).eval (.tmp s) = a.eval (.tmp s) := by
  simp [Act.put, Act.eval, Array.getElem?_setIfInBounds_ne h]
theorem put_size {a : Act} {d : Option Nat} {v : Value} : (a.put d v).tmps.size = a.tmps.size := by
  cases d <;> simp [Act.put]
theorem put_defers {a : Act} {d : Option Nat} {v : Value} : (a.put d v).defers = a.defers := by
  cases d <;> rfl
theorem getD_set_cases {listed : Array Bool} {i j : Nat} (h : (listed.setIfInBounds i true).getD j false = true) : j = i ∨ listed.getD j false = true := by
  by_cases e : i = j
  · exact .inl e.symm
  · right
    rwa [getD_set_ne false e] at h
theorem getD_lt {listed : Array Bool} {i : Nat} (h : listed.getD i false = true) : i < listed.size := by
  rcases Nat.lt_or_ge i listed.size with h1 | h1
  · exact h1
  · simp [Array.getElem?_eq_none h1] at h
theorem getD_rep (n j : Nat) : (Array.replicate n false).getD j false = false := by
  unfold Array.getD
  split <;> simp
theorem behind_at {ops : Array Oper} {c i : Nat} (h : behind ops c i = true) : ∃ o, ops[c]? = some o ∧ after_ o i = true := by
  unfold behind at h
  cases ho : ops[c]? with
  | none => rw [ho] at h; cases h
  | some o => rw [ho] at h; exact ⟨o, rfl, h⟩
/-- a frame in which only these slots differ -/
theorem frame_put : ∀ (l : List (Option Nat)) (a0 a : Act), a.tmps.size = a0.tmps.size → a.defers = a0.defers → (∀ s, some s ∉ l → a.eval (.tmp s) = a0.eval (.tmp s)) → ∃ xs : List Value, xs.length = l.length ∧ a = putAll a0 (l.zip xs)
  | [], a0, a, h1, h2, h3 => by
    refine ⟨[], rfl, ?_⟩
    obtain ⟨t, d⟩ := a
    obtain ⟨t0, d0⟩ := a0
    simp only at h1 h2
    subst h2
    show Act.mk t d = Act.mk t0 d
    congr 1
    refine Array.ext h1 fun i hi hi0 => ?_
    have := h3 i (by simp)
    simp only [Act.eval] at this
    simpa [hi, hi0] using this
  | d :: l, a0, a, h1, h2, h3 => by
    cases d with
    | none =>
      obtain ⟨xs, hx, e⟩ := frame_put l a0 a h1 h2 fun s hs => h3 s (by simp [hs])
      exact ⟨undef :: xs, by simp [hx], e⟩
    | some d =>
      obtain ⟨xs, hx, e⟩ := frame_put l (a0.put (some d) (a.eval (.tmp d))) a (by rw [put_size]; exact h1) (by rw [put_defers]; exact h2) fun s hs => by
        by_cases e : d = s
        · subst e
          by_cases hlt : d < a0.tmps.size
          · rw [put_same hlt]
          · simp [Act.eval, Act.put, h1, hlt]
        · rw [put_ne e]
          exact h3 s (by simp only [List.mem_cons, not_or]; exact ⟨fun e2 => e (Option.some.inj e2).symm, hs⟩)
      exact ⟨a.eval (.tmp d) :: xs, by simp [hx], e⟩
/-- the items that lie there ahead of the operations -/
def virt (gs : List Got) (ops : Array Oper) (a : Act) : List (Value × Item) := (gs.drop ops.size).map fun g => (a.eval (.tmp g.sl), g.it)
/-- what lies in a slot behind these -/
def lookAll (l : List (Option Nat × Value)) (s : Nat) (d : Value) : Value := l.foldl (fun acc p => if p.1 = some s then p.2 else acc) d
theorem eval_putAll (s : Nat) : ∀ (l : List (Option Nat × Value)) (a : Act), s < a.tmps.size → (putAll a l).eval (.tmp s) = lookAll l s (a.eval (.tmp s))
  | [], a, h => rfl
  | (d, v) :: l, a, h => by
    show (putAll (a.put d v) l).eval (.tmp s) = _
    rw [eval_putAll s l (a.put d v) (by rw [put_size]; exact h)]
    unfold lookAll
    simp only [List.foldl_cons]
    cases d with
    | none => rfl
    | some d =>
      by_cases e : d = s
      · subst e
        rw [put_same h, if_pos rfl]
      · rw [put_ne e, if_neg (fun e2 => e (Option.some.inj e2))]
/-- the items that are left -/
def outs (os : List (Nat × Item)) (l : List (Option Nat × Value)) (a : Act) : List (Value × Item) := os.map fun p => (lookAll l p.1 (a.eval (.tmp p.1)), p.2)
theorem len_succ {α : Type} {xs : List α} {n : Nat} (h : xs.length = n + 1) : ∃ x ys, xs = x :: ys ∧ ys.length = n := by
  cases xs with
  | nil => cases h
  | cons x ys => exact ⟨x, ys, rfl, by simpa using h⟩
theorem len_zero {α : Type} {xs : List α} (h : xs.length = 0) : xs = [] := List.length_eq_zero_iff.1 h
/-- a region in any order, by items -/
theorem wp_items {P : Program} {ops : Array Oper} {Q : Exit → Act → World → Prop} {id : Nat} {a : Act} {w : World} (hm : P.follows .mixedOrders = true) (gs : List Got) (sls : List Nat) (eats : List (Option Nat))
    (hs : gs.map (·.sl) = sls) (he : gs.map (·.eat) = eats) (n B : Nat) (hB : B ≤ w.heap.size) (hn : a.tmps.size = n) (hc : chkOps sls eats n ops = true)
    (left : List Nat) (hl : (left.all fun i => decide (i < sls.length) && (eats.getD i none).isNone) = true) (hnd : left.Nodup)
    (hv : Hold B w (virt gs ops a))
    (hstep : StepsOk P gs ops B w a 0 ops.toList) (ds : List (Option Nat)) (hds : dsts ops = ds) (os : List (Nat × Item)) (hos : left.map (fun i => (slOf gs i, itOf gs i)) = os) (hfit : os.all (fun p => decide (p.1 < n)) = true)
    (hend : ∀ xs w', xs.length = ds.length → Below B w w' → w.heap.size ≤ w'.heap.size → Hold B w' (outs os (ds.zip xs) a) → Q .normal (putAll a (ds.zip xs)) w') :
    (Code.region id ops true).wp P Q a w := by
  subst hs he hds
  unfold chkOps at hc
  rw [Bool.and_eq_true] at hc
  obtain ⟨hcs, hc⟩ := hc
  have hlen : ops.size ≤ gs.length := by simpa using hcs
  have esl : ∀ i, (gs.map (·.sl)).getD i 0 = slOf gs i := fun i => by simp [slOf, List.getElem?_map]
  have eeat : ∀ i, (gs.map (·.eat)).getD i none = eatOf gs i := fun i => by
    simp only [eatOf, List.getD_eq_getElem?_getD, List.getElem?_map]
    cases gs[i]? <;> rfl
  have chk : ∀ i o, ops[i]? = some o → chkOp (gs.map (·.sl)) (gs.map (·.eat)) n ops i o = true := by
    intro i o ho
    have hlt := (Array.getElem?_eq_some_iff.1 ho).1
    have := List.all_eq_true.1 hc i (List.mem_range.2 hlt)
    rw [ho] at this
    exact this
  have hafter : ∀ {o' : Oper} {j : Nat}, after_ o' j = true → ∃ e ∈ o'.after, e.on = j ∧ Region.binds .any e = true := by
    intro o' j h
    obtain ⟨e, h1, h2⟩ := Array.any_eq_true'.1 h
    simp only [Bool.and_eq_true, decide_eq_true_eq] at h2
    exact ⟨e, h1, h2.1, h2.2⟩
  have hcb : ∀ (i : Nat) (o : Oper), ops[i]? = some o → ∀ e ∈ o.after, e.on < i := by
    intro i o ho e he
    have := chk i o ho
    unfold chkOp at this
    simp only [Bool.and_eq_true] at this
    simpa using Array.all_eq_true'.1 this.1.2 e he
  refine wp_region_inv hm (JJ gs ops B w a) hcb (fun _ _ _ h => h.size) (fun listed a1 w1 i hJ hi => ?_) (fun listed a1 w1 hJ hall => ?_) ?_
  · obtain ⟨hun, o, ho, hdep⟩ := mem_ready.1 hi
    have hisz := (Array.getElem?_eq_some_iff.1 ho).1
    have hlt : i < listed.size := by rw [hJ.size]; exact hisz
    have hck := chk i o ho
    unfold chkOp at hck
    simp only [Bool.and_eq_true] at hck
    obtain ⟨⟨hg, -⟩, hd⟩ := hck
    have hguard : o.guard = none := by simpa using hg
    refine wpOp_step ho fun K' hK => ?_
    rw [if_pos (by simp [Region.wanted, hguard])]
    obtain ⟨f, hf⟩ := hJ.items
    have hunl : listed.getD i false = false := by
      simp [hlt] at hun ⊢
      exact hun
    have hl : ∀ j, after_ o j = true → listed.getD j false = true := fun j hj => by
      obtain ⟨e, h1, rfl, h3⟩ := hafter hj
      exact hdep e h1 h3
    have hbeh : ∀ c, behind ops c i = true → listed.getD c false = false := fun c hc => by
      obtain ⟨o', h1, h2⟩ := behind_at hc
      cases h3 : listed.getD c false with
      | false => rfl
      | true => rw [hJ.down c o' h1 h3 i h2] at hunl; cases hunl
    have hB1 : B ≤ w1.heap.size := Nat.le_trans hB hJ.grow
    have hso := hstep.at_ i o (by rw [Array.getElem?_toList]; exact ho)
    rw [Nat.zero_add] at hso
    refine hso a1 w1 (fun j g => B ≤ g ∧ f g = j) K' Q (fun s hs => hJ.base s fun k o' ho' hd' => ?_) hJ.bel hB1 (fun j hj hlv => hf j ?_ fun c hcj => ?_) (fun j g h => h.1) (fun v w' hb hk hit hv => ?_)
    · have := List.all_eq_true.1 hs k (List.mem_range.2 (Array.getElem?_eq_some_iff.1 ho').1)
      simp only [Bool.or_eq_true, decide_eq_true_eq] at this
      rcases this with (h1 | h1) | h1
      · rw [h1]; exact hunl
      · exact hbeh k h1
      · rw [ho'] at h1
        simp [hd'] at h1
    · unfold known at hj
      simp only [Bool.or_eq_true, Bool.and_eq_true, decide_eq_true_eq] at hj
      exact hj.imp (hl j) fun h => h
    · unfold live at hlv
      rw [hcj] at hlv
      simp only [Bool.or_eq_true, decide_eq_true_eq] at hlv
      rcases hlv with h1 | h1
      · rw [h1]; exact hunl
      · exact hbeh c h1
    · refine hK _ _ ⟨by simp [hJ.size], by rw [put_size]; exact hJ.tmps, by rw [put_defers]; exact hJ.defers, fun s hs => ?_, hb, Nat.le_trans hJ.grow hk.size, fun j o' ho' hj q hq => ?_, fun g => if w1.heap.size ≤ g then i else if eatOf gs (f g) = some i then i else f g, fun j hj hcj => ?_⟩
      · have hold := hJ.base s fun k o' ho' hd' => by
          have := hs k o' ho' hd'
          by_cases e : i = k
          · subst e
            simp [hlt] at this
          · rwa [getD_set_ne false e] at this
        cases hdst : o.dst with
        | none => exact hold
        | some d =>
          have : d ≠ s := by
            intro e
            subst e
            have := hs i o ho hdst
            simp [hlt] at this
          rw [put_ne this]
          exact hold
      · rcases getD_set_cases hj with rfl | hjl
        · rw [ho] at ho'
          injection ho' with ho'
          subst ho'
          have h1 := hl q hq
          by_cases e : j = q
          · subst e
            simp [hlt]
          · rwa [getD_set_ne false e]
        · have h1 := hJ.down j o' ho' hjl q hq
          by_cases e : i = q
          · subst e
            simp [hlt]
          · rwa [getD_set_ne false e]
      · have hval : (itOf gs i).Is (fun g => B ≤ g ∧ (w1.heap.size ≤ g ∨ ∃ j, eatOf gs j = some i ∧ (B ≤ g ∧ f g = j))) ((a1.put o.dst v).eval (.tmp (slOf gs i))) w' := by
          cases hdst : o.dst with
          | none => rw [hv hdst] at hit; exact hit
          | some d =>
            rw [hdst] at hd
            simp only [Bool.and_eq_true, decide_eq_true_eq] at hd
            rw [esl] at hd
            rw [← hd.1.1, put_same (by rw [hJ.tmps, hn]; exact hd.1.2)]
            exact hit
        have hj2 : j = i ∨ (j ≠ i ∧ (listed.getD j false = true ∨ (ops.size ≤ j ∧ j < gs.length))) := by
          by_cases e : j = i
          · exact .inl e
          · refine .inr ⟨e, ?_⟩
            rcases hj with h | h
            · exact .inl ((getD_set_cases h).resolve_left e)
            · exact .inr h
        rcases hj2 with rfl | ⟨hij, hjl⟩
        · refine hval.mono fun g hg => ⟨hg.1, ?_⟩
          rcases hg.2 with h | ⟨q, h1, h2, h3⟩
          · show (if w1.heap.size ≤ g then _ else _) = _
            rw [if_pos h]
          · show (if w1.heap.size ≤ g then _ else _) = _
            split
            · rfl
            · rw [if_pos (by rw [h3]; exact h1)]
        · have hej : eatOf gs j ≠ some i := fun e => by
            have := hcj i e
            simp [hlt] at this
          have hold := hf j hjl fun c hc => by
            have := hcj c hc
            by_cases hci : c = i
            · rw [hci]; exact hunl
            · rwa [getD_set_ne false (Ne.symm hci)] at this
          have hslot : (a1.put o.dst v).eval (.tmp (slOf gs j)) = a1.eval (.tmp (slOf gs j)) := by
            cases hdst : o.dst with
            | none => rfl
            | some d =>
              rw [hdst] at hd
              simp only [Bool.and_eq_true, decide_eq_true_eq] at hd
              refine put_ne fun e => ?_
              have hjs : j < gs.length := by
                rcases hjl with h | h
                · have := getD_lt h
                  rw [hJ.size] at this
                  omega
                · exact h.2
              have := List.all_eq_true.1 hd.2 j (List.mem_range.2 (by rw [List.length_map]; exact hjs))
              rw [esl, eeat] at this
              simp only [Bool.or_eq_true, decide_eq_true_eq] at this
              rcases this with ((h | h) | h) | h
              · exact hij h
              · exact h e.symm
              · have h1 := hbeh j h
                rcases hjl with h2 | h2
                · rw [h2] at h1; cases h1
                · obtain ⟨o', h3, _⟩ := behind_at h
                  have := (Array.getElem?_eq_some_iff.1 h3).1
                  omega
              · split at h
                · rename_i c hc
                  simp only [Bool.or_eq_true, decide_eq_true_eq] at h
                  rcases h with h | h
                  · rw [h] at hc; exact hej hc
                  · have h1 := hl c h
                    have h2 := hcj c hc
                    by_cases hci : i = c
                    · subst hci
                      simp [hlt] at h2
                    · rw [getD_set_ne false hci, h1] at h2
                      cases h2
                · cases h
          rw [hslot]
          refine hold.kept hk (fun g _ hg ⟨q, h1, h2, h3⟩ => ?_) fun g hlt2 hg => ⟨hg.1, ?_⟩
          · rw [← h3, hg.2] at h1
            exact hej h1
          · show (if w1.heap.size ≤ g then _ else _) = _
            rw [if_neg (by omega), hg.2, if_neg hej]
  · obtain ⟨f, hf⟩ := hJ.items
    obtain ⟨xs, hx, e⟩ := frame_put (dsts ops) a a1 hJ.tmps hJ.defers fun s hs => hJ.base s fun k o ho hd => by
      exfalso
      exact hs (List.mem_map.2 ⟨o, by rw [Array.mem_toList_iff]; exact Array.mem_of_getElem? ho, hd⟩)
    subst e
    refine hend xs w1 hx hJ.bel hJ.grow ?_
    refine ⟨fun g => left.idxOf (f g), fun q p hp => ?_⟩
    unfold outs at hp
    rw [List.getElem?_map, ← hos, List.getElem?_map] at hp
    cases hq : left[q]? with
    | none => rw [hq] at hp; cases hp
    | some i =>
      rw [hq] at hp
      obtain rfl := Option.some.inj hp
      have hmem := List.mem_of_getElem? hq
      have h1 := List.all_eq_true.1 hl i hmem
      simp only [Bool.and_eq_true, decide_eq_true_eq] at h1
      rw [List.length_map, eeat] at h1
      have hnone : eatOf gs i = none := by simpa using h1.2
      have hdone : listed.getD i false = true ∨ (ops.size ≤ i ∧ i < gs.length) := by
        rcases Nat.lt_or_ge i ops.size with h2 | h2
        · exact .inl (hall i h2)
        · exact .inr ⟨h2, h1.1⟩
      have hsl : slOf gs i < a.tmps.size := by
        have := List.all_eq_true.1 hfit (slOf gs i, itOf gs i) (by rw [← hos]; exact List.mem_map.2 ⟨i, hmem, rfl⟩)
        rw [hn]
        simpa using this
      have h5 := hf i hdone fun c hc => by rw [hnone] at hc; cases hc
      rw [eval_putAll _ _ _ hsl] at h5
      refine h5.kept (D := fun _ => False) ⟨Nat.le_refl _, fun _ _ _ => rfl⟩ (fun _ _ _ h => h) fun g _ hg => ⟨hg.1, ?_⟩
      show left.idxOf (f g) = q
      rw [hg.2]
      obtain ⟨hql, he⟩ := List.getElem?_eq_some_iff.1 hq
      rw [← he, List.Nodup.idxOf_getElem hnd]
  · obtain ⟨f, hf⟩ := hv
    refine ⟨by simp, rfl, rfl, fun _ _ => rfl, ⟨rfl, rfl, rfl, Nat.le_refl _, fun _ _ => rfl⟩, Nat.le_refl _, fun j o' _ hj => absurd hj (by rw [getD_rep]; decide), fun g => f g + ops.size, fun i hi hci => ?_⟩
    rcases hi with h | ⟨h1, h2⟩
    · exact absurd h (by rw [getD_rep]; decide)
    · have := hf (i - ops.size) (a.eval (.tmp (slOf gs i)), itOf gs i) (by
        unfold virt
        rw [List.getElem?_map, List.getElem?_drop, show ops.size + (i - ops.size) = i from by omega]
        unfold slOf itOf
        rw [List.getElem?_eq_getElem h2]
        rfl)
      have h3 : (itOf gs i).Is (fun g => B ≤ g ∧ f g = i - ops.size) (a.eval (.tmp (slOf gs i))) w := this
      exact h3.kept (D := fun _ => False) ⟨Nat.le_refl _, fun _ _ _ => rfl⟩ (fun _ _ _ h => h) fun g _ hg => ⟨hg.1, by show f g + ops.size = i; rw [hg.2]; omega⟩
end Go.Proofs.YtjdcicopjipmnaaDoor
