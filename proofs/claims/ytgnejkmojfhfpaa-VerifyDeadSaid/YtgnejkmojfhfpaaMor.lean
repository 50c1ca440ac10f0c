/- Programs that agree; codes behind others; instructions that nobody comes to: plain Lean. -/
import Derived.Test.YtgnejkmojfhfpaaKno
namespace Go.Proofs.Ytgnejkmojfhfpaa
set_option linter.unusedVariables false
set_option linter.unusedSimpArgs false

/-- what is told of a code in the one is told of it in the other -/
def Agree (p p' : ProgD) : Prop := ∀ a k c, codeAt p a k = some c → ∃ c', codeAt p' a k = some c' ∧ c'.defaults = c.defaults ∧ c'.free = c.free
theorem agree_append (p q : ProgD) : Agree p (p ++ q) := by
  intro a k c h
  refine ⟨c, ?_, rfl, rfl⟩
  unfold codeAt at h ⊢
  split at h
  · cases h
  rename_i h0
  rw [if_neg h0]
  cases hc : p[a.toNat]? with
  | none => rw [hc] at h; cases h
  | some d =>
    rw [hc] at h
    rw [List.getElem?_append_left (List.getElem?_eq_some_iff.1 hc).1, hc]
    exact h
section
variable {p p' : ProgD} {c c' : CodeD}
theorem may_agree (hA : Agree p p') (h1 : c'.consts = c.consts) (h2 : c'.locals = c.locals) (h3 : c'.cells = c.cells) (h4 : c'.free = c.free) (h5 : c'.names = c.names) (h6 : c'.kind = c.kind) (h7 : c'.gen = c.gen) {kd : Kd} {a : Int} (h : kd.may p c a = true) : kd.may p' c' a = true := by
  cases kd <;> simp only [Kd.may, h1, h2, h3, h4, h5, h6, h7] at h ⊢ <;> try exact h
  · cases hc : codeAt p a 2 with
    | none => rw [hc] at h; cases h
    | some d =>
      obtain ⟨d', hd, _⟩ := hA a 2 d hc
      rw [hd]
      rfl
  · cases hc : codeAt p a 3 with
    | none => rw [hc] at h; cases h
    | some d =>
      obtain ⟨d', hd, _⟩ := hA a 3 d hc
      rw [hd]
      rfl
theorem takes_agree (hA : Agree p p') {op a : Int} {kd : Kd} {tk : Tk} {lv : Int} (he : effOf op = some (kd, tk, lv)) (hm : kd.may p c a = true) : tk.takes p' a = tk.takes p a := by
  have hok : tkOk (kd, tk, lv) = true := by
    unfold effOf at he
    split at he
    · exact effs_ok _ (List.mem_of_getElem? he)
    · cases he
  cases tk with
  | just n => rfl
  | each b m => rfl
  | given =>
    simp only [tkOk, decide_eq_true_eq] at hok
    subst hok
    simp only [Kd.may] at hm
    cases hc : codeAt p a 2 with
    | none => rw [hc] at hm; cases hm
    | some d =>
      obtain ⟨d', hd, h8, h9⟩ := hA a 2 d hc
      simp only [Tk.takes, hc, hd, h8, h9]
  | around =>
    simp only [tkOk, decide_eq_true_eq] at hok
    subst hok
    simp only [Kd.may] at hm
    cases hc : codeAt p a 3 with
    | none => rw [hc] at hm; cases hm
    | some d =>
      obtain ⟨d', hd, h8, h9⟩ := hA a 3 d hc
      simp only [Tk.takes, hc, hd, h9]
theorem ways_agree (hA : Agree p p') {x : Int × Int} (hx : wrongE p c x = 0) (i : Nat) (s : St) : waysE p' x i s = waysE p x i s := by
  obtain ⟨kd, tk, lv, he, hm, _⟩ := right_parts hx
  unfold waysE
  rw [he]
  simp only
  rw [takes_agree hA he hm]
theorem step_agree (hA : Agree p p') (hr : AllRight p c) (f : Fl) (i : Nat) : stepE p' c.ins f i = stepE p c.ins f i := by
  unfold stepE
  cases hx : c.ins[i]? with
  | none => rfl
  | some x =>
    cases f.st[i]? with
    | none => rfl
    | some o =>
      cases o with
      | none => rfl
      | some s =>
        simp only
        rw [ways_agree hA (hr x (List.mem_of_getElem? hx))]
theorem go_agree (hA : Agree p p') (hr : AllRight p c) : ∀ (m : Nat) (f : Fl), goE p' c.ins m f = goE p c.ins m f
  | 0, f => rfl
  | m + 1, f => by
    unfold goE
    cases firstE f.op with
    | none => rfl
    | some i =>
      simp only
      rw [step_agree hA hr]
      cases stepE p c.ins f i with
      | inr e => rfl
      | inl f' => exact go_agree hA hr m f'
theorem wrong_agree (hA : Agree p p') (h1 : c'.consts = c.consts) (h2 : c'.locals = c.locals) (h3 : c'.cells = c.cells) (h4 : c'.free = c.free) (h5 : c'.names = c.names) (h6 : c'.kind = c.kind) (h7 : c'.gen = c.gen) (h8 : c.ins.length ≤ c'.ins.length) {x : Int × Int} (hx : wrongE p c x = 0) : wrongE p' c' x = 0 := by
  obtain ⟨kd, tk, lv, he, hm, hj⟩ := right_parts hx
  unfold wrongE
  rw [he]
  simp only
  rw [if_neg (by rw [may_agree hA h1 h2 h3 h4 h5 h6 h7 hm]; decide), if_neg]
  rintro ⟨h9, h10⟩
  have := hj h9
  omega
end
/-- a code that is right stays so -/
theorem heights_agree {p p' : ProgD} {c : CodeD} {l : List Int} {k : Int} (hA : Agree p p') (h : heightsC p c = (l, 0, k)) : heightsC p' c = (l, 0, k) := by
  obtain ⟨_, st, hf⟩ := fixed_of h
  have hr := hf.right
  have hr' : AllRight p' c := fun x hx => wrong_agree hA rfl rfl rfl rfl rfl rfl rfl (Nat.le_refl _) (hr x hx)
  have h1 : wrongs p c c.ins 0 = none := wrongs_none.2 hr
  have h2 : wrongs p' c c.ins 0 = none := wrongs_none.2 hr'
  unfold heightsC at h ⊢
  split at h
  · cases h
  rename_i ht
  rw [if_neg ht, h2]
  rw [h1] at h
  simp only at h ⊢
  unfold flowE at h ⊢
  split at h
  · cases h
  rename_i hn
  rw [if_neg hn, go_agree hA hr]
  exact h
/-- all codes of a row are right -/
theorem progs_ok {p : ProgD} : ∀ {l : List CodeD} {i : Nat}, progsE p l i = (0, 0, 0) → ∀ c ∈ l, (heightsC p c).2.1 = 0
  | [], i, h, c, hc => by cases hc
  | d :: l, i, h, c, hc => by
    unfold progsE at h
    split at h
    · rename_i h0
      rcases List.mem_cons.1 hc with rfl | hc
      · exact h0
      · exact progs_ok h c hc
    · rename_i h0
      injection h with h1 _
      exact absurd h1 h0
theorem progs_skip {p : ProgD} : ∀ {l r : List CodeD} {i : Nat}, (∀ c ∈ l, (heightsC p c).2.1 = 0) → progsE p (l ++ r) i = progsE p r (i + l.length)
  | [], r, i, _ => by simp
  | d :: l, r, i, h => by
    rw [List.cons_append, progsE, if_pos (h d (by simp)), progs_skip (fun c hc => h c (by simp [hc])), List.length_cons]
    congr 1
    omega
theorem progs_tell {p : ProgD} : ∀ {l : List CodeD} {i : Nat} {e d k : Int}, progsE p l i = (e, d, k) → (e = 0 ∧ d = 0 ∧ k = 0) ∨ (e ≠ 0 ∧ (i : Int) ≤ d ∧ 0 ≤ k)
  | [], i, e, d, k, h => by
    cases h
    exact .inl ⟨rfl, rfl, rfl⟩
  | c :: l, i, e, d, k, h => by
    unfold progsE at h
    split at h
    · rcases progs_tell h with h1 | ⟨h1, h2, h3⟩
      · exact .inl h1
      · exact .inr ⟨h1, by omega, h3⟩
    · rename_i h0
      obtain ⟨⟨l1, e1, k1⟩, hq⟩ : ∃ q, q = heightsC p c := ⟨_, rfl⟩
      rw [← hq] at h h0
      injection h with h1 h2
      injection h2 with h2 h3
      simp only at h0 h1 h3
      subst h1 h2 h3
      obtain ⟨_, t, ht, _⟩ := heights_bad hq.symm h0
      exact .inr ⟨h0, Int.le_refl _, by omega⟩
/-- of a right program: its first code is a module's, all are right -/
theorem program_ok {p : ProgD} {d k : Int} (h : programE p = (0, d, k)) : (∃ c r, p = c :: r ∧ c.kind = 1) ∧ (∀ c ∈ p, (heightsC p c).2.1 = 0) ∧ d = 0 ∧ k = 0 := by
  cases p with
  | nil => cases h
  | cons c r =>
    unfold programE at h
    simp only at h
    split at h
    · rename_i hk
      rcases progs_tell h with ⟨_, rfl, rfl⟩ | ⟨h1, _⟩
      · exact ⟨⟨c, r, rfl, hk⟩, progs_ok h, rfl, rfl⟩
      · exact absurd rfl h1
    · cases h
theorem heights_of {p : ProgD} {c : CodeD} (h : (heightsC p c).2.1 = 0) : ∃ l k, heightsC p c = (l, 0, k) := by
  obtain ⟨⟨l, e, k⟩, hq⟩ : ∃ q, q = heightsC p c := ⟨_, rfl⟩
  rw [← hq] at h ⊢
  simp only at h
  subst h
  exact ⟨l, k, rfl⟩
/-- codes behind others change nothing of these -/
theorem program_more {p q : ProgD} {e d k f d' k' : Int} (hp : programE p = (e, d, k)) (hq : programE (p ++ q) = (f, d', k')) :
    (e = 0 → d = 0 ∧ k = 0) ∧ (e = 0 → f ≠ 0 → (p.length : Int) ≤ d' ∧ 0 ≤ k') := by
  by_cases he : e = 0
  · subst he
    obtain ⟨⟨c, r, rfl, hk⟩, hall, rfl, rfl⟩ := program_ok hp
    refine ⟨fun _ => ⟨rfl, rfl⟩, fun _ hf => ?_⟩
    have h1 : programE ((c :: r) ++ q) = progsE ((c :: r) ++ q) ((c :: r) ++ q) 0 := by
      unfold programE
      simp only [List.cons_append]
      rw [if_pos hk]
    rw [h1, progs_skip (fun c' hc' => by
      obtain ⟨l, k, h2⟩ := heights_of (hall c' hc')
      rw [heights_agree (agree_append _ q) h2])] at hq
    rcases progs_tell hq with ⟨h3, _⟩ | ⟨_, h4, h5⟩
    · exact absurd h3 hf
    · exact ⟨by simpa using h4, h5⟩
  · exact ⟨fun h => absurd h he, fun h => absurd h he⟩
/-- what is known, and of two more, that nobody comes to, nothing -/
def Fl.more (f : Fl) : Fl := ⟨f.st ++ [none, none], f.op ++ [false, false]⟩
theorem rep_more {α : Type} (m : Nat) (a b : α) : (List.replicate (m + 1 + 2) a).set 0 b = (List.replicate (m + 1) a).set 0 b ++ [a, a] := by
  show (a :: List.replicate (m + 2) a).set 0 b = (a :: List.replicate m a).set 0 b ++ [a, a]
  simp only [List.set_cons_zero, List.cons_append]
  rw [show [a, a] = List.replicate 2 a from rfl, List.replicate_append_replicate]
theorem start_more {n : Nat} (hn : 0 < n) : startF (n + 2) = (startF n).more := by
  obtain ⟨m, rfl⟩ : ∃ m, n = m + 1 := ⟨n - 1, by omega⟩
  unfold startF Fl.more
  simp only
  rw [rep_more, rep_more]
theorem first_more {l : List Bool} : firstE (l ++ [false, false]) = firstE l := by
  unfold firstE
  rw [List.findIdx?_append]
  cases l.findIdx? id with
  | none => rfl
  | some i => rfl
theorem push_more {n : Nat} : ∀ {ways : List (Int × St)} {f f' : Fl}, f.st.length = n → f.op.length = n → (∀ q ∈ ways, 0 ≤ q.1) → pushE n f ways = .inl f' → pushE (n + 2) f.more ways = .inl f'.more
  | [], f, f', _, _, _, h => by
    cases h
    rfl
  | (to, s) :: r, f, f', hl, ho, h0, h => by
    have h00 := h0 (to, s) (by simp)
    have h0' : ∀ q ∈ r, 0 ≤ q.1 := fun q hq => h0 q (by simp [hq])
    simp only at h00
    unfold pushE at h ⊢
    split at h
    · cases h
    rename_i hlt
    have htn : to.toNat < n := by omega
    rw [if_neg (by omega)]
    have hg : f.more.st[to.toNat]? = f.st[to.toNat]? := List.getElem?_append_left (by omega)
    rw [hg]
    split at h
    · rename_i hn
      have := push_more (f := ⟨f.st.set to.toNat (some s), f.op.set to.toNat true⟩) (by simpa using hl) (by simpa using ho) h0' h
      rw [← this]
      congr 1
      unfold Fl.more
      simp only
      rw [List.set_append_left _ _ (by omega), List.set_append_left _ _ (by omega)]
    · rename_i t ht
      split at h
      · rename_i hts
        rw [if_pos hts]
        exact push_more hl ho h0' h
      · cases h
    · cases h
section
variable {p p' : ProgD} {c : CodeD} {y z : Int × Int}
theorem step_more (hA : Agree p p') (hr : AllRight p c) {k i : Nat} {f f' : Fl} (hg : Good p c.ins k f) (hi : f.op[i]? = some true) (hs : stepE p c.ins f i = .inl f') : stepE p' (c.ins ++ [y, z]) f.more i = .inl f'.more := by
  have hil : i < c.ins.length := by have := (List.getElem?_eq_some_iff.1 hi).1; have := hg.op; omega
  unfold stepE at hs ⊢
  split at hs
  case h_2 => cases hs
  rename_i x s hx hk
  rw [List.getElem?_append_left hil, hx, show f.more.st[i]? = f.st[i]? from List.getElem?_append_left (by rw [hg.st]; exact hil), hk]
  simp only
  have hxr := hr x (List.mem_of_getElem? hx)
  rw [ways_agree hA hxr]
  split at hs
  · cases hs
  rename_i ways hw
  have hways := ways_of hxr hw (hg.low i s hk)
  have := push_more (n := c.ins.length) (f := ⟨f.st, f.op.set i false⟩) hg.st (by simpa using hg.op) (fun q hq => (hways q hq).1) hs
  rw [← this, List.length_append]
  congr 1
  unfold Fl.more
  simp only
  rw [List.set_append_left _ _ (by rw [hg.op]; exact hil)]
theorem go_more (hA : Agree p p') (hr : AllRight p c) : ∀ {m m' k : Nat} {f : Fl} {st : List (Option St)}, Good p c.ins k f → undone f < m → m ≤ m' → goE p c.ins m f = .inl st → goE p' (c.ins ++ [y, z]) m' f.more = .inl (st ++ [none, none])
  | 0, m', k, f, st, _, h, _, _ => by omega
  | m + 1, m', k, f, st, hg, hu, hm, h => by
    obtain ⟨m'', rfl⟩ : ∃ m'', m' = m'' + 1 := ⟨m' - 1, by omega⟩
    unfold goE at h ⊢
    have hf : firstE f.more.op = firstE f.op := first_more
    rw [hf]
    split at h
    · rename_i h1
      cases h
      rfl
    · rename_i i h1
      split at h
      · cases h
      · rename_i f' h2
        obtain ⟨h3, h4, _⟩ := good_step hr hg (firstE_some h1).1 h2
        rw [step_more hA hr hg (firstE_some h1).1 h2]
        simp only
        exact go_more hA hr h3 (by omega) (by omega) h
end
theorem wrongs_append {p : ProgD} {c : CodeD} : ∀ {l r : List (Int × Int)} {i : Nat}, (∀ x ∈ l, wrongE p c x = 0) → wrongs p c (l ++ r) i = wrongs p c r (i + l.length)
  | [], r, i, _ => by simp
  | x :: l, r, i, h => by
    rw [List.cons_append, wrongs, if_pos (h x (by simp)), wrongs_append (fun c hc => h c (by simp [hc])), List.length_cons]
    congr 1
    omega
/-- a code with two instructions more, that nobody comes to -/
def longer (c : CodeD) (x : Int × Int) : CodeD := { c with ins := c.ins ++ [x, (50, 0)] }
theorem agree_longer (c : CodeD) (r : List CodeD) (x : Int × Int) : Agree (c :: r) (longer c x :: r) := by
  intro a k d h
  unfold codeAt at h ⊢
  split at h
  · cases h
  rename_i h0
  rw [if_neg h0]
  cases ha : a.toNat with
  | zero =>
    rw [ha] at h
    simp only [List.getElem?_cons_zero] at h ⊢
    split at h
    · rename_i hc
      cases h
      rw [if_pos (show (longer c x).kind = k ∧ ¬ (k = 2 ∧ (longer c x).defaults < 0) from hc)]
      exact ⟨_, rfl, rfl, rfl⟩
    · cases h
  | succ i =>
    rw [ha] at h
    simp only [List.getElem?_cons_succ] at h ⊢
    exact ⟨d, h, rfl, rfl⟩
theorem wrong_three {p : ProgD} {c : CodeD} {x : Int × Int} (h : wrongE p c x ≠ 0) : wrongE p c x = 50 ∨ wrongE p c x = 53 ∨ wrongE p c x = 51 := by
  unfold wrongE at h ⊢
  split
  · exact .inl rfl
  · rename_i kd tk lv he
    rw [he] at h
    simp only at h
    split at h
    · rename_i h1
      rw [if_pos h1]
      exact .inr (.inl rfl)
    · rename_i h1
      rw [if_neg h1]
      split at h
      · rename_i h2
        rw [if_pos h2]
        exact .inr (.inr rfl)
      · exact absurd rfl h
/-- an instruction that nobody comes to: its height, or what is wrong with it by itself -/
theorem heights_longer {c : CodeD} {r : List CodeD} {l : List Int} {k : Int} (x : Int × Int) (h : heightsC (c :: r) c = (l, 0, k)) :
    l.length = c.ins.length ∧ (heightsC (longer c x :: r) (longer c x) = (l ++ [-1, -1], 0, 0) ∨
      ∃ e : Int, (e = 50 ∨ e = 53 ∨ e = 51) ∧ heightsC (longer c x :: r) (longer c x) = ([], e, (c.ins.length : Int))) := by
  obtain ⟨_, st, hf⟩ := fixed_of h
  have hr := hf.right
  have hA := agree_longer c r x
  have hll : l.length = c.ins.length := by rw [hf.heights, List.length_map, hf.len]
  refine ⟨hll, ?_⟩
  have hold : ∀ y ∈ c.ins, wrongE (longer c x :: r) (longer c x) y = 0 := fun y hy => wrong_agree (c := c) (c' := longer c x) hA rfl rfl rfl rfl rfl rfl rfl (by simp [longer]) (hr y hy)
  have h50 : wrongE (longer c x :: r) (longer c x) (50, 0) = 0 := by rfl
  have ht : tablesOk (longer c x) = tablesOk c := rfl
  have hw : wrongs (longer c x :: r) (longer c x) (longer c x).ins 0 = wrongs (longer c x :: r) (longer c x) [x, (50, 0)] c.ins.length := by
    show wrongs _ _ (c.ins ++ [x, (50, 0)]) 0 = _
    rw [wrongs_append hold, Nat.zero_add]
  have htc : tablesOk c = true := by
    unfold heightsC at h
    split at h
    · cases h
    · rename_i h1
      cases hb : tablesOk c with
      | true => rfl
      | false => exact absurd hb h1
  unfold heightsC
  rw [ht, htc, if_neg (by decide), hw]
  by_cases hx : wrongE (longer c x :: r) (longer c x) x = 0
  · left
    have h2 : wrongs (longer c x :: r) (longer c x) [x, (50, 0)] c.ins.length = none := by
      simp [wrongs, hx, h50]
    rw [h2]
    simp only
    have hn := hf.pos
    have h1 : wrongs (c :: r) c c.ins 0 = none := wrongs_none.2 hr
    unfold heightsC at h
    rw [htc, if_neg (by decide), h1] at h
    simp only at h
    unfold flowE at h ⊢
    rw [if_neg (by omega)] at h
    rw [if_neg (by simp [longer])]
    split at h
    · rename_i st' hg
      cases h
      obtain ⟨g0, _, u0⟩ := start_good (c :: r) c.ins hn
      have hgo := go_more (y := x) (z := (50, 0)) hA hr g0 u0 (show c.ins.length + 1 ≤ (longer c x).ins.length + 1 by simp [longer]) hg
      have hs : startF (longer c x).ins.length = (startF c.ins.length).more := by
        rw [← start_more hn]
        simp [longer]
      rw [hs]
      show (match goE _ (c.ins ++ [x, (50, 0)]) _ _ with | .inl st => _ | .inr (e, i) => _) = _
      rw [hgo]
      simp [heightOf]
    · rename_i e i hg
      injection h with _ h3
      injection h3 with h3 _
      subst h3
      obtain ⟨g0, _, _⟩ := start_good (c :: r) c.ins hn
      have := (go_tell hg g0.op).1
      omega
  · right
    refine ⟨_, wrong_three hx, ?_⟩
    simp [wrongs, hx]
theorem heightsE_zero (c : CodeD) (r : List CodeD) : heightsE (c :: r) 0 = heightsC (c :: r) c := rfl
/-- of all the program -/
theorem program_longer {c : CodeD} {r : List CodeD} {d k : Int} (x : Int × Int) (h : programE (c :: r) = (0, d, k)) :
    ∃ l, l.length = c.ins.length ∧ ((programE (longer c x :: r) = (0, 0, 0) ∧ heightsE (longer c x :: r) 0 = (l ++ [-1, -1], 0, 0)) ∨
      ∃ e : Int, (e = 50 ∨ e = 53 ∨ e = 51) ∧ programE (longer c x :: r) = (e, 0, (c.ins.length : Int))) := by
  obtain ⟨⟨c', r', e1, hk⟩, hall, _, _⟩ := program_ok h
  injection e1 with e1 e2
  subst e1 e2
  obtain ⟨l, k', hl⟩ := heights_of (hall c (by simp))
  obtain ⟨hll, hcase⟩ := heights_longer x hl
  have hkk : (longer c x).kind = 1 := hk
  have hpe : programE (longer c x :: r) = progsE (longer c x :: r) (longer c x :: r) 0 := by
    unfold programE
    simp only
    rw [if_pos hkk]
  refine ⟨l, hll, ?_⟩
  rcases hcase with h1 | ⟨e, he, h1⟩
  · left
    refine ⟨?_, ?_⟩
    · rw [hpe, progsE, if_pos (by rw [h1])]
      have := progs_skip (p := longer c x :: r) (l := r) (r := []) (i := 0 + 1) (fun c' hc' => by
        obtain ⟨l', k', h2⟩ := heights_of (hall c' (by simp [hc']))
        rw [heights_agree (agree_longer c r x) h2])
      rw [List.append_nil] at this
      rw [this]
      rfl
    · have := heightsE_zero (longer c x) r
      rw [this, h1]
  · right
    refine ⟨e, he, ?_⟩
    rw [hpe, progsE, if_neg (by rw [h1]; simp only; rcases he with rfl | rfl | rfl <;> decide), h1]
    rfl
end Go.Proofs.Ytgnejkmojfhfpaa
