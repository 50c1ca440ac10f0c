/- Decode as a function; it is Encode's other way. -/
import Derived.Test.YtcfelfhjhkenaaaDoorEnc
namespace Go.Proofs.YtcfelfhjhkenaaaDoor
set_option linter.unusedVariables false
set_option linter.unusedSimpArgs false

abbrev Par (α : Type) := List UInt8 → Except Int (α × List UInt8)
def bindP {α β : Type} (p : Par α) (f : α → Par β) : Par β := fun l => match p l with
  | .error e => .error e
  | .ok (x, r) => f x r
def okP {α : Type} (x : α) : Par α := fun l => .ok (x, l)
theorem bindP_ok {α β : Type} {p : Par α} {f : α → Par β} {l r : List UInt8} {x : α} (h : p l = .ok (x, r)) : bindP p f l = f x r := by simp [bindP, h]
theorem bindP_error {α β : Type} {p : Par α} {f : α → Par β} {l : List UInt8} {e : Int} (h : p l = .error e) : bindP p f l = .error e := by simp [bindP, h]
theorem bindP_inv {α β : Type} {p : Par α} {f : α → Par β} {l r : List UInt8} {y : β} (h : bindP p f l = .ok (y, r)) : ∃ x l', p l = .ok (x, l') ∧ f x l' = .ok (y, r) := by
  unfold bindP at h
  cases hp : p l with
  | error e => rw [hp] at h; cases h
  | ok v => obtain ⟨x, l'⟩ := v; rw [hp] at h; exact ⟨x, l', rfl, h⟩
theorem bindP_err {α β : Type} {p : Par α} {f : α → Par β} {l : List UInt8} {e : Int} (h : bindP p f l = .error e) : p l = .error e ∨ ∃ x l', p l = .ok (x, l') ∧ f x l' = .error e := by
  unfold bindP at h
  cases hp : p l with
  | error e => rw [hp] at h; cases h; exact .inl rfl
  | ok v => obtain ⟨x, l'⟩ := v; rw [hp] at h; exact .inr ⟨x, l', rfl, h⟩
def bstr (l : List UInt8) : ByteArray := ⟨l.toArray⟩
theorem bstr_data (s : ByteArray) : bstr s.data.toList = s := by cases s; simp [bstr]
theorem bstr_list (l : List UInt8) : (bstr l).data.toList = l := by simp [bstr]
theorem bstr_size (l : List UInt8) : (bstr l).size = l.length := by simp [bstr, ByteArray.size]

/-- just so many bytes -/
def takeP (n : Nat) : Par (List UInt8) := fun l => if n ≤ l.length then .ok (l.take n, l.drop n) else .error 50
/-- a byte from lo to hi -/
def amongP (lo hi : Nat) : Par UInt8 := fun l => match l with
  | [] => .error 50
  | b :: r => if lo ≤ b.toNat ∧ b.toNat ≤ hi then .ok (b, r) else .error 50
/-- a number: so many more bytes, the i-th from here on, n so far -/
def numL (most : Nat) : Nat → Nat → Nat → Par Nat
  | 0, _, _ => fun _ => .error 50
  | k + 1, i, n => fun l => match l with
    | [] => .error 50
    | b :: r => if b.toNat < 128 then (if (i = 0 ∨ 0 < b.toNat) ∧ n + b.toNat % 128 * 128 ^ i ≤ 2147483647 then (if n + b.toNat % 128 * 128 ^ i ≤ most then .ok (n + b.toNat % 128 * 128 ^ i, r) else .error 2) else .error 50)
      else numL most k (i + 1) (n + b.toNat % 128 * 128 ^ i) r
def numP (most : Nat) : Par Nat := numL most 5 0 0
def textP : Par ByteArray := bindP (numP 65536) fun n => bindP (takeP n) fun t => okP (bstr t)
def repP {α : Type} (p : Par α) : Nat → Par (List α)
  | 0 => okP []
  | n + 1 => bindP p fun x => bindP (repP p n) fun xs => okP (x :: xs)
def cntP {α : Type} (p : Par α) (most : Nat) : Par (List α) := bindP (numP most) (repP p)
def listP : Par (List ByteArray) := cntP textP 4096
def shiftI (n : Int) (b : UInt8) : Int := IntKind.i64.wrap (n * 256 + b.toNat)
def valP : Par ValD := bindP (amongP 0 3) fun k =>
  if k = 1 then bindP (amongP 0 1) fun b => okP ⟨1, b.toNat, ⟨#[]⟩⟩
  else if k = 2 then bindP (takeP 8) fun t => okP ⟨2, t.foldl shiftI 0, ⟨#[]⟩⟩
  else if k = 3 then bindP textP fun s => okP ⟨3, 0, s⟩
  else okP ⟨0, 0, ⟨#[]⟩⟩
def insP : Par (Int × Int) := bindP (amongP 1 56) fun o => bindP (numP 2147483647) fun a => okP ((o.toNat : Int), (a : Int))
def codeP : Par CodeD :=
  bindP textP fun name => bindP (numP 2147483647) fun kind => bindP (numP 2147483647) fun params => bindP (numP 2147483647) fun defaults => bindP (amongP 0 1) fun gen =>
  bindP listP fun locals => bindP listP fun cells => bindP listP fun free => bindP listP fun names =>
  bindP (cntP valP 4096) fun consts => bindP (cntP insP 65536) fun ins =>
  okP ⟨name, kind, params, defaults, gen == 1, locals, cells, free, names, consts, ins⟩
def headP : List UInt8 → Par Unit
  | [] => okP ()
  | b :: bs => bindP (amongP b.toNat b.toNat) fun _ => headP bs
def progP : Par (List CodeD) := bindP (headP headB) fun _ => cntP codeP 1000
def decE (l : List UInt8) : Except Int (List CodeD) := match progP l with
  | .error e => .error e
  | .ok (p, r) => if r = [] then .ok p else .error 50

section
variable {α : Type} {p : Par α}
theorem repP_snoc : ∀ {n : Nat} {l r s : List UInt8} {xs : List α} {x : α}, repP p n l = .ok (xs, r) → p r = .ok (x, s) → repP p (n + 1) l = .ok (xs ++ [x], s)
  | 0, l, r, s, xs, x, h, hx => by
    cases h
    simp [repP, bindP, hx, okP]
  | n + 1, l, r, s, xs, x, h, hx => by
    obtain ⟨y, l', h1, h2⟩ := bindP_inv h
    obtain ⟨ys, l'', h3, h4⟩ := bindP_inv h2
    cases h4
    rw [repP, bindP_ok h1, bindP_ok (repP_snoc h3 hx)]
    rfl
theorem repP_stop : ∀ {n m : Nat} {l r : List UInt8} {xs : List α} {e : Int}, repP p n l = .ok (xs, r) → p r = .error e → n < m → repP p m l = .error e
  | 0, m, l, r, xs, e, h, hx, hm => by
    cases h
    obtain ⟨m, rfl⟩ : ∃ k, m = k + 1 := ⟨m - 1, by omega⟩
    rw [repP, bindP_error hx]
  | n + 1, m, l, r, xs, e, h, hx, hm => by
    obtain ⟨y, l', h1, h2⟩ := bindP_inv h
    obtain ⟨ys, l'', h3, h4⟩ := bindP_inv h2
    cases h4
    obtain ⟨m, rfl⟩ : ∃ k, m = k + 1 := ⟨m - 1, by omega⟩
    rw [repP, bindP_ok h1, bindP_error (repP_stop h3 hx (by omega))]
theorem repP_len : ∀ {n : Nat} {l r : List UInt8} {xs : List α}, repP p n l = .ok (xs, r) → xs.length = n
  | 0, l, r, xs, h => by cases h; rfl
  | n + 1, l, r, xs, h => by
    obtain ⟨y, l', h1, h2⟩ := bindP_inv h
    obtain ⟨ys, l'', h3, h4⟩ := bindP_inv h2
    cases h4
    rw [List.length_cons, repP_len h3]
end

/-- p reads what f writes -/
structure Good {α : Type} (O : α → Prop) (f : α → Res) (p : Par α) : Prop where
  back : ∀ x a r, O x → f x = .ok a → p (a ++ r) = .ok (x, r)
  cut : ∀ x a c d, O x → f x = .ok a → a = c ++ d → d ≠ [] → p c = .error 50
  inv : ∀ l x r, p l = .ok (x, r) → O x ∧ ∃ a, f x = .ok a ∧ l = a ++ r
  err : ∀ l e, p l = .error e → e = 50 ∨ e = 2
section
variable {α β : Type} {O : α → Prop} {f : α → Res} {p : Par α}
theorem Good.bindBack (h : Good O f p) {K : α → Par β} {x : α} {a r : List UInt8} (ho : O x) (hf : f x = .ok a) : bindP p K (a ++ r) = K x r := bindP_ok (h.back x a r ho hf)
theorem Good.bindCut (h : Good O f p) {K : α → Par β} {x : α} {a b c d : List UInt8} (ho : O x) (hf : f x = .ok a) (he : a ++ b = c ++ d) (hd : d ≠ []) (hK : ∀ c', b = c' ++ d → K x c' = .error 50) : bindP p K c = .error 50 := by
  rcases List.append_eq_append_iff.1 he with ⟨c', rfl, h2⟩ | ⟨d', h1, h2⟩
  · rw [h.bindBack ho hf]
    exact hK c' h2
  · by_cases hd' : d' = []
    · subst hd'
      rw [List.append_nil] at h1
      subst h1
      have := h.bindBack (K := K) (r := []) ho hf
      rw [List.append_nil] at this
      rw [this]
      exact hK [] (by simpa using h2.symm)
    · exact bindP_error (h.cut x a c d' ho hf h1 hd')
theorem Good.congr {g : α → Res} (h : Good O f p) (e : ∀ x, g x = f x) : Good O g p := by
  have : g = f := funext e
  rw [this]; exact h
theorem Good.rep (h : Good O f p) : ∀ n, Good (fun xs : List α => xs.length = n ∧ ∀ x ∈ xs, O x) (seqE f) (repP p n)
  | 0 => ⟨fun x a r ho hf => by
      obtain rfl := List.eq_nil_of_length_eq_zero ho.1
      cases hf; rfl, fun x a c d ho hf ha hd => by
      obtain rfl := List.eq_nil_of_length_eq_zero ho.1
      cases hf
      simp at ha
      exact absurd ha.2 hd, fun l x r hp => by cases hp; exact ⟨⟨rfl, by simp⟩, [], rfl, rfl⟩, fun l e hp => by cases hp⟩
  | n + 1 => by
    have ih := Good.rep h n
    have hs : ∀ (y : α) (xs : List α) a, seqE f (y :: xs) = .ok a → ∃ b c, f y = .ok b ∧ seqE f xs = .ok c ∧ a = b ++ c := by
      intro y xs a hf
      simp only [seqE] at hf
      cases h1 : f y with
      | error e => rw [h1] at hf; cases hf
      | ok b =>
        rw [h1] at hf
        cases h2 : seqE f xs with
        | error e => simp only [h2] at hf; cases hf
        | ok c => simp only [h2] at hf; cases hf; exact ⟨b, c, rfl, rfl, rfl⟩
    refine ⟨?_, ?_, ?_, ?_⟩
    · intro xs a r ho hf
      cases xs with
      | nil => simp at ho
      | cons y xs =>
        obtain ⟨b, c, h1, h2, rfl⟩ := hs y xs a hf
        rw [repP, List.append_assoc, h.bindBack (ho.2 y (by simp)) h1, ih.bindBack ⟨by simpa using ho.1, fun z hz => ho.2 z (by simp [hz])⟩ h2]
        rfl
    · intro xs a c d ho hf ha hd
      cases xs with
      | nil => simp at ho
      | cons y xs =>
        obtain ⟨b, c', h1, h2, rfl⟩ := hs y xs a hf
        refine h.bindCut (ho.2 y (by simp)) h1 ha hd fun c2 hc2 => ?_
        exact ih.bindCut (b := []) ⟨by simpa using ho.1, fun z hz => ho.2 z (by simp [hz])⟩ h2 (by rw [List.append_nil]; exact hc2) hd fun c3 hc3 => by simp at hc3; exact absurd hc3.2 hd
    · intro l xs r hp
      obtain ⟨y, l', h1, h2⟩ := bindP_inv hp
      obtain ⟨ys, l'', h3, h4⟩ := bindP_inv h2
      cases h4
      obtain ⟨o1, a1, f1, rfl⟩ := h.inv _ _ _ h1
      obtain ⟨⟨o2, o3⟩, a2, f2, rfl⟩ := ih.inv _ _ _ h3
      refine ⟨⟨by rw [List.length_cons, o2], fun z hz => ?_⟩, a1 ++ a2, by simp [seqE, f1, f2], by rw [List.append_assoc]⟩
      rcases List.mem_cons.1 hz with rfl | hz
      · exact o1
      · exact o3 z hz
    · intro l e hp
      rcases bindP_err hp with h1 | ⟨x, l', _, h2⟩
      · exact h.err _ _ h1
      · rcases bindP_err h2 with h3 | ⟨x', l'', _, h4⟩
        · exact ih.err _ _ h3
        · cases h4
end

theorem numL_cons (most k i n : Nat) (b : UInt8) (r : List UInt8) : numL most (k + 1) i n (b :: r) = if b.toNat < 128 then (if (i = 0 ∨ 0 < b.toNat) ∧ n + b.toNat % 128 * 128 ^ i ≤ 2147483647 then (if n + b.toNat % 128 * 128 ^ i ≤ most then .ok (n + b.toNat % 128 * 128 ^ i, r) else .error 2) else .error 50)
      else numL most k (i + 1) (n + b.toNat % 128 * 128 ^ i) r := rfl
theorem numL_back (most : Nat) : ∀ (k i n q : Nat) (r : List UInt8), q < 128 ^ k → 0 < k → (i = 0 ∨ 0 < q) → n + q * 128 ^ i ≤ 2147483647 → n + q * 128 ^ i ≤ most → numL most k i n (numB q ++ r) = .ok (n + q * 128 ^ i, r)
  | 0, i, n, q, r, _, hk, _, _, _ => absurd hk (by omega)
  | k + 1, i, n, q, r, hq, _, hi, h1, h2 => by
    by_cases hb : 127 < q
    · rw [numB_hi hb, List.cons_append, numL_cons]
      have hb' : (UInt8.ofNat (q % 128 + 128)).toNat = q % 128 + 128 := by rw [UInt8.toNat_ofNat']; omega
      rw [hb', if_neg (by omega)]
      have he : (q % 128 + 128) % 128 = q % 128 := by omega
      have hs : n + q % 128 * 128 ^ i + q / 128 * 128 ^ (i + 1) = n + q * 128 ^ i := by
        have : q * 128 ^ i = (q % 128 + 128 * (q / 128)) * 128 ^ i := by rw [Nat.mod_add_div]
        rw [this, Nat.pow_succ, Nat.add_mul, Nat.add_assoc]
        congr 2
        rw [Nat.mul_comm (128 ^ i) 128, ← Nat.mul_assoc, Nat.mul_comm (q / 128) 128]
      have hk : q / 128 < 128 ^ k := Nat.div_lt_of_lt_mul (by rw [Nat.pow_succ] at hq; omega)
      have hk0 : 0 < k := by
        rcases Nat.eq_zero_or_pos k with rfl | h
        · simp at hk; omega
        · exact h
      rw [he, numL_back most k (i + 1) _ (q / 128) r hk hk0 (.inr (by omega)) (by omega) (by omega), hs]
    · rw [numB_lo hb, List.cons_append, List.nil_append, numL_cons]
      have hb' : (UInt8.ofNat q).toNat = q := by rw [UInt8.toNat_ofNat']; omega
      have he : q % 128 = q := by omega
      rw [hb', if_pos (by omega), he, if_pos ⟨hi, h1⟩, if_pos h2]
theorem numL_cut (most : Nat) : ∀ (k i n q : Nat) (c d : List UInt8), numB q = c ++ d → d ≠ [] → numL most k i n c = .error 50
  | 0, i, n, q, c, d, _, _ => rfl
  | k + 1, i, n, q, c, d, h, hd => by
    cases c with
    | nil => rfl
    | cons b c =>
      by_cases hb : 127 < q
      · rw [numB_hi hb, List.cons_append] at h
        injection h with h1 h2
        rw [numL_cons, ← h1]
        have hb' : (UInt8.ofNat (q % 128 + 128)).toNat = q % 128 + 128 := by rw [UInt8.toNat_ofNat']; omega
        rw [hb', if_neg (by omega)]
        exact numL_cut most k _ _ (q / 128) c d h2 hd
      · rw [numB_lo hb, List.cons_append] at h
        injection h with h1 h2
        have := List.append_eq_nil_iff.1 h2.symm
        exact absurd this.2 hd
theorem numL_inv (most : Nat) : ∀ (k i n m : Nat) (l r : List UInt8), numL most k i n l = .ok (m, r) → ∃ q, m = n + q * 128 ^ i ∧ l = numB q ++ r ∧ (i = 0 ∨ 0 < q) ∧ m ≤ 2147483647 ∧ m ≤ most
  | 0, i, n, m, l, r, h => by cases h
  | k + 1, i, n, m, l, r, h => by
    cases l with
    | nil => cases h
    | cons b l =>
      have hb := b.toNat_lt
      rw [numL_cons] at h
      split at h
      · rename_i h1
        split at h
        · rename_i h2
          split at h
          · rename_i h3
            cases h
            have he : b.toNat % 128 = b.toNat := by omega
            rw [he] at h2 h3 ⊢
            refine ⟨b.toNat, rfl, ?_, h2.1, h2.2, h3⟩
            rw [numB_lo (by omega)]
            simp
          · cases h
        · cases h
      · rename_i h1
        obtain ⟨q, e1, rfl, e3, e4, e5⟩ := numL_inv most k (i + 1) _ m l r h
        have hq : 0 < q := by omega
        refine ⟨b.toNat % 128 + 128 * q, ?_, ?_, .inr (by omega), e4, e5⟩
        · rw [e1, Nat.pow_succ, Nat.add_mul, Nat.add_assoc]
          congr 2
          rw [Nat.mul_comm (128 ^ i) 128, ← Nat.mul_assoc, Nat.mul_comm q 128]
        · have h2 : (b.toNat % 128 + 128 * q) % 128 = b.toNat % 128 := by omega
          have h3 : (b.toNat % 128 + 128 * q) / 128 = q := by omega
          have h4 : UInt8.ofNat (b.toNat % 128 + 128) = b := by
            have : b.toNat % 128 + 128 = b.toNat := by omega
            rw [this]; simp
          have h5 : 127 < b.toNat % 128 + 128 * q := by omega
          rw [numB_hi h5, h2, h3, h4, List.cons_append]
theorem numL_err (most : Nat) : ∀ (k i n : Nat) (l : List UInt8) (e : Int), numL most k i n l = .error e → e = 50 ∨ e = 2
  | 0, i, n, l, e, h => by cases h; exact .inl rfl
  | k + 1, i, n, l, e, h => by
    cases l with
    | nil => cases h; exact .inl rfl
    | cons b l =>
      rw [numL_cons] at h
      split at h
      · split at h
        · split at h
          · cases h
          · cases h; exact .inr rfl
        · cases h; exact .inl rfl
      · exact numL_err most k _ _ l e h
/-- a number that is at most so great -/
def cntB (most n : Nat) : Res := if n ≤ most ∧ n ≤ 2147483647 then .ok (numB n) else .error 0
theorem cntB_ok {most n : Nat} {a : List UInt8} (h : cntB most n = .ok a) : n ≤ most ∧ n ≤ 2147483647 ∧ a = numB n := by
  unfold cntB at h
  split at h
  · rename_i h1; cases h; exact ⟨h1.1, h1.2, rfl⟩
  · cases h
theorem num_good (most : Nat) : Good (fun _ => True) (cntB most) (numP most) where
  back := fun n a r _ h => by
    obtain ⟨h1, h2, rfl⟩ := cntB_ok h
    have := numL_back most 5 0 0 n r (by simp; omega) (by omega) (.inl rfl) (by simpa using h2) (by simpa using h1)
    simpa [numP] using this
  cut := fun n a c d _ h he hd => by
    obtain ⟨h1, h2, rfl⟩ := cntB_ok h
    exact numL_cut most 5 0 0 n c d he hd
  inv := fun l m r h => by
    obtain ⟨q, e1, e2, _, e4, e5⟩ := numL_inv most 5 0 0 m l r h
    obtain rfl : m = q := by simpa using e1
    exact ⟨trivial, numB m, by rw [cntB, if_pos ⟨e5, e4⟩], e2⟩
  err := fun l e h => numL_err most 5 0 0 l e h
theorem take_good (n : Nat) : Good (fun t : List UInt8 => t.length = n) (fun t => .ok t) (takeP n) where
  back := fun t a r ho h => by
    cases h
    subst ho
    rw [takeP, if_pos (by simp), List.take_left, List.drop_left]
  cut := fun t a c d ho h he hd => by
    cases h
    have : 0 < d.length := List.length_pos_iff.2 hd
    have h2 := congrArg List.length he
    rw [List.length_append] at h2
    rw [takeP, if_neg (by omega)]
  inv := fun l t r h => by
    unfold takeP at h
    split at h
    · cases h
      rename_i h1
      exact ⟨by rw [List.length_take]; omega, _, rfl, (List.take_append_drop n l).symm⟩
    · cases h
  err := fun l e h => by
    unfold takeP at h
    split at h <;> cases h
    exact .inl rfl
theorem among_good (lo hi : Nat) : Good (fun b : UInt8 => lo ≤ b.toNat ∧ b.toNat ≤ hi) (fun b => .ok [b]) (amongP lo hi) where
  back := fun b a r ho h => by
    cases h
    rw [List.cons_append, List.nil_append, amongP, if_pos ho]
  cut := fun b a c d ho h he hd => by
    cases h
    cases c with
    | nil => rfl
    | cons x c =>
      rw [List.cons_append] at he
      injection he with _ h2
      have := List.append_eq_nil_iff.1 h2.symm
      exact absurd this.2 hd
  inv := fun l b r h => by
    cases l with
    | nil => cases h
    | cons x l =>
      rw [amongP] at h
      split at h
      · rename_i h1; cases h; exact ⟨h1, _, rfl, rfl⟩
      · cases h
  err := fun l e h => by
    cases l with
    | nil => cases h; exact .inl rfl
    | cons x l =>
      rw [amongP] at h
      split at h <;> cases h
      exact .inl rfl
end Go.Proofs.YtcfelfhjhkenaaaDoor
