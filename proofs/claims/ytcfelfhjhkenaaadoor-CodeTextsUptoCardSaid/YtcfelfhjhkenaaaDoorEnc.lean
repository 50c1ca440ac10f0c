/- Encode as a function; it tells programs apart. -/
import Derived.Test.YtcfelfhjhkenaaaDoorCst
import Derived.Test.YtcfelfhjhkenaaaDoorVal
namespace Go.Proofs.YtcfelfhjhkenaaaDoor

abbrev Res := Except Int (List UInt8)
/-- one behind the other -/
def andE (a b : Res) : Res := match a with
  | .error e => .error e
  | .ok x => match b with
    | .error e => .error e
    | .ok y => .ok (x ++ y)
theorem andE_ok {a b : Res} {z : List UInt8} : andE a b = .ok z ↔ ∃ x y, a = .ok x ∧ b = .ok y ∧ z = x ++ y := by
  unfold andE
  constructor
  · intro h
    cases a with
    | error e => cases h
    | ok x =>
      cases b with
      | error e => cases h
      | ok y => cases h; exact ⟨x, y, rfl, rfl, rfl⟩
  · rintro ⟨x, y, rfl, rfl, rfl⟩; rfl
structure CodeD where
  name : ByteArray
  kind : Int
  params : Int
  defaults : Int
  gen : Bool
  locals : List ByteArray
  cells : List ByteArray
  free : List ByteArray
  names : List ByteArray
  consts : List ValD
  ins : List (Int × Int)
def insE (x : Int × Int) : Res := if 1 ≤ x.1 ∧ x.1 < 57 then andE (.ok [byteI x.1]) (numE x.2) else .error 1
def codeE (c : CodeD) : Res :=
  andE (textE c.name) (andE (numE c.kind) (andE (numE c.params) (andE (numE c.defaults) (andE (.ok [if c.gen then 1 else 0])
    (andE (listE c.locals) (andE (listE c.cells) (andE (listE c.free) (andE (listE c.names)
      (andE (countE c.consts.length 4096) (andE (seqE valE c.consts) (andE (countE c.ins.length 65536) (seqE insE c.ins))))))))))))
def headB : List UInt8 := [75, 82, 65, 73, 84, 49]
def encE (p : List CodeD) : Res := andE (.ok headB) (andE (countE p.length 1000) (seqE codeE p))

/-- what a piece is written as is no beginning of what another one is written as, whatever follows -/
def Apart {α : Type} (f : α → Res) : Prop := ∀ x y a b s t, f x = .ok a → f y = .ok b → a ++ s = b ++ t → x = y ∧ s = t
theorem numB_ne (n : Nat) : numB n ≠ [] := by
  by_cases h : 127 < n
  · rw [numB_hi h]; simp
  · rw [numB_lo h]; simp
theorem numB_apart : ∀ (n m : Nat) (s t : List UInt8), numB n ++ s = numB m ++ t → n = m ∧ s = t := by
  intro n
  induction n using Nat.strongRecOn with
  | _ n ih =>
    intro m s t h
    by_cases hn : 127 < n
    · by_cases hm : 127 < m
      · rw [numB_hi hn, numB_hi hm, List.cons_append, List.cons_append] at h
        injection h with h1 h2
        obtain ⟨h3, h4⟩ := ih (n / 128) (by omega) _ _ _ h2
        have h5 := congrArg UInt8.toNat h1
        rw [UInt8.toNat_ofNat', UInt8.toNat_ofNat'] at h5
        exact ⟨by omega, h4⟩
      · rw [numB_hi hn, numB_lo hm, List.cons_append, List.cons_append] at h
        injection h with h1 _
        have h5 := congrArg UInt8.toNat h1
        rw [UInt8.toNat_ofNat', UInt8.toNat_ofNat'] at h5
        omega
    · by_cases hm : 127 < m
      · rw [numB_lo hn, numB_hi hm, List.cons_append, List.cons_append] at h
        injection h with h1 _
        have h5 := congrArg UInt8.toNat h1
        rw [UInt8.toNat_ofNat', UInt8.toNat_ofNat'] at h5
        omega
      · rw [numB_lo hn, numB_lo hm, List.cons_append, List.cons_append] at h
        injection h with h1 h2
        have h5 := congrArg UInt8.toNat h1
        rw [UInt8.toNat_ofNat', UInt8.toNat_ofNat'] at h5
        exact ⟨by omega, h2⟩
theorem numE_apart : Apart numE := by
  intro x y a b s t hx hy h
  unfold numE at hx hy
  split at hx
  · split at hy
    · cases hx; cases hy
      obtain ⟨h1, h2⟩ := numB_apart _ _ _ _ h
      exact ⟨by omega, h2⟩
    · cases hy
  · cases hx
theorem textE_apart : Apart textE := by
  intro x y a b s t hx hy h
  unfold textE at hx hy
  split at hx
  · split at hy
    · cases hx; cases hy
      rw [List.append_assoc, List.append_assoc] at h
      obtain ⟨h1, h2⟩ := numB_apart _ _ _ _ h
      obtain ⟨h3, h4⟩ := List.append_inj h2 (by rw [sizeB, sizeB]; exact h1)
      refine ⟨?_, h4⟩
      have : x.data = y.data := Array.ext' h3
      cases x; cases y; simp_all
    · cases hy
  · cases hx
/-- .. of those that are such -/
def ApartOn {α : Type} (P : α → Prop) (f : α → Res) : Prop := ∀ x y a b s t, P x → P y → f x = .ok a → f y = .ok b → a ++ s = b ++ t → x = y ∧ s = t
theorem Apart.on {α : Type} {f : α → Res} (h : Apart f) (P : α → Prop) : ApartOn P f := fun x y a b s t _ _ => h x y a b s t
theorem seqE_apartOn {α : Type} {P : α → Prop} {f : α → Res} (hf : ApartOn P f) : ∀ (xs ys : List α) (a b s t : List UInt8), (∀ x ∈ xs, P x) → (∀ y ∈ ys, P y) → xs.length = ys.length → seqE f xs = .ok a → seqE f ys = .ok b → a ++ s = b ++ t → xs = ys ∧ s = t
  | [], [], a, b, s, t, _, _, _, hx, hy, h => by cases hx; cases hy; exact ⟨rfl, h⟩
  | [], y :: ys, a, b, s, t, _, _, hl, _, _, _ => by simp at hl
  | x :: xs, [], a, b, s, t, _, _, hl, _, _, _ => by simp at hl
  | x :: xs, y :: ys, a, b, s, t, hP, hQ, hl, hx, hy, h => by
    simp only [seqE] at hx hy
    cases hx1 : f x with
    | error e => rw [hx1] at hx; cases hx
    | ok a1 =>
      cases hy1 : f y with
      | error e => rw [hy1] at hy; cases hy
      | ok b1 =>
        rw [hx1] at hx
        rw [hy1] at hy
        cases hx2 : seqE f xs with
        | error e => simp only [hx2] at hx; cases hx
        | ok a2 =>
          cases hy2 : seqE f ys with
          | error e => simp only [hy2] at hy; cases hy
          | ok b2 =>
            simp only [hx2] at hx
            simp only [hy2] at hy
            cases hx
            cases hy
            rw [List.append_assoc, List.append_assoc] at h
            obtain ⟨h1, h2⟩ := hf x y a1 b1 _ _ (hP x (by simp)) (hQ y (by simp)) hx1 hy1 h
            obtain ⟨h3, h4⟩ := seqE_apartOn hf xs ys a2 b2 s t (fun z hz => hP z (by simp [hz])) (fun z hz => hQ z (by simp [hz])) (by simpa using hl) hx2 hy2 h2
            exact ⟨by rw [h1, h3], h4⟩
theorem seqE_apart {α : Type} {f : α → Res} (hf : Apart f) (xs ys : List α) (a b s t : List UInt8) (hl : xs.length = ys.length) (hx : seqE f xs = .ok a) (hy : seqE f ys = .ok b) (h : a ++ s = b ++ t) : xs = ys ∧ s = t :=
  seqE_apartOn (hf.on fun _ => True) xs ys a b s t (fun _ _ => trivial) (fun _ _ => trivial) hl hx hy h
theorem listE_apart : Apart listE := by
  intro x y a b s t hx hy h
  unfold listE at hx hy
  split at hx
  · split at hy
    · cases hx1 : seqE textE x with
      | error e => rw [hx1] at hx; cases hx
      | ok a1 =>
        cases hy1 : seqE textE y with
        | error e => rw [hy1] at hy; cases hy
        | ok b1 =>
          rw [hx1] at hx
          rw [hy1] at hy
          cases hx
          cases hy
          rw [List.append_assoc, List.append_assoc] at h
          obtain ⟨h1, h2⟩ := numB_apart _ _ _ _ h
          exact seqE_apart textE_apart x y a1 b1 s t h1 hx1 hy1 h2
    · cases hy
  · cases hx
theorem insE_apart : Apart insE := by
  intro x y a b s t hx hy h
  unfold insE at hx hy
  split at hx
  · split at hy
    · obtain ⟨_, a2, rfl', ha, rfl⟩ := andE_ok.1 hx
      obtain ⟨_, b2, rfl'', hb, rfl⟩ := andE_ok.1 hy
      cases rfl'
      cases rfl''
      simp only [List.cons_append, List.nil_append] at h
      injection h with h1 h2
      obtain ⟨h3, h4⟩ := numE_apart _ _ _ _ _ _ ha hb h2
      have h5 := congrArg (fun u : UInt8 => (u.toNat : Int)) h1
      simp only [byteI_toNat] at h5
      refine ⟨?_, h4⟩
      obtain ⟨x1, x2⟩ := x
      obtain ⟨y1, y2⟩ := y
      simp only at *
      rw [Prod.mk.injEq]
      exact ⟨by omega, h3⟩
    · cases hy
  · cases hx
/-- a number of 64 bits -/
def ValD.Ok (v : ValD) : Prop := -9223372036854775808 ≤ v.n ∧ v.n ≤ 9223372036854775807
theorem byteI_inj {m k : Int} (h : byteI m = byteI k) : m % 256 = k % 256 := by
  rw [← byteI_toNat, ← byteI_toNat, h]
theorem int8_inj {n m : Int} (hn : -9223372036854775808 ≤ n ∧ n ≤ 9223372036854775807) (hm : -9223372036854775808 ≤ m ∧ m ≤ 9223372036854775807) (h : int8 n = int8 m) : n = m := by
  simp only [int8, List.map_cons, List.map_nil, List.cons.injEq] at h
  obtain ⟨h1, h2, h3, h4, h5, h6, h7, h8, _⟩ := h
  have g1 := byteI_inj h1
  have g2 := byteI_inj h2
  have g3 := byteI_inj h3
  have g4 := byteI_inj h4
  have g5 := byteI_inj h5
  have g6 := byteI_inj h6
  have g7 := byteI_inj h7
  have g8 := byteI_inj h8
  simp only [Int.reducePow] at g1 g2 g3 g4 g5 g6 g7 g8
  omega
theorem valE_ok {v : ValD} {a : List UInt8} (h : valE v = .ok a) : (v.k = 0 ∧ v.s.toList.isEmpty = true ∧ v.n = 0 ∧ a = [0]) ∨ (v.k = 1 ∧ v.s.toList.isEmpty = true ∧ (v.n = 0 ∨ v.n = 1) ∧ a = [1, byteI v.n]) ∨ (v.k = 2 ∧ v.s.toList.isEmpty = true ∧ a = 2 :: int8 v.n) ∨ (v.k = 3 ∧ v.n = 0 ∧ ∃ c, textE v.s = .ok c ∧ a = 3 :: c) := by
  unfold valE at h
  split at h
  · split at h
    · rename_i h1 h2; cases h; exact .inl ⟨h1, h2.1, h2.2, rfl⟩
    · cases h
  · split at h
    · split at h
      · rename_i h1 h2; cases h; exact .inr (.inl ⟨h1, h2.1, h2.2, rfl⟩)
      · cases h
    · split at h
      · split at h
        · rename_i h1 h2; cases h; exact .inr (.inr (.inl ⟨h1, h2, rfl⟩))
        · cases h
      · split at h
        · split at h
          · rename_i h1 h2
            cases hc : textE v.s with
            | error e => rw [hc] at h; cases h
            | ok c => rw [hc] at h; cases h; exact .inr (.inr (.inr ⟨h1, h2, c, rfl, rfl⟩))
          · cases h
        · cases h
theorem valE_apart : ApartOn ValD.Ok valE := by
  intro x y a b s t ox oy hx hy h
  have hes : ∀ {u v : ByteArray}, u.toList.isEmpty = true → v.toList.isEmpty = true → u = v := fun hu hv => by
    rw [List.isEmpty_iff] at hu hv
    exact (toList_inj _ _).1 (hu.trans hv.symm)
  have hb : ∀ {u v : UInt8} {l r : List UInt8}, u :: l = v :: r → u = v ∧ l = r := fun h => by injection h with h1 h2; exact ⟨h1, h2⟩
  obtain ⟨k, n, z⟩ := x
  obtain ⟨k', n', z'⟩ := y
  rcases valE_ok hx with ⟨rfl, e1, rfl, rfl⟩ | ⟨rfl, e1, h1, rfl⟩ | ⟨rfl, e1, rfl⟩ | ⟨rfl, rfl, c, e1, rfl⟩ <;>
  rcases valE_ok hy with ⟨rfl, e2, rfl, rfl⟩ | ⟨rfl, e2, h2, rfl⟩ | ⟨rfl, e2, rfl⟩ | ⟨rfl, rfl, c', e2, rfl⟩ <;>
  simp only [List.cons_append, List.nil_append] at h <;>
  obtain ⟨g1, g2⟩ := hb h <;>
  first
  | (exact absurd g1 (by decide))
  | (obtain rfl : z = z' := hes e1 e2; exact ⟨rfl, g2⟩)
  | (obtain rfl : z = z' := hes e1 e2; obtain ⟨g3, g4⟩ := hb g2; have h3 : n % 256 = n' % 256 := byteI_inj g3; have h4 : n = 0 ∨ n = 1 := h1; have h5 : n' = 0 ∨ n' = 1 := h2; obtain rfl : n = n' := (by omega); exact ⟨rfl, g4⟩)
  | (obtain rfl : z = z' := hes e1 e2; obtain ⟨g3, g4⟩ := List.append_inj g2 rfl; obtain rfl : n = n' := int8_inj ox oy g3; exact ⟨rfl, g4⟩)
  | (obtain ⟨g3, g4⟩ := textE_apart z z' _ _ _ _ e1 e2 g2; subst g3; exact ⟨rfl, g4⟩)
theorem countE_ok {n most : Int} {a : List UInt8} (h : countE n most = .ok a) : numE n = .ok a := by
  unfold countE at h
  split at h
  · exact h
  · cases h
def CodeD.Ok (c : CodeD) : Prop := ∀ v ∈ c.consts, v.Ok
theorem codeE_apart : ApartOn CodeD.Ok codeE := by
  intro x y a b s t ox oy hx hy h
  unfold codeE at hx hy
  obtain ⟨a1, a'1, hx1, hX1, rfl⟩ := andE_ok.1 hx
  obtain ⟨b1, b'1, hy1, hY1, rfl⟩ := andE_ok.1 hy
  obtain ⟨a2, a'2, hx2, hX2, rfl⟩ := andE_ok.1 hX1
  obtain ⟨b2, b'2, hy2, hY2, rfl⟩ := andE_ok.1 hY1
  obtain ⟨a3, a'3, hx3, hX3, rfl⟩ := andE_ok.1 hX2
  obtain ⟨b3, b'3, hy3, hY3, rfl⟩ := andE_ok.1 hY2
  obtain ⟨a4, a'4, hx4, hX4, rfl⟩ := andE_ok.1 hX3
  obtain ⟨b4, b'4, hy4, hY4, rfl⟩ := andE_ok.1 hY3
  obtain ⟨a5, a'5, hx5, hX5, rfl⟩ := andE_ok.1 hX4
  obtain ⟨b5, b'5, hy5, hY5, rfl⟩ := andE_ok.1 hY4
  obtain ⟨a6, a'6, hx6, hX6, rfl⟩ := andE_ok.1 hX5
  obtain ⟨b6, b'6, hy6, hY6, rfl⟩ := andE_ok.1 hY5
  obtain ⟨a7, a'7, hx7, hX7, rfl⟩ := andE_ok.1 hX6
  obtain ⟨b7, b'7, hy7, hY7, rfl⟩ := andE_ok.1 hY6
  obtain ⟨a8, a'8, hx8, hX8, rfl⟩ := andE_ok.1 hX7
  obtain ⟨b8, b'8, hy8, hY8, rfl⟩ := andE_ok.1 hY7
  obtain ⟨a9, a'9, hx9, hX9, rfl⟩ := andE_ok.1 hX8
  obtain ⟨b9, b'9, hy9, hY9, rfl⟩ := andE_ok.1 hY8
  obtain ⟨a10, a'10, hx10, hX10, rfl⟩ := andE_ok.1 hX9
  obtain ⟨b10, b'10, hy10, hY10, rfl⟩ := andE_ok.1 hY9
  obtain ⟨a11, a'11, hx11, hX11, rfl⟩ := andE_ok.1 hX10
  obtain ⟨b11, b'11, hy11, hY11, rfl⟩ := andE_ok.1 hY10
  obtain ⟨a12, a'12, hx12, hX12, rfl⟩ := andE_ok.1 hX11
  obtain ⟨b12, b'12, hy12, hY12, rfl⟩ := andE_ok.1 hY11
  simp only [List.append_assoc] at h
  obtain ⟨e1, h⟩ := textE_apart _ _ _ _ _ _ hx1 hy1 h
  obtain ⟨e2, h⟩ := numE_apart _ _ _ _ _ _ hx2 hy2 h
  obtain ⟨e3, h⟩ := numE_apart _ _ _ _ _ _ hx3 hy3 h
  obtain ⟨e4, h⟩ := numE_apart _ _ _ _ _ _ hx4 hy4 h
  cases hx5
  cases hy5
  simp only [List.cons_append, List.nil_append] at h
  injection h with g5 h
  have e5 : x.gen = y.gen := by
    cases hg : x.gen <;> cases hg' : y.gen <;> rw [hg, hg'] at g5 <;> first | rfl | (exact absurd g5 (by decide))
  obtain ⟨e6, h⟩ := listE_apart _ _ _ _ _ _ hx6 hy6 h
  obtain ⟨e7, h⟩ := listE_apart _ _ _ _ _ _ hx7 hy7 h
  obtain ⟨e8, h⟩ := listE_apart _ _ _ _ _ _ hx8 hy8 h
  obtain ⟨e9, h⟩ := listE_apart _ _ _ _ _ _ hx9 hy9 h
  obtain ⟨e10, h⟩ := numE_apart _ _ _ _ _ _ (countE_ok hx10) (countE_ok hy10) h
  obtain ⟨e11, h⟩ := seqE_apartOn valE_apart _ _ _ _ _ _ ox oy (by omega) hx11 hy11 h
  obtain ⟨e12, h⟩ := numE_apart _ _ _ _ _ _ (countE_ok hx12) (countE_ok hy12) h
  obtain ⟨e13, h⟩ := seqE_apart insE_apart _ _ _ _ _ _ (by omega) hX12 hY12 h
  refine ⟨?_, h⟩
  cases x
  cases y
  simp only at e1 e2 e3 e4 e5 e6 e7 e8 e9 e11 e13
  subst e1 e2 e3 e4 e5 e6 e7 e8 e9 e11 e13
  rfl
/-- CodeUnlike's plain law -/
theorem encE_apart {p q : List CodeD} {a : List UInt8} (hp : ∀ c ∈ p, c.Ok) (hq : ∀ c ∈ q, c.Ok) (h1 : encE p = .ok a) (h2 : encE q = .ok a) : p = q := by
  unfold encE at h1 h2
  obtain ⟨a1, a2, hx1, hX, rfl⟩ := andE_ok.1 h1
  obtain ⟨b1, b2, hy1, hY, e⟩ := andE_ok.1 h2
  cases hx1
  cases hy1
  obtain ⟨a3, a4, hx3, hx4, rfl⟩ := andE_ok.1 hX
  obtain ⟨b3, b4, hy3, hy4, rfl⟩ := andE_ok.1 hY
  have e := List.append_cancel_left e
  have e' : a3 ++ (a4 ++ []) = b3 ++ (b4 ++ []) := by rw [List.append_nil, List.append_nil]; exact e
  obtain ⟨g1, g2⟩ := numE_apart _ _ _ _ _ _ (countE_ok hx3) (countE_ok hy3) e'
  exact (seqE_apartOn codeE_apart p q a4 b4 [] [] hp hq (by omega) hx4 hy4 g2).1
end Go.Proofs.YtcfelfhjhkenaaaDoor
