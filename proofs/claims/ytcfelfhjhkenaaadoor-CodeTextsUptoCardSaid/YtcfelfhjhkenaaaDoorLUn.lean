/- CodeUnlike: the walk. -/
import Derived.Test.YtcfelfhjhkenaaaDoorLaw
import Derived.Test.YtcfelfhjhkenaaaDoorBgg
namespace Go.Proofs.YtcfelfhjhkenaaaDoor
open Go.RowKit
set_option linter.unusedVariables false
set_option linter.unusedSimpArgs false
attribute [local go_sem] Oper.semAt_some

/-- Encode, its results as letters -/
def EncR (p : List CodeD) (s : ByteArray) (x : Int) : Prop := (∃ bs, encE p = .ok bs ∧ s = bstr bs ∧ x = 0) ∨ (∃ y, encE p = .error y ∧ s = ⟨#[]⟩ ∧ x = y ∧ y ≠ 0)
theorem andE_err {A B : Res} {e : Int} (h : andE A B = .error e) : A = .error e ∨ B = .error e := by
  unfold andE at h
  cases A with
  | error a => cases h; exact .inl rfl
  | ok a =>
    cases B with
    | error b => cases h; exact .inr rfl
    | ok b => cases h
def Err12 (A : Res) : Prop := ∀ e, A = .error e → e = 1 ∨ e = 2
theorem err_and {A B : Res} (hA : Err12 A) (hB : Err12 B) : Err12 (andE A B) := fun e h => (andE_err h).elim (hA e) (hB e)
theorem err_ok (a : List UInt8) : Err12 (.ok a) := fun e h => by cases h
theorem err_num (n : Int) : Err12 (numE n) := fun e h => by
  unfold numE at h
  split at h <;> cases h
  exact .inl rfl
theorem err_count (n m : Int) : Err12 (countE n m) := fun e h => by
  unfold countE at h
  split at h
  · exact err_num n e h
  · cases h; exact .inr rfl
theorem err_text (s : ByteArray) : Err12 (textE s) := fun e h => by
  unfold textE at h
  split at h <;> cases h
  exact .inr rfl
theorem err_seq {α : Type} {f : α → Res} (hf : ∀ x, Err12 (f x)) : ∀ l : List α, Err12 (seqE f l)
  | [] => fun e h => by cases h
  | x :: l => by rw [seqE_cons]; exact err_and (hf x) (err_seq hf l)
theorem err_list (l : List ByteArray) : Err12 (listE l) := by
  rw [list_cnt]
  exact err_and (err_count _ _) (err_seq err_text l)
theorem err_val (v : ValD) : Err12 (valE v) := fun e h => by
  unfold valE at h
  repeat' split at h
  all_goals first
    | (cases h; exact .inl rfl)
    | (cases h; done)
    | (cases h; rename_i hx; exact err_text _ _ hx)
theorem err_ins (x : Int × Int) : Err12 (insE x) := fun e h => by
  unfold insE at h
  split at h
  · exact err_and (err_ok _) (err_num _) e h
  · cases h; exact .inl rfl
theorem err_code (c : CodeD) : Err12 (codeE c) := by
  unfold codeE
  exact err_and (err_text _) (err_and (err_num _) (err_and (err_num _) (err_and (err_num _) (err_and (err_ok _) (err_and (err_list _) (err_and (err_list _) (err_and (err_list _) (err_and (err_list _) (err_and (err_count _ _) (err_and (err_seq err_val _) (err_and (err_count _ _) (err_seq err_ins _))))))))))))
theorem err_enc (p : List CodeD) : Err12 (encE p) := err_and (err_ok _) (err_and (err_count _ _) (err_seq err_code p))
theorem encode_in (w : World) {A : Option Addr} {n c : Nat} {p : List CodeD} (h : ProgAt w A n c p) :
    Calls Tryd.prog 11 #[.slice A n c] w fun e w' => (∃ s x, e = .returned (.tuple #[.string s, .int .i64 x]) ∧ EncR p s x) ∧ Below w.heap.size w w' := by
  refine (encode_any w h).mono fun e w' ⟨hb, he⟩ => ⟨?_, hb⟩
  cases hx : encE p with
  | ok bs => rw [hx] at he; exact ⟨_, _, he, .inl ⟨bs, hx, rfl, rfl⟩⟩
  | error y => rw [hx] at he; exact ⟨_, _, he, .inr ⟨y, hx, rfl, rfl, by rcases err_enc p y hx with rfl | rfl <;> decide⟩⟩
theorem big_yes {w : World} {A : Option Addr} {n c : Nat} {p : List CodeD} (h : ProgAt w A n c p) (hb : bigP p) : Calls Tryd.prog 12 #[.slice A n c] w fun e w' => e = .returned (.bool true) ∧ Below w.heap.size w w' :=
  (big_any h).mono fun e w' ⟨b, h1, h2, h3⟩ => ⟨by rw [h1, h2.2 hb], h3⟩
theorem big_no {w : World} {A : Option Addr} {n c : Nat} {p : List CodeD} (h : ProgAt w A n c p) (hb : ¬ bigP p) : Calls Tryd.prog 12 #[.slice A n c] w fun e w' => e = .returned (.bool false) ∧ Below w.heap.size w w' :=
  (big_any h).mono fun e w' ⟨b, h1, h2, h3⟩ => ⟨by cases b with | false => exact h1 | true => exact absurd (h2.1 rfl) hb, h3⟩
theorem same_yes {w : World} {A B : Option Addr} {n c m d : Nat} {p q : List CodeD} (h : ProgAt w A n c p) (g : ProgAt w B m d q) (e : p = q) : Calls Tryd.prog 14 #[.slice A n c, .slice B m d] w fun e w' => e = .returned (.bool true) ∧ Below w.heap.size w w' :=
  (same_any h g).mono fun _ w' ⟨b, h1, h2, h3⟩ => ⟨by rw [h1, h2.2 e], h3⟩
theorem same_no {w : World} {A B : Option Addr} {n c m d : Nat} {p q : List CodeD} (h : ProgAt w A n c p) (g : ProgAt w B m d q) (e : ¬ p = q) : Calls Tryd.prog 14 #[.slice A n c, .slice B m d] w fun e w' => e = .returned (.bool false) ∧ Below w.heap.size w w' :=
  (same_any h g).mono fun _ w' ⟨b, h1, h2, h3⟩ => ⟨by cases b with | false => exact h1 | true => exact absurd (h2.1 rfl) e, h3⟩
/-- what a law says -/
def True_ (w : World) (e : Ending) (w' : World) : Prop := e = .returned (.bool true) ∧ Below w.heap.size w w'

set_option maxRecDepth 100000 in
set_option maxHeartbeats 4000000 in
theorem unlike_any {w : World} (ht : Tabs w) {A B : Option Addr} {n c m d : Nat} {p q : List CodeD} (hp : ProgAt w A n c p) (hq : ProgAt w B m d q) (op : ∀ x ∈ p, x.Ok) (oq : ∀ x ∈ q, x.Ok) :
    Calls Tryd.prog 3 #[.slice A n c, .slice B m d] w (True_ w) := by
  have HT := Lib.hid ht
  have HP := Lib.hid hp
  have HQ := Lib.hid hq
  have OP := Lib.hid op
  have OQ := Lib.hid oq
  clear ht hp hq op oq
  go_enter Tryd.func3, Tryd.ntmps3
  go_wp2_with fail
  refine (encode_in w HP.out).mono ?_
  rintro e w1 ⟨⟨s, x, rfl, hr1⟩, hb1⟩
  have R1 := Lib.hid hr1
  have B1 := Lib.hid hb1
  clear hr1 hb1
  go_wp2_with fail
  refine (encode_in w1 (HQ.out.new B1.out)).mono ?_
  rintro e w2 ⟨⟨t, y, rfl, hr2⟩, hb2⟩
  have R2 := Lib.hid hr2
  have B2 := Lib.hid (B1.out.trans (hb2.mono B1.out.size))
  clear hr2 hb2 B1
  go_wp2_with fail
  rcases Classical.em (bigP p) with bp | bp
  · refine (big_yes (HP.out.new B2.out) bp).mono ?_
    rintro e w3 ⟨rfl, hb3⟩
    have B3 := Lib.hid (B2.out.trans (hb3.mono B2.out.size))
    clear hb3
    go_wp2_with fail
    refine (laid_any w3 (HT.out.below B3.out)).mono ?_
    rintro e w4 ⟨rfl, hb4⟩
    have B4 := Lib.hid (B3.out.trans (hb4.mono B3.out.size))
    clear hb4
    go_wp2_with fail
    go_ret
    exact ⟨rfl, B4.out⟩
  refine (big_no (HP.out.new B2.out) bp).mono ?_
  rintro e w3 ⟨rfl, hb3⟩
  have B3 := Lib.hid (B2.out.trans (hb3.mono B2.out.size))
  clear hb3
  go_wp2_with fail
  rcases Classical.em (bigP q) with bq | bq
  · refine (big_yes (HQ.out.new B3.out) bq).mono ?_
    rintro e w4 ⟨rfl, hb4⟩
    have B4 := Lib.hid (B3.out.trans (hb4.mono B3.out.size))
    clear hb4
    go_wp2_with fail
    refine (laid_any w4 (HT.out.below B4.out)).mono ?_
    rintro e w5 ⟨rfl, hb5⟩
    have B5 := Lib.hid (B4.out.trans (hb5.mono B4.out.size))
    clear hb5
    go_wp2_with fail
    go_ret
    exact ⟨rfl, B5.out⟩
  refine (big_no (HQ.out.new B3.out) bq).mono ?_
  rintro e w4 ⟨rfl, hb4⟩
  have B4 := Lib.hid (B3.out.trans (hb4.mono B3.out.size))
  clear hb4
  by_cases hx : x = 0
  · subst hx
    by_cases hy : y = 0
    · subst hy
      go_wp2_with fail
      refine (laid_any w4 (HT.out.below B4.out)).mono ?_
      rintro e w5 ⟨rfl, hb5⟩
      have B5 := Lib.hid (B4.out.trans (hb5.mono B4.out.size))
      clear hb5
      obtain ⟨a, ea, rfl, -⟩ : ∃ a, encE p = .ok a ∧ s = bstr a ∧ True := by
        rcases R1.out with ⟨a, h1, h2, _⟩ | ⟨z, _, _, h3, h4⟩
        · exact ⟨a, h1, h2, trivial⟩
        · exact absurd h3.symm h4
      obtain ⟨b, eb, rfl, -⟩ : ∃ b, encE q = .ok b ∧ t = bstr b ∧ True := by
        rcases R2.out with ⟨a, h1, h2, _⟩ | ⟨z, _, _, h3, h4⟩
        · exact ⟨a, h1, h2, trivial⟩
        · exact absurd h3.symm h4
      rcases Classical.em (p = q) with hpq | hpq
      · have hab : a = b := by
          rw [hpq, eb] at ea
          cases ea
          rfl
        subst hab
        have HPQ := Lib.hid hpq
        clear hpq ea eb R1 R2
        go_wp2_with fail
        refine (same_yes (HP.out.new B5.out) (HQ.out.new B5.out) HPQ.out).mono ?_
        rintro e w6 ⟨rfl, hb6⟩
        have B6 := Lib.hid (B5.out.trans (hb6.mono B5.out.size))
        clear hb6
        go_wp2_with fail
        go_ret
        exact ⟨rfl, B6.out⟩
      · have hab : ¬ (bstr a).toList = (bstr b).toList := by
          rw [ByteArray.toList_eq, ByteArray.toList_eq, bstr_list, bstr_list]
          rintro rfl
          exact hpq (encE_apart OP.out OQ.out ea eb)
        have hab2 : ((bstr a).toList == (bstr b).toList) = false := by simpa using hab
        have HPQ := Lib.hid hpq
        clear hpq ea eb R1 R2
        go_wp2_with fail
        refine (same_no (HP.out.new B5.out) (HQ.out.new B5.out) HPQ.out).mono ?_
        rintro e w6 ⟨rfl, hb6⟩
        have B6 := Lib.hid (B5.out.trans (hb6.mono B5.out.size))
        clear hb6
        go_wp2_with fail
        go_ret
        exact ⟨rfl, B6.out⟩
    · have hy1 : (y == 0) = false := by simpa using hy
      go_wp2_with fail
      refine (laid_any w4 (HT.out.below B4.out)).mono ?_
      rintro e w5 ⟨rfl, hb5⟩
      have B5 := Lib.hid (B4.out.trans (hb5.mono B4.out.size))
      clear hb5
      go_wp2_with fail
      go_ret
      exact ⟨rfl, B5.out⟩
  · have hx1 : (x == 0) = false := by simpa using hx
    go_wp2_with fail
    refine (laid_any w4 (HT.out.below B4.out)).mono ?_
    rintro e w5 ⟨rfl, hb5⟩
    have B5 := Lib.hid (B4.out.trans (hb5.mono B4.out.size))
    clear hb5
    go_wp2_with fail
    go_ret
    exact ⟨rfl, B5.out⟩
end Go.Proofs.YtcfelfhjhkenaaaDoor
