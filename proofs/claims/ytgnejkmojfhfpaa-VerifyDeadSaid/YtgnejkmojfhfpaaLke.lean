/- verify.look. -/
import Derived.Test.YtgnejkmojfhfpaaLkb
import Derived.Test.YtgnejkmojfhfpaaLkc
import Derived.Test.YtgnejkmojfhfpaaLkd
namespace Go.Proofs.Ytgnejkmojfhfpaa
open Go.RowKit
set_option linter.unusedVariables false
set_option linter.unusedSimpArgs false

theorem enter36 (args : Array Value) (w : World) : (callFunc 36 args).run Try.prog w = .ok (.enter 36 args) w := by go_simp
theorem enter38 (args : Array Value) (w : World) : (callFunc 38 args).run Try.prog w = .ok (.enter 38 args) w := by go_simp
theorem enter52 (args : Array Value) (w : World) : (callFunc 52 args).run Try.prog w = .ok (.enter 52 args) w := by go_simp
theorem enter53 (args : Array Value) (w : World) : (callFunc 53 args).run Try.prog w = .ok (.enter 53 args) w := by go_simp
theorem codeAt_some {p : ProgD} {a k : Int} {c : CodeD} (h : codeAt p a k = some c) : ∃ i : Nat, a = i ∧ p[i]? = some c := by
  unfold codeAt at h
  split at h
  · cases h
  · split at h
    · cases h
    · rename_i c' hc
      split at h
      · cases h
        exact ⟨a.toNat, by omega, hc⟩
      · cases h
theorem free_most {w : World} {A : Option Addr} {n k : Nat} {p : ProgD} (hp : ProgAt w A n k p) {i : Nat} {c : CodeD} (h : p[i]? = some c) : c.free.length ≤ Most := by
  obtain ⟨b, o, cs, _, _, hca, _⟩ := hp.at_ h
  obtain ⟨A1, n1, c1, A2, n2, c2, A3, n3, c3, A4, n4, c4, A5, n5, c5, A6, n6, c6, _, _, _, r3, _, _, _, _, _, m3, _⟩ := hca.parts
  rw [r3.1]
  exact m3
theorem takes_le {w : World} {A : Option Addr} {n k : Nat} {p : ProgD} (hp : ProgAt w A n k p) {op a : Int} {kd : Kd} {tk : Tk} {lv : Int} (h : effOf op = some (kd, tk, lv)) : tk.takes p a ≤ 281474976710656 := by
  unfold effOf at h
  split at h
  · have h1 := effs_ok _ (List.mem_of_getElem? h)
    cases tk with
    | just n =>
      simp only [tkOk, decide_eq_true_eq] at h1
      simp only [Tk.takes]
      omega
    | each b m =>
      simp only [tkOk, decide_eq_true_eq] at h1
      obtain ⟨_, h2, h3, h4, h5⟩ := h1
      have hm : min a many ≤ 1099511627776 := by unfold many; omega
      have hb : b = 0 ∨ b = 1 ∨ b = 2 := by omega
      simp only [Tk.takes]
      rcases hb with rfl | rfl | rfl <;> omega
    | given =>
      simp only [Tk.takes]
      split
      · rename_i c' hc
        obtain ⟨i, _, hi⟩ := codeAt_some hc
        have := free_most hp hi
        have : min c'.defaults many ≤ 1099511627776 := by unfold many; omega
        unfold Most at *
        omega
      · omega
    | around =>
      simp only [Tk.takes]
      split
      · rename_i c' hc
        obtain ⟨i, _, hi⟩ := codeAt_some hc
        have := free_most hp hi
        unfold Most at *
        omega
      · omega
  · cases h
theorem tkFn_of {w : World} {p : ProgD} {c : CodeD} {us : List Value} (hu : UnitAt w p c us) {op a : Int} {kd : Kd} {tk : Tk} {lv : Int} (h : effOf op = some (kd, tk, lv)) (hm : kd.may p c a = true) {vt : Value} (ht : TkIs w vt tk) :
    ∃ F caps, vt = .func (.func F) #[] caps ∧ TkFn w us a F caps (tk.takes p a) := by
  have hok : tkOk (kd, tk, lv) = true := by
    unfold effOf at h
    split at h
    · exact effs_ok _ (List.mem_of_getElem? h)
    · cases h
  cases tk with
  | just n =>
    obtain ⟨b, rfl, hb⟩ := ht
    exact ⟨36, _, rfl, enter36, fun w' hw => just_takes (hu.new hw) (hb.new' hw) a⟩
  | each n m =>
    obtain ⟨b, g, rfl, hb, hg⟩ := ht
    simp only [tkOk, decide_eq_true_eq] at hok
    obtain ⟨rfl, h2, h3, h4, h5⟩ := hok
    have ha : 0 ≤ a := by simpa [Kd.may] using hm
    exact ⟨38, _, rfl, enter38, fun w' hw => each_takes (hu.new hw) (hb.new' hw) (hg.new' hw) a ha ⟨h2, h3⟩ ⟨h4, h5⟩⟩
  | given =>
    simp only [tkOk, decide_eq_true_eq] at hok
    subst hok
    obtain rfl : vt = _ := ht
    exact ⟨52, #[], rfl, enter52, fun w' hw => given_takes (hu.new hw) a hm⟩
  | around =>
    simp only [tkOk, decide_eq_true_eq] at hok
    subst hok
    obtain rfl : vt = _ := ht
    exact ⟨53, #[], rfl, enter53, fun w' hw => around_takes (hu.new hw) a hm⟩
theorem look_any {w : World} {p : ProgD} {c : CodeD} {us : List Value} {tp : Option Addr} {bl : List (Int × Int)} {vm vt : Value} {op a lv h : Int} {i : Nat} {kd : Kd} {tk : Tk} (hu : UnitAt w p c us)
    (he : effOf op = some (kd, tk, lv)) (hm : kd.may p c a = true) (hkd : KdIs w vm kd) (htk : TkIs w vt tk) (hh : 0 ≤ h ∧ h ≤ 70368744177664) (hi : i ≤ 17592186044416) (hch : ChainAt w tp bl) :
    Calls Try.prog 24 #[.agg us.toArray, .agg #[vm, vt, .int .i64 lv], .agg #[.int .i64 op, .int .i64 a], .int .i64 i, .agg #[.int .i64 h, .pointer tp]] w (LookR w (waysE p (op, a) i ⟨h, bl⟩)) := by
  obtain ⟨F, caps, rfl, hT⟩ := tkFn_of hu he hm htk
  have hT0 := takes_nonneg he hm
  have hT1 : tk.takes p a ≤ 281474976710656 := by
    obtain ⟨A, n, k, cs, _, hp, _⟩ := hu.parts
    exact takes_le hp he
  have hlv := effOf_le he
  have hvm := hkd.func
  rw [show waysE p (op, a) i ⟨h, bl⟩ = lookE (tk.takes p a) lv op a i ⟨h, bl⟩ by simp only [waysE, he]]
  generalize tk.takes p a = T at *
  unfold lookE
  split
  · rename_i hno
    by_cases h1 : h - T < 0
    · exact look_low hu hvm hT ⟨hT0, hT1⟩ hh ⟨hlv.1, hlv.2.1⟩ hi hch h1
    · by_cases h2 : (op = 43 ∨ op = 44 ∨ op = 45) ∧ h ≤ a
      · exact look_deep hu hvm hT ⟨hT0, hT1⟩ hh ⟨hlv.1, hlv.2.1⟩ hi hch h1 h2.1 h2.2
      · by_cases h3 : op = 48 ∧ bl = []
        · exact look_end hu hvm hT ⟨hT0, hT1⟩ hh ⟨hlv.1, hlv.2.1⟩ hi hch h1 h3.1 h3.2
        · have h4 : ∃ b ∈ bl.head?, h - T < b.2 := by
            rcases hno with h | h | h | h
            · exact absurd h h1
            · exact absurd h h2
            · exact absurd h h3
            · exact h
          have hne : bl ≠ [] := by
            rintro rfl
            obtain ⟨b, hb, _⟩ := h4
            cases hb
          exact look_block hu hvm hT ⟨hT0, hT1⟩ hh ⟨hlv.1, hlv.2.1⟩ hi hch h1 h2 hne h4
  · rename_i hok
    have h1 : ¬ h - T < 0 := fun h => hok (.inl h)
    have h2 : ¬ ((op = 43 ∨ op = 44 ∨ op = 45) ∧ h ≤ a) := fun h => hok (.inr (.inl h))
    have h3 : ¬ (op = 48 ∧ bl = []) := fun h => hok (.inr (.inr (.inl h)))
    have h4 : ∀ b ∈ bl.head?, ¬ h - T < b.2 := fun b hb h => hok (.inr (.inr (.inr ⟨b, hb, h⟩)))
    clear hok
    split
    · rename_i ho; exact look_jump hu hvm hT ⟨hT0, hT1⟩ hh ⟨hlv.1, hlv.2.1⟩ hi hch h1 h4 ho
    split
    · rename_i ho; exact look_stop hu hvm hT ⟨hT0, hT1⟩ hh ⟨hlv.1, hlv.2.1⟩ hi hch h1 h4 ho
    split
    · rename_i ho; exact look_both hu hvm hT ⟨hT0, hT1⟩ hh ⟨hlv.1, hlv.2.1⟩ hi hch h1 h4 ho
    split
    · rename_i ho; exact look_keep hu hvm hT ⟨hT0, hT1⟩ hh ⟨hlv.1, hlv.2.1⟩ hi hch h1 h4 ho
    split
    · rename_i ho; exact look_next hu hvm hT ⟨hT0, hT1⟩ hh ⟨hlv.1, hlv.2.1⟩ hi hch h1 h4 ho
    split
    · rename_i ho; exact look_try hu hvm hT ⟨hT0, hT1⟩ hh ⟨hlv.1, hlv.2.1⟩ hi hch h1 h4 ho
    split
    · rename_i ho; exact look_endtry hu hvm hT ⟨hT0, hT1⟩ hh ⟨hlv.1, hlv.2.1⟩ hi hch h1 h4 ho (fun e => h3 ⟨ho, e⟩)
    · by_cases hd : op = 43 ∨ op = 44 ∨ op = 45
      · exact look_deepok hu hvm hT ⟨hT0, hT1⟩ hh ⟨hlv.1, hlv.2.1⟩ hi hch h1 h4 hd (fun e => h2 ⟨hd, e⟩)
      · exact look_other hu hvm hT ⟨hT0, hT1⟩ hh ⟨hlv.1, hlv.2.1⟩ hi hch h1 h4 (by omega)
end Go.Proofs.Ytgnejkmojfhfpaa
