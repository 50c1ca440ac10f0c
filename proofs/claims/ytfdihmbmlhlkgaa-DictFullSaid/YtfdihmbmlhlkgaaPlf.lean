/- Many ints as keys, in plain words. -/
import Derived.Test.YtfdihmbmlhlkgaaPln
import Derived.Test.YtfdihmbmlhlkgaaShn
namespace Go.Proofs.Ytfdihmbmlhlkgaa

/-- the first m ints, each with 7 -/
def rowsL (m : Nat) : List (V × V) := (List.range m).map fun (j : Nat) => (oneV (j : Int), oneV 7)
theorem rowsL_length (m : Nat) : (rowsL m).length = m := by simp [rowsL]
theorem rowsL_succ (m : Nat) : rowsL (m + 1) = rowsL m ++ [(oneV (m : Int), oneV 7)] := by simp [rowsL, List.range_succ]
theorem oneV_inj {a b : Int} (h : oneV a = oneV b) : a = b := by injection h
theorem rowsL_find_none {m : Nat} {k : V} (h : ∀ j : Nat, j < m → oneV (j : Int) ≠ k) : findL (rowsL m) k = none :=
  findL_append_none fun p hp e => by
    unfold rowsL at hp
    obtain ⟨j, hj, rfl⟩ := List.mem_map.1 hp
    exact h j (List.mem_range.1 hj) e
theorem rowsL_new (m j : Nat) (h : m ≤ j) : findL (rowsL m) (oneV (j : Int)) = none := rowsL_find_none fun i hi e => by have := oneV_inj e; omega
theorem rowsL_yes (m : Nat) : findL (rowsL m) yesV = none := rowsL_find_none fun i _ e => by
  injection e with e
  exact absurd e (by decide)
theorem rowsL_there (m j : Nat) (h : j < m) : (findL (rowsL m) (oneV (j : Int))).isSome = true := by
  cases hf : findL (rowsL m) (oneV (j : Int)) with
  | some _ => rfl
  | none =>
    have h1 := findL_none hf (oneV (j : Int), oneV 7) (List.mem_map.2 ⟨j, List.mem_range.2 h, rfl⟩)
    exact absurd rfl h1
theorem oneV_key (n : Int) : isKey (oneV n) = true := by simp [isKey]
theorem yesV_key : isKey yesV = true := by decide
theorem rowsL_put (m : Nat) (h : m < 4096) : putOk (rowsL m) (oneV (m : Int)) = true ∧ putR (rowsL m) (oneV (m : Int)) (oneV 7) = rowsL (m + 1) := by
  have h1 := rowsL_new m m (Nat.le_refl _)
  have h2 : (rowsL m).length < 4096 := by rw [rowsL_length]; exact h
  exact ⟨by simp [putOk, h1, oneV_key, h2], by simp [putR, h1, oneV_key, h2, rowsL_succ]⟩
theorem rowsL_full (j : Nat) (h : 4096 ≤ j) : putOk (rowsL 4096) (oneV (j : Int)) = false ∧ putR (rowsL 4096) (oneV (j : Int)) (oneV 7) = rowsL 4096 := by
  have h1 := rowsL_new 4096 j h
  have h2 : ¬ (rowsL 4096).length < 4096 := by rw [rowsL_length]; omega
  have h3 : putOk (rowsL 4096) (oneV (j : Int)) = false := by simp [putOk, h1, h2]
  exact ⟨h3, by simp [putR, h1, h2]⟩
/-- what the law does behind the loop -/
structure FullL (m : Nat) (k : V) : Prop where
  again : putOk (rowsL m) k = true
  x : findL (putR (rowsL m) k (oneV 8)) k = some (oneV 8)
  fresh : putOk (putR (rowsL m) k (oneV 8)) yesV = decide (m < 4096)
  len : (putR (putR (rowsL m) k (oneV 8)) yesV (oneV 9)).length = if m < 4096 then m + 1 else m
  gone : (findL (putR (putR (rowsL m) k (oneV 8)) yesV (oneV 9)) k).isSome = true
  last : putOk (delL (putR (putR (rowsL m) k (oneV 8)) yesV (oneV 9)) k) k = true
  count : (putR (delL (putR (putR (rowsL m) k (oneV 8)) yesV (oneV 9)) k) k (oneV 1)).length = if m < 4096 then m + 1 else m
theorem rowsL_keyed (m : Nat) : Keyed (rowsL m) := by
  unfold Keyed rowsL
  rw [List.pairwise_map]
  refine (List.nodup_range).imp fun {a b} hab e => hab ?_
  have := oneV_inj e
  omega
theorem fullL (m j : Nat) (hm : m ≤ 4096) (hj : j < m) : FullL m (oneV (j : Int)) := by
  have h0 := rowsL_there m j hj
  have ho : putOk (rowsL m) (oneV (j : Int)) = true := by simp [putOk, h0]
  have hx := find_put_same (oneV 8) ho
  have hne : yesV ≠ oneV (j : Int) := fun e => by injection e with e; exact absurd e (by decide)
  have hl1 : (putR (rowsL m) (oneV (j : Int)) (oneV 8)).length = m := by rw [put_length _ ho, if_pos h0, rowsL_length]
  have hy : findL (putR (rowsL m) (oneV (j : Int)) (oneV 8)) yesV = none := by rw [find_put_other _ hne]; exact rowsL_yes m
  have hk1 : Keyed (putR (rowsL m) (oneV (j : Int)) (oneV 8)) := (rowsL_keyed m).put _ _
  have hf : putOk (putR (rowsL m) (oneV (j : Int)) (oneV 8)) yesV = decide (m < 4096) := by simp [putOk, hy, yesV_key, hl1]
  obtain ⟨L1, e1⟩ : ∃ L1, putR (rowsL m) (oneV (j : Int)) (oneV 8) = L1 := ⟨_, rfl⟩
  rw [e1] at hx hl1 hy hk1 hf
  have hk2 : Keyed (putR L1 yesV (oneV 9)) := hk1.put _ _
  have hl2 : (putR L1 yesV (oneV 9)).length = if m < 4096 then m + 1 else m := by
    by_cases h : m < 4096
    · rw [if_pos h, put_length _ (by rw [hf]; simpa using h), hy, if_neg (by simp), hl1]
    · rw [if_neg h]
      unfold putR
      rw [hy, hl1]
      simp [h, hl1]
  have hg : findL (putR L1 yesV (oneV 9)) (oneV (j : Int)) = some (oneV 8) := by rw [find_put_other _ (Ne.symm hne)]; exact hx
  obtain ⟨L2, e2⟩ : ∃ L2, putR L1 yesV (oneV 9) = L2 := ⟨_, rfl⟩
  rw [e2] at hk2 hl2 hg
  have hgs : (findL L2 (oneV (j : Int))).isSome = true := by rw [hg]; rfl
  have hl3 := del_length hk2 hgs
  have hd := find_del_same L2 (oneV (j : Int))
  have hl4 : (delL L2 (oneV (j : Int))).length < 4096 := by
    rw [hl2] at hl3
    split at hl3 <;> omega
  have hlast : putOk (delL L2 (oneV (j : Int))) (oneV (j : Int)) = true := by simp [putOk, hd, oneV_key, hl4]
  refine ⟨ho, by rw [e1]; exact hx, by rw [e1]; exact hf, by rw [e1, e2]; exact hl2, by rw [e1, e2]; exact hgs, by rw [e1, e2]; exact hlast, ?_⟩
  rw [e1, e2, put_length _ hlast, hd, if_neg (by simp)]
  omega
end Go.Proofs.Ytfdihmbmlhlkgaa
