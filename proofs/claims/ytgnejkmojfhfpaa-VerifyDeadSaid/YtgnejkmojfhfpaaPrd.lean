/- Program: what it is to answer. -/
import Derived.Test.YtgnejkmojfhfpaaPrg
namespace Go.Proofs.Ytgnejkmojfhfpaa
open Go.RowKit
set_option linter.unusedVariables false
set_option linter.unusedSimpArgs false

/-- it answers three numbers, and leaves all as it was -/
def PrR (w : World) (r : Int × Int × Int) (e : Ending) (w' : World) : Prop := Below w.heap.size w w' ∧ e = .returned (.tuple #[.int .i64 r.1, .int .i64 r.2.1, .int .i64 r.2.2])
theorem progs_at {p : ProgD} {j : Nat} {y : CodeD} (h : p[j]? = some y) : progsE p (p.drop j) j = if (heightsC p y).2.1 = 0 then progsE p (p.drop (j + 1)) (j + 1) else ((heightsC p y).2.1, j, (heightsC p y).2.2) := by
  rw [List.drop_eq_getElem?_toList_append, h]
  rfl
end Go.Proofs.Ytgnejkmojfhfpaa
