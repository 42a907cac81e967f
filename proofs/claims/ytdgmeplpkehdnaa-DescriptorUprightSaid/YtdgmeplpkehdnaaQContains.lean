/-
  PLAIN: whether a number is in a list.
-/
import Derived.Test.YtdgmeplpkehdnaaQIndex
set_option linter.unusedSimpArgs false
namespace Go.Proofs.Ytdgmeplpkehdnaa
open Go.E

theorem contains_eq (xs : List Int) (v : Int) (hn : xs.length ≤ 1000000) : slices_Contains_sint xs v = some (decide (v ∈ xs)) := by
  unfold slices_Contains_sint
  rcases index_spec xs v hn with ⟨i, h1, h2, _, h4⟩ | ⟨h1, h2⟩
  · rw [h4, decide_eq_true (List.mem_of_getElem? h2)]
    simp
  · rw [h2, decide_eq_false h1]
    rfl

end Go.Proofs.Ytdgmeplpkehdnaa
