/-
  PLAIN: slices.ContainsFunc over rows.
-/
import Derived.Test.YtgakaghdiodakaaP1
import Derived.Test.YtgakaghdiodakaaM
set_option linter.unusedSimpArgs false
namespace Go.Proofs.Ytgakaghdiodakaa
open Go.E

theorem any_rows {t : List (List Int)} {f : List Int → Option Bool} (g : List Int → Bool) (hf : ∀ r, r ∈ t → f r = some (g r)) (hn : t.length ≤ 1000000) : slices_ContainsFunc_ssint t f = some (t.any g) := by
  unfold slices_ContainsFunc_ssint slices_IndexFunc_ssint
  obtain ⟨z, h1, h2⟩ := any_loop (step := fun s => slices_IndexFunc_ssint_s1 t f s) (xs := t) (f := f) g hn (fun s => rfl) hf
  rw [h1]
  rcases h2 with ⟨rfl, e⟩ | ⟨i, rfl, e⟩
  · rw [e]; rfl
  · rw [e]
    show some (decide (0 ≤ (i : Int))) = _
    rw [decide_eq_true (by omega)]

end Go.Proofs.Ytgakaghdiodakaa
