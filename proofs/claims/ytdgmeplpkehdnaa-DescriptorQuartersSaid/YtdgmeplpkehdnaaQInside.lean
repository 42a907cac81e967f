/-
  PLAIN: the document Inside.
-/
import Derived.Test.YtdgmeplpkehdnaaP1
import Derived.Test.YtdgmeplpkehdnaaM
import Derived.KernelRfl
set_option linter.unusedSimpArgs false
namespace Go.Proofs.Ytdgmeplpkehdnaa
open Go.E

theorem inside_eq (w h m : Int) (px : List Int) (x y : Int) : fiducialref13_Inside w h m px x y = some (decide (0 ≤ x ∧ x < w ∧ 0 ≤ y ∧ y < h)) := by
  unfold fiducialref13_Inside
  by_cases h1 : 0 ≤ x <;> by_cases h2 : x < w <;> by_cases h3 : 0 ≤ y <;> by_cases h4 : y < h <;> simp [h1, h2, h3, h4]

end Go.Proofs.Ytdgmeplpkehdnaa
