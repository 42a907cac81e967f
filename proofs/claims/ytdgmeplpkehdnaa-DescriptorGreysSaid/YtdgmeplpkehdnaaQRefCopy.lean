/-
  PLAIN: the document Copy.
-/
import Derived.Test.YtdgmeplpkehdnaaQGrid
import Derived.Test.YtdgmeplpkehdnaaM
import Derived.KernelRfl
set_option linter.unusedSimpArgs false
namespace Go.Proofs.Ytdgmeplpkehdnaa
open Go.E

theorem refcopy_grid {W H : Nat} (hW : W ≤ 64) (hH : H ≤ 64) (w h m : Int) (g : Nat → Nat → Int) : fiducialref13_Copy w h m (grid W H g) = some (w, h, m, grid W H g) := by
  have hm : H * W ≤ 64 * 64 := Nat.mul_le_mul hH hW
  unfold fiducialref13_Copy
  rw [chk_pos (by rw [grid_len]; simp; omega)]
  rfl

end Go.Proofs.Ytdgmeplpkehdnaa
