/-
  PLAIN: raster.at.
-/
import Derived.Test.YtbolefkhmfbnlaaQGrid
import Derived.Test.YtbolefkhmfbnlaaM
import Derived.KernelRfl
set_option linter.unusedSimpArgs false
namespace Go.Proofs.Ytbolefkhmfbnlaa
open Go.E

theorem at_grid {W H : Nat} (hW : W ≤ 64) (hH : H ≤ 64) (g : Nat → Nat → Int) (h m x y : Int) (X Y : Nat) (hx : X < W) (hy : Y < H) (ex : x = X) (ey : y = Y) : raster_at W h m (grid W H g) x y = some (g X Y) := by
  subst ex; subst ey
  have h1 := cell_lt hx hy
  have h2 : H * W ≤ 64 * 64 := Nat.mul_le_mul hH hW
  have e0 : ((Y : Int) * (W : Int)) = ((Y * W : Nat) : Int) := by simp
  unfold raster_at
  have e1 : w64 (((Y * W : Nat) : Int)) = ((Y * W : Nat) : Int) := w64_id (by omega) (by omega)
  rw [e0, e1, w64_id (by omega) (by omega)]
  rw [ix_get (i := Y * W + X) (by omega) (grid_get W g H X Y hx hy)]
  rfl

end Go.Proofs.Ytbolefkhmfbnlaa
