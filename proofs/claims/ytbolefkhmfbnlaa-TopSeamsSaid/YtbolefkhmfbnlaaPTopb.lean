/-
  PLAIN, the top: pixels as a row of numbers and as a grid; mirrored, cropped.
-/
import Derived.Test.YtbolefkhmfbnlaaPTopa
import Derived.Test.YtbolefkhmfbnlaaQMade
set_option linter.unusedSimpArgs false
set_option linter.unusedVariables false
namespace Go.Proofs.Ytbolefkhmfbnlaa
open Go.E

theorem divmodW {W j i : Nat} (hi : i < W) : (j * W + i) / W = j ∧ (j * W + i) % W = i := by
  rw [Nat.add_comm, Nat.add_mul_div_right _ _ (by omega), Nat.add_mul_mod_self_right, Nat.div_eq_of_lt hi, Nat.mod_eq_of_lt hi]
  omega
theorem grid_row {W H : Nat} (F : Nat → Nat → Int) : grid W H F = row (H * W) (fun j => F (j % W) (j / W)) := by
  symm
  refine grid_ext (row_len _ _) fun x y hx hy => ?_
  rw [row_get _ _ (cell_in hx hy)]
  obtain ⟨h1, h2⟩ := divmodW (j := y) hx
  rw [h1, h2]
theorem row_grid {W H : Nat} (g : Nat → Int) : row (H * W) g = grid W H (fun x y => g (y * W + x)) := by
  refine grid_ext (row_len _ _) fun x y hx hy => row_get _ _ (cell_in hx hy)

/-- The pixels of a row of pixels, mirrored. -/
def mir (g : Nat → Int) (W : Nat) : Nat → Int := fun j => g (j / W * W + (W - 1 - j % W))

theorem mirror_row {W H : Nat} {m : Int} {g : Nat → Int} (hW : W ≤ 64) (hH : H ≤ 64) (hg : Good W H m (row (H * W) g)) : raster_Mirror W H m (row (H * W) g) = some ((W : Int), (H : Int), m, row (H * W) (mir g W), 0) := by
  unfold raster_Mirror
  rw [check_good hg, Option.bind_some, if_neg (by decide), row_grid g]
  rw [made_grid hW hH m (g := fun x y => g (y * W + (W - 1 - x))) (fun x y hx hy => by
    unfold raster_Mirror_c1
    rw [w64_id (z := (W : Int) - 1) (by omega) (by omega), w64_id (by omega) (by omega), at_grid hW hH _ _ _ _ _ (W - 1 - x) y (by omega) hy (by omega) rfl]
    rfl)]
  show some ((W : Int), (H : Int), m, grid W H _, (0 : Int)) = _
  rw [grid_row]
  rfl
end Go.Proofs.Ytbolefkhmfbnlaa
