/-
  PLAIN, the top: TopSeams.
-/
import Derived.Test.YtbolefkhmfbnlaaPTopb
set_option linter.unusedSimpArgs false
set_option linter.unusedVariables false
namespace Go.Proofs.Ytbolefkhmfbnlaa
open Go.E

theorem crop_row {W H : Nat} {m : Int} {g : Nat → Int} (hW0 : 0 < W) (hW : W ≤ 64) (hH : H ≤ 64) (hg : Good W H m (row (H * W) g)) {a n : Nat} (hn : 0 < n) (ha : a + n ≤ H) : raster_Crop W H m (row (H * W) g) 0 a W n = some ((W : Int), (n : Int), m, row (n * W) (fun j => g (a * W + j)), 0) := by
  have hhas : raster_has W H m (row (H * W) g) 0 a = some true := by
    unfold raster_has
    rw [if_pos (by decide), if_pos (by simp only [decide_eq_true_eq]; omega), if_pos (by simp), decide_eq_true (by omega)]
  unfold raster_Crop
  rw [check_good hg, Option.bind_some, if_neg (by decide), hhas, Option.bind_some, if_neg (by decide), if_neg (by simp; omega), if_neg (by simp; omega), w64_id (z := (W : Int) - 0) (by omega) (by omega), w64_id (z := (H : Int) - (a : Int)) (by omega) (by omega), if_neg (by simp), decide_eq_false (by omega), Option.bind_some, if_neg (by decide), row_grid g]
  rw [made_grid hW (by omega) m (g := fun x y => g ((a + y) * W + x)) (fun x y hx hy => by
    unfold raster_Crop_c1
    rw [w64_id (z := (0 : Int) + (x : Int)) (by omega) (by omega), w64_id (z := (a : Int) + (y : Int)) (by omega) (by omega), at_grid hW hH _ _ _ _ _ x (a + y) hx (by omega) (by omega) (by push_cast; rfl)]
    rfl)]
  show some ((W : Int), (n : Int), m, grid W n _, (0 : Int)) = _
  rw [grid_row, row_congr (g := fun j => g (a * W + j)) fun j hj => by
    have := Nat.div_add_mod j W
    rw [Nat.mul_comm] at this
    show g ((a + j / W) * W + j % W) = g (a * W + j)
    rw [Nat.add_mul, Nat.add_assoc, this]]

theorem good_of {W H : Nat} {m : Int} {g g' : Nat → Int} {n : Nat} (hg : Good W H m (row (H * W) g)) (hn : 0 < n) (hn2 : n ≤ 64) (h : ∀ j, j < n * W → 0 ≤ g' j ∧ g' j ≤ m) : Good W n m (row (n * W) g') := by
  obtain ⟨g1, g2, g3, g4, g5, g6, g7, g8⟩ := hg
  refine ⟨g1, g2, by omega, by omega, g5, g6, ?_, fun v hv => ?_⟩
  · rw [row_len, Nat.mul_comm]; push_cast; rfl
  · obtain ⟨j, hj, rfl⟩ := List.mem_map.1 hv
    exact h j (List.mem_range.1 hj)
theorem good_at {W H : Nat} {m : Int} {g : Nat → Int} (hg : Good W H m (row (H * W) g)) {j : Nat} (hj : j < H * W) : 0 ≤ g j ∧ g j ≤ m := hg.2.2.2.2.2.2.2 _ (List.mem_map.2 ⟨j, List.mem_range.2 hj, rfl⟩)
theorem mir_in {W H : Nat} (hW0 : 0 < W) {j : Nat} (hj : j < H * W) : j / W * W + (W - 1 - j % W) < H * W := by
  have hy : j / W < H := Nat.div_lt_of_lt_mul (by rw [Nat.mul_comm]; exact hj)
  exact cell_in (by omega) hy
end Go.Proofs.Ytbolefkhmfbnlaa
