/-
  PLAIN, chapter 13: pixels and maps.
-/
import Derived.Test.YtoflllddpoonbaaP13c
set_option linter.unusedSimpArgs false
namespace Go.Proofs.Ytoflllddpoonbaa
open Go.E

theorem has_eq (w h m : Int) (px : List Int) (x y : Int) : raster_has w h m px x y = some (decide (0 ≤ x ∧ x < w ∧ 0 ≤ y ∧ y < h)) := by
  unfold raster_has
  by_cases h1 : 0 ≤ x <;> by_cases h2 : x < w <;> by_cases h3 : 0 ≤ y <;> by_cases h4 : y < h <;> simp [h1, h2, h3, h4]
theorem inside_eq (w h m : Int) (px : List Int) (x y : Int) : fiducialref13_Inside w h m px x y = some (decide (0 ≤ x ∧ x < w ∧ 0 ≤ y ∧ y < h)) := has_eq w h m px x y

theorem empty_ok : fiduciallaw13_empty 0 0 0 [] = some true := by kernel_rfl

theorem grid_le {W H : Nat} (hW : W ≤ 64) (hH : H ≤ 64) (g : Nat → Nat → Int) : (grid W H g).length ≤ 1000000 := by
  rw [grid_len]
  have := Nat.mul_le_mul hH hW
  omega

theorem pixels_true (w h m : Int) (px : List Int) (x y v : Int) : fiduciallaw13_RasterPixels w h m px x y v = some true := by
  unfold fiduciallaw13_RasterPixels
  rw [known_ok, Option.bind_some]
  simp only [Bool.not_true, Bool.false_eq_true, if_false]
  rw [few_one, Option.bind_some]
  by_cases hb : 600 < (px.length : Int)
  · simp [hb]
  simp only [hb, decide_false, Bool.not_false, Bool.not_true, Bool.false_eq_true, if_false]
  by_cases hg : Good w h m px
  · obtain ⟨W, H, g, rfl, rfl, rfl, bd⟩ := hg.grid
    have hWH := bd
    obtain ⟨b1, b2, b3, b4, b5, b6, _⟩ := hWH
    have ck := check_good hg
    unfold raster_At raster_Set
    rw [ck, refcheck_good hg, has_eq]
    by_cases hin : 0 ≤ x ∧ x < (W : Int) ∧ 0 ≤ y ∧ y < (H : Int)
    · obtain ⟨X, rfl⟩ : ∃ X : Nat, x = X := ⟨x.toNat, by omega⟩
      obtain ⟨Y, rfl⟩ : ∃ Y : Nat, y = Y := ⟨y.toNat, by omega⟩
      have hX : X < W := by omega
      have hY : Y < H := by omega
      have hlt := cell_lt hX hY
      have hm : H * W ≤ 64 * 64 := Nat.mul_le_mul b4 b2
      have e0 : ((Y : Int) * (W : Int)) = ((Y * W : Nat) : Int) := by simp
      have e1 : w64 ((Y : Int) * (W : Int)) = ((Y * W : Nat) : Int) := by rw [e0]; exact w64_id (by omega) (by omega)
      have e2 : w64 (w64 ((Y : Int) * (W : Int)) + (X : Int)) = ((Y * W + X : Nat) : Int) := by rw [e1]; rw [w64_id (by omega) (by omega)]; simp
      have cl : slices_Clone_sint (grid W H g) = some (grid W H g) := by
        unfold slices_Clone_sint
        rw [chk_pos (by rw [grid_len]; simp; omega)]; rfl
      have hat := at_grid b2 b4 g H m (X : Int) (Y : Int) X Y hX hY rfl rfl
      have hrat := refat_grid b2 b4 g H m (X : Int) (Y : Int) X Y hX hY rfl rfl
      have hck : ∀ k : Option (Int × Int × Int × List Int × Int), chk (0 ≤ ((Y * W + X : Nat) : Int) ∧ ((Y * W + X : Nat) : Int) < ((grid W H g).length : Int)) k = k := fun k => chk_pos (by rw [grid_len]; omega)
      have hck2 : ∀ k : Option (Int × Int × Int × List Int), chk (0 ≤ ((Y * W + X : Nat) : Int) ∧ ((Y * W + X : Nat) : Int) < ((grid W H g).length : Int)) k = k := fun k => chk_pos (by rw [grid_len]; omega)
      have hset : fiducialref13_Set (W : Int) H m (grid W H g) X Y v = some ((W : Int), (H : Int), m, (grid W H g).set (Y * W + X) v) := by
        unfold fiducialref13_Set
        rw [refcopy_grid b2 b4]
        simp only [Option.bind_some]
        rw [e2, hck2, Int.toNat_natCast]
      simp only [Option.bind_some, hin, inside_eq, decide_true, hat, hrat, cl, e2, hck, Int.toNat_natCast]
      by_cases hv : v < 0
      · simp [hv, empty_ok]
      by_cases hv2 : m < v
      · simp [hv, hv2, empty_ok]
      have hl : ((grid W H g).set (Y * W + X) v).length ≤ 1000000 := by rw [List.length_set]; exact grid_le b2 b4 g
      have eqs := refeq_same (W : Int) (H : Int) m _ hl
      simp [hv, hv2, hset, eqs, hck]
    · simp only [Option.bind_some, inside_eq, hin, decide_false]
      simp [empty_ok]
  · unfold raster_At raster_Set
    rw [check_bad hg, refcheck_bad hg]
    simp [empty_ok]

end Go.Proofs.Ytoflllddpoonbaa
