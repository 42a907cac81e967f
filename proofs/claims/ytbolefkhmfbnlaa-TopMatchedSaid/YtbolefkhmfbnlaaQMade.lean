/-
  PLAIN: raster.made.
-/
import Derived.Test.YtbolefkhmfbnlaaQAt
import Derived.KernelRfl
set_option linter.unusedSimpArgs false
namespace Go.Proofs.Ytbolefkhmfbnlaa
open Go.E

theorem made_grid {W H : Nat} (hW : W ≤ 64) (hH : H ≤ 64) (m : Int) {f : Int → Int → Option Int} {g : Nat → Nat → Int} (hf : ∀ x y : Nat, x < W → y < H → f x y = some (g x y)) :
    raster_made W H m f = some ((W : Int), (H : Int), m, grid W H g) := by
  have hm : H * W ≤ 64 * 64 := Nat.mul_le_mul hH hW
  have e0 : ((W : Int) * (H : Int)) = ((H * W : Nat) : Int) := by rw [Nat.mul_comm]; simp
  have inner : ∀ y : Nat, y < H → ∃ l, loopM FUEL (fun s : List Int × Int => raster_made_s2 (W : Int) f (y : Int) s.1 s.2) (grid W y g, 0) = some l ∧ l = grid W (y + 1) g := by
    intro y hy
    refine loop_inv (fun i s => s = (grid W y g ++ (List.range i).map (fun x => g x y), (i : Int)) ∧ i ≤ W) _ W (by unfold FUEL; omega) _ ⟨by simp, by omega⟩ ?_
    rintro i s ⟨rfl, hi⟩
    unfold raster_made_s2
    by_cases hlt : i < W
    · refine .inl ⟨(grid W y g ++ (List.range (i + 1)).map (fun x => g x y), ((i + 1 : Nat) : Int)), ?_, ⟨rfl, hlt⟩, hlt⟩
      show (if decide ((i : Int) < (W : Int)) = true then _ else _) = _
      rw [if_pos (by simpa using hlt)]
      show (f (i : Int) (y : Int)).bind _ = _
      rw [hf i y hlt hy, Option.bind_some, chk_pos]
      · show some (Step.next (_, w64 ((i : Int) + 1))) = _
        rw [w64_id (by omega) (by omega), List.range_succ]
        simp
      · show (grid W y g ++ (List.range i).map (fun x => g x y)).length + 1 ≤ _
        rw [List.length_append, grid_len]
        have := Nat.mul_le_mul_right W (Nat.le_of_lt hy)
        simp; omega
    · refine .inr ⟨_, by rw [if_neg (by simpa using hlt)], ?_⟩
      obtain rfl : i = W := by omega
      rw [grid_succ]
  have outer : ∃ l, loopM FUEL (fun s : List Int × Int => raster_made_s1 (W : Int) (H : Int) f s.1 s.2) (([] : List Int), 0) = some l ∧ l = grid W H g := by
    refine loop_inv (fun i s => s = (grid W i g, (i : Int)) ∧ i ≤ H) _ H (by unfold FUEL; omega) _ ⟨by simp [grid], by omega⟩ ?_
    rintro i s ⟨rfl, hi⟩
    unfold raster_made_s1
    by_cases hlt : i < H
    · obtain ⟨l, h1, h2⟩ := inner i hlt
      refine .inl ⟨(grid W (i + 1) g, ((i + 1 : Nat) : Int)), ?_, ⟨rfl, hlt⟩, hlt⟩
      show (if decide ((i : Int) < (H : Int)) = true then _ else _) = _
      rw [if_pos (by simpa using hlt)]
      show (loopM FUEL (fun s : List Int × Int => raster_made_s2 (W : Int) f (i : Int) s.1 s.2) (grid W i g, 0)).bind _ = _
      rw [h1, h2]
      show some (Step.next (_, w64 ((i : Int) + 1))) = _
      rw [w64_id (by omega) (by omega)]
      simp
    · refine .inr ⟨_, by rw [if_neg (by simpa using hlt)], ?_⟩
      obtain rfl : i = H := by omega
      rfl
  obtain ⟨l, h1, h2⟩ := outer
  unfold raster_made
  rw [e0, w64_id (by omega) (by omega), chk_pos (by omega), h1, h2]
  rfl

end Go.Proofs.Ytbolefkhmfbnlaa
