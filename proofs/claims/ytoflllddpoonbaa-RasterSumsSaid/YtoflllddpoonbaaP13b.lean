/-
  PLAIN, chapter 13: rows of pixels as functions of two numbers.
-/
import Derived.Test.YtoflllddpoonbaaP13a
import Derived.KernelRfl
namespace Go.Proofs.Ytoflllddpoonbaa
open Go.E

def grid (W H : Nat) (g : Nat → Nat → Int) : List Int := (List.range H).flatMap fun y => (List.range W).map fun x => g x y

theorem grid_succ (W H : Nat) (g : Nat → Nat → Int) : grid W (H + 1) g = grid W H g ++ (List.range W).map fun x => g x H := by
  unfold grid
  rw [List.range_succ, List.flatMap_append]
  simp

theorem grid_len (W : Nat) (g : Nat → Nat → Int) : ∀ H : Nat, (grid W H g).length = H * W
  | 0 => by simp [grid]
  | H + 1 => by rw [grid_succ, List.length_append, grid_len W g H, Nat.add_mul]; simp

theorem grid_get (W : Nat) (g : Nat → Nat → Int) : ∀ (H x y : Nat), x < W → y < H → (grid W H g)[y * W + x]? = some (g x y)
  | 0, x, y, _, hy => by omega
  | H + 1, x, y, hx, hy => by
    rw [grid_succ]
    by_cases h : y < H
    · have hlt : y * W + x < H * W := by
        have : (y + 1) * W ≤ H * W := Nat.mul_le_mul_right W h
        rw [Nat.add_mul] at this
        omega
      rw [List.getElem?_append_left (by rw [grid_len]; exact hlt)]
      exact grid_get W g H x y hx h
    · obtain rfl : y = H := by omega
      rw [List.getElem?_append_right (by rw [grid_len]; omega), grid_len]
      simp [hx]

theorem grid_ext {W H : Nat} {g : Nat → Nat → Int} {l : List Int} (hl : l.length = H * W) (h : ∀ x y, x < W → y < H → l[y * W + x]? = some (g x y)) : l = grid W H g := by
  apply List.ext_getElem?
  intro i
  by_cases hi : i < H * W
  · have hW : 0 < W := by
      rcases Nat.eq_zero_or_pos W with h0 | h0
      · subst h0; simp at hi
      · exact h0
    have e : i / W * W + i % W = i := by rw [Nat.mul_comm]; exact Nat.div_add_mod i W
    have h1 : i % W < W := Nat.mod_lt _ hW
    have h2 : i / W < H := Nat.div_lt_of_lt_mul (by rw [Nat.mul_comm]; exact hi)
    have a := h (i % W) (i / W) h1 h2
    have b := grid_get W g H (i % W) (i / W) h1 h2
    rw [e] at a b
    rw [a, b]
  · rw [List.getElem?_eq_none (by omega), List.getElem?_eq_none (by rw [grid_len]; omega)]

theorem grid_congr {W H : Nat} {g g' : Nat → Nat → Int} (h : ∀ x y, x < W → y < H → g x y = g' x y) : grid W H g = grid W H g' :=
  grid_ext (grid_len W g H) (fun x y hx hy => by rw [grid_get W g H x y hx hy, h x y hx hy])

theorem grid_of (W H : Nat) (l : List Int) (hl : l.length = H * W) : l = grid W H (fun x y => l.getD (y * W + x) 0) :=
  grid_ext hl (fun x y hx hy => by
    have hlt : y * W + x < l.length := by
      have : (y + 1) * W ≤ H * W := Nat.mul_le_mul_right W hy
      rw [Nat.add_mul] at this
      omega
    simp [hlt])

theorem cell_inj {W x y x' y' : Nat} (hx : x < W) (hx' : x' < W) (h : y' * W + x' = y * W + x) : x' = x ∧ y' = y := by
  have h1 : (y' * W + x') % W = (y * W + x) % W := by rw [h]
  rw [Nat.mul_comm y', Nat.mul_comm y, Nat.mul_add_mod, Nat.mul_add_mod, Nat.mod_eq_of_lt hx, Nat.mod_eq_of_lt hx'] at h1
  subst h1
  refine ⟨rfl, ?_⟩
  have h2 : y' * W = y * W := by omega
  exact Nat.eq_of_mul_eq_mul_right (by omega) h2

theorem grid_set {W H : Nat} (g : Nat → Nat → Int) {x y : Nat} (hx : x < W) (hy : y < H) (v : Int) : (grid W H g).set (y * W + x) v = grid W H (fun x' y' => if x' = x ∧ y' = y then v else g x' y') := by
  apply grid_ext
  · rw [List.length_set, grid_len]
  · intro x' y' hx' hy'
    by_cases h : x' = x ∧ y' = y
    · obtain ⟨rfl, rfl⟩ := h
      have hlt : y' * W + x' < (grid W H g).length := by
        rw [grid_len]
        have : (y' + 1) * W ≤ H * W := Nat.mul_le_mul_right W hy
        rw [Nat.add_mul] at this
        omega
      rw [List.getElem?_set_self hlt]; simp
    · rw [List.getElem?_set_ne (fun he => h (cell_inj hx hx' he.symm)), grid_get W g H x' y' hx' hy', if_neg h]

theorem grid_mem {W H : Nat} {g : Nat → Nat → Int} {v : Int} (h : v ∈ grid W H g) : ∃ x y, x < W ∧ y < H ∧ v = g x y := by
  unfold grid at h
  obtain ⟨y, hy, h⟩ := List.mem_flatMap.1 h
  obtain ⟨x, hx, rfl⟩ := List.mem_map.1 h
  exact ⟨x, y, List.mem_range.1 hx, List.mem_range.1 hy, rfl⟩

theorem cell_lt {W H x y : Nat} (hx : x < W) (hy : y < H) : y * W + x < H * W := by
  have : (y + 1) * W ≤ H * W := Nat.mul_le_mul_right W hy
  rw [Nat.add_mul] at this
  omega

theorem at_grid {W H : Nat} (hW : W ≤ 64) (hH : H ≤ 64) (g : Nat → Nat → Int) (h m x y : Int) (X Y : Nat) (hx : X < W) (hy : Y < H) (ex : x = X) (ey : y = Y) : raster_at W h m (grid W H g) x y = some (g X Y) := by
  subst ex; subst ey
  have h1 := cell_lt hx hy
  have h2 : H * W ≤ 64 * 64 := Nat.mul_le_mul hH hW
  have e0 : ((Y : Int) * (W : Int)) = ((Y * W : Nat) : Int) := by simp
  unfold raster_at
  have e1 : w64 (((Y * W : Nat) : Int)) = ((Y * W : Nat) : Int) := w64_id (by omega) (by omega)
  rw [e0, e1, w64_id (by omega) (by omega)]
  rw [ix_get (i := Y * W + X) (by omega) (grid_get W g H X Y hx hy)]
  rfl

theorem refat_grid {W H : Nat} (hW : W ≤ 64) (hH : H ≤ 64) (g : Nat → Nat → Int) (h m x y : Int) (X Y : Nat) (hx : X < W) (hy : Y < H) (ex : x = X) (ey : y = Y) : fiducialref13_At W h m (grid W H g) x y = some (g X Y) := by
  have := at_grid hW hH g h m x y X Y hx hy ex ey
  exact this

theorem made_grid {W H : Nat} (hW : W ≤ 64) (hH : H ≤ 64) (m : Int) {f : Int → Int → Option Int} {g : Nat → Nat → Int} (hf : ∀ x y : Nat, x < W → y < H → f x y = some (g x y)) :
    raster_made W H m f = some ((W : Int), (H : Int), m, grid W H g) := by
  have hm : H * W ≤ 64 * 64 := Nat.mul_le_mul hH hW
  have e0 : ((W : Int) * (H : Int)) = ((H * W : Nat) : Int) := by rw [Nat.mul_comm]; simp
  have inner : ∀ y : Nat, y < H → ∃ l, loopM FUEL (fun s : List Int × Int => raster_made_s2 (W : Int) f (y : Int) s.1 s.2) (grid W y g, 0) = some l ∧ l = grid W (y + 1) g := by
    intro y hy
    refine loop_inv (fun i s => s = (grid W y g ++ (List.range i).map (fun x => g x y), (i : Int)) ∧ i ≤ W) _ W (by unfold FUEL; omega) _ ⟨by simp, by omega⟩ ?_
    rintro i s ⟨rfl, hi⟩
    unfold raster_made_s2
    by_cases hlt : i < W
    · refine .inl ⟨(grid W y g ++ (List.range (i + 1)).map (fun x => g x y), ((i + 1 : Nat) : Int)), ?_, ⟨rfl, hlt⟩, hlt⟩
      show (if decide ((i : Int) < (W : Int)) = true then _ else _) = _
      rw [if_pos (by simpa using hlt)]
      show (f (i : Int) (y : Int)).bind _ = _
      rw [hf i y hlt hy, Option.bind_some, chk_pos]
      · show some (Step.next (_, w64 ((i : Int) + 1))) = _
        rw [w64_id (by omega) (by omega), List.range_succ]
        simp
      · show (grid W y g ++ (List.range i).map (fun x => g x y)).length + 1 ≤ _
        rw [List.length_append, grid_len]
        have := Nat.mul_le_mul_right W (Nat.le_of_lt hy)
        simp; omega
    · refine .inr ⟨_, by rw [if_neg (by simpa using hlt)], ?_⟩
      obtain rfl : i = W := by omega
      rw [grid_succ]
  have outer : ∃ l, loopM FUEL (fun s : List Int × Int => raster_made_s1 (W : Int) (H : Int) f s.1 s.2) (([] : List Int), 0) = some l ∧ l = grid W H g := by
    refine loop_inv (fun i s => s = (grid W i g, (i : Int)) ∧ i ≤ H) _ H (by unfold FUEL; omega) _ ⟨by simp [grid], by omega⟩ ?_
    rintro i s ⟨rfl, hi⟩
    unfold raster_made_s1
    by_cases hlt : i < H
    · obtain ⟨l, h1, h2⟩ := inner i hlt
      refine .inl ⟨(grid W (i + 1) g, ((i + 1 : Nat) : Int)), ?_, ⟨rfl, hlt⟩, hlt⟩
      show (if decide ((i : Int) < (H : Int)) = true then _ else _) = _
      rw [if_pos (by simpa using hlt)]
      show (loopM FUEL (fun s : List Int × Int => raster_made_s2 (W : Int) f (i : Int) s.1 s.2) (grid W i g, 0)).bind _ = _
      rw [h1, h2]
      show some (Step.next (_, w64 ((i : Int) + 1))) = _
      rw [w64_id (by omega) (by omega)]
      simp
    · refine .inr ⟨_, by rw [if_neg (by simpa using hlt)], ?_⟩
      obtain rfl : i = H := by omega
      rfl
  obtain ⟨l, h1, h2⟩ := outer
  unfold raster_made
  rw [e0, w64_id (by omega) (by omega), chk_pos (by omega), h1, h2]
  rfl

theorem known_ok : fiduciallaw13_known = some true := by kernel_rfl

end Go.Proofs.Ytoflllddpoonbaa
