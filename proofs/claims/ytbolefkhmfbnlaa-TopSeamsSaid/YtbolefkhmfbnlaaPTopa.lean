/-
  PLAIN, the top: two rasters that fit; the mosaic of columns in their range.
-/
import Derived.Test.YtbolefkhmfbnlaaPSeam
set_option linter.unusedSimpArgs false
set_option linter.unusedVariables false
namespace Go.Proofs.Ytbolefkhmfbnlaa
open Go.E

theorem matched_ok {w h m : Int} {px px' : List Int} (g1 : Good w h m px) (g2 : Good w h m px') : seam_matched w h m px w h m px' = some 0 := by
  have i0 : ix ([(w, h, m, px), (w, h, m, px')] : List (Int × Int × Int × List Int)) (0 : Int) = some (w, h, m, px) := ix_get (i := 0) rfl rfl
  have i1 : ix ([(w, h, m, px), (w, h, m, px')] : List (Int × Int × Int × List Int)) (1 : Int) = some (w, h, m, px') := ix_get (i := 1) rfl rfl
  have hl : loopM FUEL (fun s : Int => seam_matched_s1 w h m px w h m px' s) 0 = some (.inr ()) := by
    refine loop_go (fun i => (i : Int)) 2 (by unfold FUEL; omega) rfl (fun i hi => ?_) ?_
    · unfold seam_matched_s1
      obtain rfl | rfl : i = 0 ∨ i = 1 := by omega
      · show (if decide ((0 : Int) < 2) = true then (ix _ (0 : Int)).bind _ else _) = _
        rw [if_pos (by decide), i0, Option.bind_some]
        show ((raster_Check w h m px).bind _) = _
        rw [check_good g1, Option.bind_some, if_neg (by decide)]
        rfl
      · show (if decide ((1 : Int) < 2) = true then (ix _ (1 : Int)).bind _ else _) = _
        rw [if_pos (by decide), i1, Option.bind_some]
        show ((raster_Check w h m px').bind _) = _
        rw [check_good g2, Option.bind_some, if_neg (by decide)]
        rfl
    · unfold seam_matched_s1
      rfl
  unfold seam_matched
  rw [hl]
  simp

theorem matched_no {w h m w' h' m' : Int} {px px' : List Int} (g1 : Good w h m px) (g2 : Good w' h' m' px') (hne : ¬ (w = w' ∧ h = h' ∧ m = m')) : seam_matched w h m px w' h' m' px' = some 4 := by
  have i0 : ix ([(w, h, m, px), (w', h', m', px')] : List (Int × Int × Int × List Int)) (0 : Int) = some (w, h, m, px) := ix_get (i := 0) rfl rfl
  have i1 : ix ([(w, h, m, px), (w', h', m', px')] : List (Int × Int × Int × List Int)) (1 : Int) = some (w', h', m', px') := ix_get (i := 1) rfl rfl
  have hl : loopM FUEL (fun s : Int => seam_matched_s1 w h m px w' h' m' px' s) 0 = some (.inr ()) := by
    refine loop_go (fun i => (i : Int)) 2 (by unfold FUEL; omega) rfl (fun i hi => ?_) ?_
    · unfold seam_matched_s1
      obtain rfl | rfl : i = 0 ∨ i = 1 := by omega
      · show (if decide ((0 : Int) < 2) = true then (ix _ (0 : Int)).bind _ else _) = _
        rw [if_pos (by decide), i0, Option.bind_some]
        show ((raster_Check w h m px).bind _) = _
        rw [check_good g1, Option.bind_some, if_neg (by decide)]
        rfl
      · show (if decide ((1 : Int) < 2) = true then (ix _ (1 : Int)).bind _ else _) = _
        rw [if_pos (by decide), i1, Option.bind_some]
        show ((raster_Check w' h' m' px').bind _) = _
        rw [check_good g2, Option.bind_some, if_neg (by decide)]
        rfl
    · unfold seam_matched_s1
      rfl
  unfold seam_matched
  rw [hl]
  simp only [Option.bind_some]
  have e2 : (if (w != w') = true then some true else if (h != h') = true then some true else some (m != m')) = some true := by
    by_cases q1 : w = w'
    · rw [if_neg (by simp [q1])]
      by_cases q2 : h = h'
      · rw [if_neg (by simp [q2])]
        have : m ≠ m' := fun q3 => hne ⟨q1, q2, q3⟩
        simp [this]
      · rw [if_pos (by simp [q2])]
    · rw [if_pos (by simp [q1])]
  rw [e2]
  rfl

theorem mosaic_ok {W H : Nat} (hW0 : 0 < W) (hW : W ≤ 64) (hH : H ≤ 64) {m : Int} {ga gb : Nat → Int} {l : List Int} (hm : seam_matched W H m (row (H * W) ga) W H m (row (H * W) gb) = some 0) (hl : l.length = H) (hc : ∀ y, y < H → 0 ≤ cg l y ∧ cg l y ≤ W) :
    seam_Mosaic W H m (row (H * W) ga) W H m (row (H * W) gb) l = some ((W : Int), (H : Int), m, row (H * W) (mosF ga gb l W), 0) := by
  have hN : H * W ≤ 64 * 64 := Nat.mul_le_mul hH hW
  unfold seam_Mosaic
  have hcl : slices_ContainsFunc_sint l (fun z => seam_Mosaic_c1 z W H m (row (H * W) ga)) = some (l.any fun z => decide (z < 0) || decide ((W : Int) < z)) := any_int (fun z => mc_eq z _ _ _ _) (by omega)
  have hany : (l.any fun z => decide (z < 0) || decide ((W : Int) < z)) = false := by
    rw [List.any_eq_false]
    intro v hv
    obtain ⟨i, hi⟩ := List.getElem?_of_mem hv
    obtain ⟨hi1, rfl⟩ := List.getElem?_eq_some_iff.1 hi
    have := hc i (by omega)
    unfold cg at this
    rw [getD_eq hi1] at this
    simp only [Bool.or_eq_true, decide_eq_true_eq]
    omega
  rw [hm, hcl, hany]
  simp only [Option.bind_some]
  rw [if_neg (by decide)]
  have e2 : (if ((l.length : Int) != (H : Int)) = true then some true else some false) = some false := by rw [if_neg (by simp [hl])]
  rw [e2, clone_eq _ (by rw [row_len]; omega)]
  simp only [Option.bind_some]
  rw [if_neg (by decide), mosaic_loop hW0 hW hH ga gb hl hc]
  rfl

/-- A stretch of a seam is a seam of these rows. -/
theorem part_seam {W H a n : Nat} {r : Nat → Nat} (h : IsSeam W H r) (hn : a + n ≤ H) : IsSeam W n (fun y => r (a + y)) :=
  ⟨fun y hy => h.1 (a + y) (by omega), fun y hy => h.2 (a + y) (by omega)⟩
end Go.Proofs.Ytbolefkhmfbnlaa
