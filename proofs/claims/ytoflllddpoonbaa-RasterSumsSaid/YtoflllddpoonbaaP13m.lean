/-
  PLAIN, chapter 13: the law of sums.
-/
import Derived.Test.YtoflllddpoonbaaP13l
set_option linter.unusedSimpArgs false
namespace Go.Proofs.Ytoflllddpoonbaa
open Go.E

theorem sums_loop2 {W H : Nat} {m : Int} {g : Nat → Nat → Int} (bd : Bd W H m g) (y : Nat) (hy : y ≤ H) : loopM FUEL (fun s => fiduciallaw13_RasterSums_s2 W H m (grid W H g) (y : Int) (rowS g W y) s) 0 = some (.inr ()) := by
  have b2 := bd.2.1
  have key : ∃ x, loopM FUEL (fun s => fiduciallaw13_RasterSums_s2 W H m (grid W H g) (y : Int) (rowS g W y) s) 0 = some x ∧ x = .inr () := by
    refine loop_inv (fun i s => s = (i : Int) ∧ i ≤ W + 1) _ (W + 1) (by unfold FUEL; omega) 0 ⟨rfl, by omega⟩ ?_
    rintro i s ⟨rfl, hi⟩
    unfold fiduciallaw13_RasterSums_s2
    by_cases hlt : i < W + 1
    · refine .inl ⟨((i + 1 : Nat) : Int), ?_, ⟨rfl, hlt⟩, hlt⟩
      have hs := refsum_good bd 0 0 i y (by omega) (by omega)
      rw [Rc_zero] at hs
      rw [if_pos (by rw [decide_eq_true_iff, rowS_len]; omega), ix_get rfl (rowS_get g W y (by omega)), Option.bind_some]
      show (fiducialref13_Sum W H m (grid W H g) ((0 : Nat) : Int) ((0 : Nat) : Int) (i : Int) (y : Int)).bind _ = _
      rw [hs, Option.bind_some, if_neg (by simp), w64_id (by omega) (by omega)]
      simp
    · exact .inr ⟨_, by rw [if_neg (by rw [decide_eq_true_iff, rowS_len]; omega)], rfl⟩
  obtain ⟨x, hx, rfl⟩ := key
  exact hx

theorem sums_loop1 {W H : Nat} {m : Int} {g : Nat → Nat → Int} (bd : Bd W H m g) : loopM FUEL (fun s => fiduciallaw13_RasterSums_s1 W H m (grid W H g) (tabS g W H) s) 0 = some (.inr ()) := by
  have b2 := bd.2.1
  have b4 := bd.2.2.2.1
  have eW : w64 ((W : Int) + 1) = (W : Int) + 1 := w64_id (by omega) (by omega)
  have key : ∃ x, loopM FUEL (fun s => fiduciallaw13_RasterSums_s1 W H m (grid W H g) (tabS g W H) s) 0 = some x ∧ x = .inr () := by
    refine loop_inv (fun i s => s = (i : Int) ∧ i ≤ H + 1) _ (H + 1) (by unfold FUEL; omega) 0 ⟨rfl, by omega⟩ ?_
    rintro i s ⟨rfl, hi⟩
    unfold fiduciallaw13_RasterSums_s1
    by_cases hlt : i < H + 1
    · refine .inl ⟨((i + 1 : Nat) : Int), ?_, ⟨rfl, hlt⟩, hlt⟩
      rw [if_pos (by rw [decide_eq_true_iff, tabS_len]; omega), ix_get rfl (tabS_get g W H (by omega)), Option.bind_some]
      rw [if_neg (by rw [rowS_len, eW]; simp), sums_loop2 bd i (by omega), Option.bind_some]
      show some (Step.next (w64 ((i : Int) + 1))) = _
      rw [w64_id (by omega) (by omega)]
      simp
    · exact .inr ⟨_, by rw [if_neg (by rw [decide_eq_true_iff, tabS_len]; omega)], rfl⟩
  obtain ⟨x, hx, rfl⟩ := key
  exact hx

theorem sums_loop3 {W H : Nat} {m : Int} {g : Nat → Nat → Int} (bd : Bd W H m g) : loopM FUEL (fun s => fiduciallaw13_RasterSums_s3 W H m (grid W H g) (tabS g W H) s) 0 = some (.inr ()) := sums_loop1 bd

theorem sums_tail {W H : Nat} {m : Int} {g : Nat → Nat → Int} (bd : Bd W H m g) (x y a b : Int) : ((raster_Sum (tabS g W H) x y a b).bind fun (y65, y66) => ((if (decide (x < 0)) = true then some true else (if (decide (y < 0)) = true then some true else (if (decide (a < 0)) = true then some true else (if (decide (b < 0)) = true then some true else (if (decide ((W : Int) < x)) = true then some true else (if (decide ((H : Int) < y)) = true then some true else (if (decide ((w64 ((W : Int) - x)) < a)) = true then some true else some (decide ((w64 ((H : Int) - y)) < b)))))))))).bind fun s68 => (if s68 = true then (if (y66 == 2) = true then some (y65 == 0) else some false) else (if (y66 == 0) = true then (fiducialref13_Sum W H m (grid W H g) x y a b).bind fun y74 => some (y65 == y74) else some false))) = some true := by
  have b2 := bd.2.1
  have b4 := bd.2.2.2.1
  by_cases hf : SFit W H x y a b
  · obtain ⟨f1, f2, f3, f4, f5, f6, f7, f8⟩ := hf
    obtain ⟨X, rfl⟩ : ∃ X : Nat, x = X := ⟨x.toNat, by omega⟩
    obtain ⟨Y, rfl⟩ : ∃ Y : Nat, y = Y := ⟨y.toNat, by omega⟩
    obtain ⟨A, rfl⟩ : ∃ A : Nat, a = A := ⟨a.toNat, by omega⟩
    obtain ⟨B, rfl⟩ : ∃ B : Nat, b = B := ⟨b.toNat, by omega⟩
    have d3 : w64 ((W : Int) - X) = (W : Int) - X := w64_id (by omega) (by omega)
    have d4 : w64 ((H : Int) - Y) = (H : Int) - Y := w64_id (by omega) (by omega)
    have q1 : ¬ (X : Int) < 0 := by omega
    have q2 : ¬ (Y : Int) < 0 := by omega
    have q3 : ¬ (A : Int) < 0 := by omega
    have q4 : ¬ (B : Int) < 0 := by omega
    have q5 : ¬ (W : Int) < X := by omega
    have q6 : ¬ (H : Int) < Y := by omega
    have q7 : ¬ (W : Int) - X < A := by omega
    have q8 : ¬ (H : Int) - Y < B := by omega
    rw [sum_good bd X Y A B (by omega) (by omega), Option.bind_some]
    simp only [q1, q2, q3, q4, q5, q6, q7, q8, d3, d4, decide_false, Bool.false_eq_true, if_false, Option.bind_some, beq_self_eq_true, if_true, refsum_good bd X Y A B (by omega) (by omega)]
  · rw [sum_unfit b2 b4 g hf, Option.bind_some]
    have s68 : (if (decide (x < 0)) = true then some true else (if (decide (y < 0)) = true then some true else (if (decide (a < 0)) = true then some true else (if (decide (b < 0)) = true then some true else (if (decide ((W : Int) < x)) = true then some true else (if (decide ((H : Int) < y)) = true then some true else (if (decide ((w64 ((W : Int) - x)) < a)) = true then some true else some (decide ((w64 ((H : Int) - y)) < b))))))))) = some true := by
      by_cases q1 : x < 0
      · simp [q1]
      by_cases q2 : y < 0
      · simp [q2]
      by_cases q3 : a < 0
      · simp [q3]
      by_cases q4 : b < 0
      · simp [q4]
      by_cases q5 : (W : Int) < x
      · simp [q5]
      by_cases q6 : (H : Int) < y
      · simp [q6]
      have d3 : w64 ((W : Int) - x) = (W : Int) - x := w64_id (by omega) (by omega)
      have d4 : w64 ((H : Int) - y) = (H : Int) - y := w64_id (by omega) (by omega)
      rw [d3, d4]
      by_cases q7 : (W : Int) - x < a
      · simp [q7]
      have q8 : (H : Int) - y < b := by
        by_cases q : (H : Int) - y < b
        · exact q
        · exact absurd ⟨by omega, by omega, by omega, by omega, by omega, by omega, by omega, by omega⟩ hf
      simp [q8]
    dsimp only
    rw [s68]
    rfl

theorem sums_true (w h m : Int) (px : List Int) (x y a b p : Int) : fiduciallaw13_RasterSums w h m px x y a b p = some true := by
  unfold fiduciallaw13_RasterSums
  rw [known_ok, Option.bind_some]
  simp only [Bool.not_true, Bool.false_eq_true, if_false]
  rw [few_one, Option.bind_some]
  by_cases hb : 600 < (px.length : Int)
  · simp [hb]
  simp only [hb, decide_false, Bool.not_false, Bool.not_true, Bool.false_eq_true, if_false]
  by_cases hg : Good w h m px
  · obtain ⟨W, H, g, rfl, rfl, rfl, bd⟩ := hg.grid
    have b2 := bd.2.1
    have b4 := bd.2.2.2.1
    have eH : w64 ((H : Int) + 1) = (H : Int) + 1 := w64_id (by omega) (by omega)
    have hH1 : (((tabS g W H).length : Int)) = H + 1 := by rw [tabS_len]; simp
    rw [integral_good bd, Option.bind_some]
    dsimp only
    by_cases hp : 1 ≤ p ∧ p ≤ 65535
    · have q1 : ¬ p < 1 := by omega
      have q2 : ¬ 65535 < p := by omega
      rw [rescale_good bd hp, Option.bind_some]
      dsimp only
      rw [refcheck_good hg, Option.bind_some]
      simp only [bne_self_eq_false, Bool.false_eq_true, if_false, q1, q2, decide_false, Option.bind_some, refrescale_good bd p, refeq_same _ _ _ _ (grid_le b2 b4 _), Bool.not_true, hH1, eH]
      rw [sums_loop3 bd, Option.bind_some]
      exact sums_tail bd x y a b
    · have e6 : raster_Rescale W H m (grid W H g) p = some (0, 0, 0, [], 2) := by
        unfold raster_Rescale
        rw [check_good hg]
        by_cases q1 : p < 1
        · simp [q1]
        · have q2 : 65535 < p := by omega
          simp [q1, q2]
      have s43 : (if decide (p < 1) = true then some true else some (decide (65535 < p))) = some true := by
        by_cases q1 : p < 1
        · simp [q1]
        · have q2 : 65535 < p := by omega
          simp [q2]
      rw [e6, Option.bind_some]
      dsimp only
      rw [refcheck_good hg, Option.bind_some, s43]
      simp only [bne_self_eq_false, Bool.false_eq_true, if_false, if_true, Option.bind_some, empty_ok, Bool.not_true, hH1, eH]
      rw [sums_loop1 bd, Option.bind_some]
      exact sums_tail bd x y a b
  · have e5 : raster_Integral w h m px = some ([], 1) := by
      unfold raster_Integral
      rw [check_bad hg]; simp
    have e6 : raster_Rescale w h m px p = some (0, 0, 0, [], 1) := by
      unfold raster_Rescale
      rw [check_bad hg]; simp
    rw [e5, Option.bind_some]
    dsimp only
    rw [e6, Option.bind_some]
    dsimp only
    rw [refcheck_bad hg]
    simp [empty_ok]

end Go.Proofs.Ytoflllddpoonbaa
