/-
  PLAIN, chapter 13: parts.
-/
import Derived.Test.YtoflllddpoonbaaP13i
set_option linter.unusedSimpArgs false
namespace Go.Proofs.Ytoflllddpoonbaa
open Go.E

def Fit (w h x y a b : Int) : Prop := 0 ≤ x ∧ x < w ∧ 0 ≤ y ∧ y < h ∧ 1 ≤ a ∧ 1 ≤ b ∧ a ≤ w - x ∧ b ≤ h - y

theorem crop_unfit {w h m : Int} {px : List Int} (hg : Good w h m px) {x y a b : Int} (hf : ¬ Fit w h x y a b) : raster_Crop w h m px x y a b = some (0, 0, 0, [], 2) := by
  have hg' := hg
  obtain ⟨h1, h2, h3, h4, _⟩ := hg'
  unfold raster_Crop
  rw [check_good hg, has_eq]
  by_cases hin : 0 ≤ x ∧ x < w ∧ 0 ≤ y ∧ y < h
  · have e1 : w64 (w - x) = w - x := w64_id (by omega) (by omega)
    have e2 : w64 (h - y) = h - y := w64_id (by omega) (by omega)
    by_cases q1 : a < 1
    · simp [hin, q1]
    by_cases q2 : b < 1
    · simp [hin, q1, q2]
    by_cases q3 : w - x < a
    · simp [hin, q1, q2, e1, q3]
    have q4 : h - y < b := by
      by_cases q : h - y < b
      · exact q
      · exact absurd ⟨hin.1, hin.2.1, hin.2.2.1, hin.2.2.2, by omega, by omega, by omega, by omega⟩ hf
    simp [hin, q1, q2, e1, e2, q3, q4]
  · simp only [Option.bind_some, bne_self_eq_false, Bool.false_eq_true, if_false, hin, decide_false, Bool.not_false, if_true]

theorem law_unfit {w h : Int} (h1 : 1 ≤ w) (h2 : w ≤ 64) (h3 : 1 ≤ h) (h4 : h ≤ 64) {x y a b : Int} (hf : ¬ Fit w h x y a b) :
    (if (decide (x < 0)) = true then some true else (if (decide (y < 0)) = true then some true else (if (decide (a < 1)) = true then some true else (if (decide (b < 1)) = true then some true else (if (decide ((w64 (w - 1)) < x)) = true then some true else (if (decide ((w64 (h - 1)) < y)) = true then some true else (if (decide ((w64 (w - x)) < a)) = true then some true else some (decide ((w64 (h - y)) < b))))))))) = some true := by
  have e3 : w64 (w - 1) = w - 1 := w64_id (by omega) (by omega)
  have e4 : w64 (h - 1) = h - 1 := w64_id (by omega) (by omega)
  rw [e3, e4]
  by_cases q1 : x < 0
  · simp [q1]
  by_cases q2 : y < 0
  · simp [q2]
  by_cases q3 : a < 1
  · simp [q3]
  by_cases q4 : b < 1
  · simp [q4]
  by_cases q5 : w - 1 < x
  · simp [q5]
  by_cases q6 : h - 1 < y
  · simp [q6]
  have e1 : w64 (w - x) = w - x := w64_id (by omega) (by omega)
  have e2 : w64 (h - y) = h - y := w64_id (by omega) (by omega)
  rw [e1, e2]
  by_cases q7 : w - x < a
  · simp [q7]
  have q8 : h - y < b := by
    by_cases q : h - y < b
    · exact q
    · exact absurd ⟨by omega, by omega, by omega, by omega, by omega, by omega, by omega, by omega⟩ hf
  simp [q8]

theorem law_fit {w h : Int} (h1 : 1 ≤ w) (h2 : w ≤ 64) (h3 : 1 ≤ h) (h4 : h ≤ 64) {x y a b : Int} (hf : Fit w h x y a b) :
    (if (decide (x < 0)) = true then some true else (if (decide (y < 0)) = true then some true else (if (decide (a < 1)) = true then some true else (if (decide (b < 1)) = true then some true else (if (decide ((w64 (w - 1)) < x)) = true then some true else (if (decide ((w64 (h - 1)) < y)) = true then some true else (if (decide ((w64 (w - x)) < a)) = true then some true else some (decide ((w64 (h - y)) < b))))))))) = some false := by
  obtain ⟨f1, f2, f3, f4, f5, f6, f7, f8⟩ := hf
  have e3 : w64 (w - 1) = w - 1 := w64_id (by omega) (by omega)
  have e4 : w64 (h - 1) = h - 1 := w64_id (by omega) (by omega)
  have e1 : w64 (w - x) = w - x := w64_id (by omega) (by omega)
  have e2 : w64 (h - y) = h - y := w64_id (by omega) (by omega)
  rw [e3, e4, e1, e2]
  have q1 : ¬ x < 0 := by omega
  have q2 : ¬ y < 0 := by omega
  have q3 : ¬ a < 1 := by omega
  have q4 : ¬ b < 1 := by omega
  have q5 : ¬ w - 1 < x := by omega
  have q6 : ¬ h - 1 < y := by omega
  have q7 : ¬ w - x < a := by omega
  have q8 : ¬ h - y < b := by omega
  simp only [q1, q2, q3, q4, q5, q6, q7, q8, decide_false, Bool.false_eq_true, if_false]

theorem parts_true (w h m : Int) (px : List Int) (x y a b : Int) : fiduciallaw13_RasterParts w h m px x y a b = some true := by
  unfold fiduciallaw13_RasterParts
  rw [known_ok, Option.bind_some]
  simp only [Bool.not_true, Bool.false_eq_true, if_false]
  rw [few_one, Option.bind_some]
  by_cases hb : 600 < (px.length : Int)
  · simp [hb]
  simp only [hb, decide_false, Bool.not_false, Bool.not_true, Bool.false_eq_true, if_false]
  by_cases hg : Good w h m px
  · have hgg := hg
    obtain ⟨g1, g2, g3, g4, _⟩ := hgg
    by_cases hf : Fit w h x y a b
    · have lf := law_fit g1 g2 g3 g4 hf
      obtain ⟨W, H, g, rfl, rfl, rfl, bd⟩ := hg.grid
      have hWH := bd
      obtain ⟨b1, b2, b3, b4, b5, b6, b7⟩ := hWH
      obtain ⟨f1, f2, f3, f4, f5, f6, f7, f8⟩ := hf
      obtain ⟨X, rfl⟩ : ∃ X : Nat, x = X := ⟨x.toNat, by omega⟩
      obtain ⟨Y, rfl⟩ : ∃ Y : Nat, y = Y := ⟨y.toNat, by omega⟩
      obtain ⟨A, rfl⟩ : ∃ A : Nat, a = A := ⟨a.toNat, by omega⟩
      obtain ⟨B, rfl⟩ : ∃ B : Nat, b = B := ⟨b.toNat, by omega⟩
      have bc : Bd A B m (fun x y => g (X + x) (Y + y)) := ⟨by omega, by omega, by omega, by omega, b5, b6, fun x y hx hy => b7 _ _ (by omega) (by omega)⟩
      rw [crop_good bd X Y A B (by omega) (by omega) (by omega) (by omega), Option.bind_some, refcheck_good hg, Option.bind_some]
      simp only [beq_self_eq_true, if_true]
      rw [lf]
      simp only [Option.bind_some, Bool.false_eq_true, if_false, bne_self_eq_false]
      rw [paste_good bd bc (X : Int) (Y : Int) (by omega) (by omega), Option.bind_some]
      simp only [beq_self_eq_true, if_true]
      rw [refcrop_good bd X Y A B (by omega) (by omega), Option.bind_some]
      dsimp only
      rw [refeq_same _ _ _ _ (grid_le (by omega) (by omega) _), Option.bind_some]
      simp only [if_true]
      have e5 : grid W H (over A B (fun x y => g (X + x) (Y + y)) g X Y) = grid W H g := grid_congr fun x y hx hy => by
        unfold over
        by_cases hin : (X : Int) ≤ x ∧ (x : Int) < (X : Int) + A ∧ (Y : Int) ≤ y ∧ (y : Int) < (Y : Int) + B
        · rw [if_pos hin]
          show g (X + ((x : Int) - (X : Int)).toNat) (Y + ((y : Int) - (Y : Int)).toNat) = g x y
          rw [show X + ((x : Int) - (X : Int)).toNat = x by omega, show Y + ((y : Int) - (Y : Int)).toNat = y by omega]
        · rw [if_neg hin]
      rw [e5, refeq_same _ _ _ _ (grid_le b2 b4 _)]
      rfl
    · rw [crop_unfit hg hf, Option.bind_some, refcheck_good hg, Option.bind_some]
      simp only [beq_self_eq_true, if_true]
      rw [law_unfit g1 g2 g3 g4 hf]
      simp [empty_ok]
  · have e6 : raster_Crop w h m px x y a b = some (0, 0, 0, [], 1) := by
      unfold raster_Crop
      rw [check_bad hg]
      simp
    rw [e6, refcheck_bad hg]
    simp [empty_ok]

end Go.Proofs.Ytoflllddpoonbaa
