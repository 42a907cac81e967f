/-
  PLAIN, chapter 13: crops and pastes.
-/
import Derived.Test.YtoflllddpoonbaaP13f
set_option linter.unusedSimpArgs false
namespace Go.Proofs.Ytoflllddpoonbaa
open Go.E

theorem chk_few {w h m : Int} {px : List Int} (hg : Good w h m px) : px.length ≤ 1000000 := by
  obtain ⟨h1, h2, h3, h4, _, _, h7, _⟩ := hg
  have hm := mul_le64 (by omega : 0 ≤ w) h2 (by omega : 0 ≤ h) h4
  omega

theorem crop_good {W H : Nat} {m : Int} {g : Nat → Nat → Int} (bd : Bd W H m g) (X Y A B : Nat) (hA : 1 ≤ A) (hB : 1 ≤ B) (hX : X + A ≤ W) (hY : Y + B ≤ H) :
    raster_Crop W H m (grid W H g) X Y A B = some ((A : Int), (B : Int), m, grid A B (fun x y => g (X + x) (Y + y)), 0) := by
  have ck := check_good bd.good
  obtain ⟨b1, b2, b3, b4, b5, b6, b7⟩ := bd
  have e1 : w64 ((W : Int) - (X : Int)) = (W : Int) - X := w64_id (by omega) (by omega)
  have e2 : w64 ((H : Int) - (Y : Int)) = (H : Int) - Y := w64_id (by omega) (by omega)
  have mk := made_grid (W := A) (H := B) (by omega) (by omega) m (f := fun z13 z14 => raster_Crop_c1 z13 z14 W H m (grid W H g) X Y) (g := fun x y => g (X + x) (Y + y)) (fun x y hx hy => by
    unfold raster_Crop_c1
    rw [w64_id (by omega) (by omega), w64_id (by omega) (by omega), at_grid b2 b4 g H m _ _ (X + x) (Y + y) (by omega) (by omega) (by omega) (by omega)]
    rfl)
  have hin : 0 ≤ (X : Int) ∧ (X : Int) < W ∧ 0 ≤ (Y : Int) ∧ (Y : Int) < H := by omega
  have q1 : ¬ (A : Int) < 1 := by omega
  have q2 : ¬ (B : Int) < 1 := by omega
  have q3 : ¬ (W : Int) - X < A := by omega
  have q4 : ¬ (H : Int) - Y < B := by omega
  unfold raster_Crop
  rw [ck, has_eq]
  simp only [Option.bind_some, bne_self_eq_false, Bool.false_eq_true, if_false, hin, and_self, decide_true, Bool.not_true, q1, q2, q3, q4, e1, e2, decide_false, mk]

theorem refcrop_good {W H : Nat} {m : Int} {g : Nat → Nat → Int} (bd : Bd W H m g) (X Y A B : Nat) (hX : X + A ≤ W) (hY : Y + B ≤ H) :
    fiducialref13_Crop W H m (grid W H g) X Y A B = some ((A : Int), (B : Int), m, grid A B (fun x y => g (X + x) (Y + y))) := by
  obtain ⟨b1, b2, b3, b4, b5, b6, b7⟩ := bd
  have hA : A ≤ 64 := by omega
  have hB : B ≤ 64 := by omega
  unfold fiducialref13_Crop
  rw [refnew_grid hA hB]
  have := setloop (W := A) (H := B) hA hB (fun y s => fiducialref13_Crop_s2 W H m (grid W H g) X Y A y s.1 s.2) (fun s => fiducialref13_Crop_s1 W H m (grid W H g) X Y A B s.1 s.2) (fun x y => g (X + x) (Y + y)) (fun _ _ => 0)
    (fun x y c hx hy => by
      have hlt := cell_lt hx hy
      have hm : B * A ≤ 64 * 64 := Nat.mul_le_mul hB hA
      show (if decide ((x : Int) < (A : Int)) = true then _ else _) = _
      rw [if_pos (by simpa using hx)]
      have e0 : ((y : Int) * (A : Int)) = ((y * A : Nat) : Int) := by simp
      have e1 : w64 ((y : Int) * (A : Int)) = ((y * A : Nat) : Int) := by rw [e0]; exact w64_id (by omega) (by omega)
      have e2 : w64 (w64 ((y : Int) * (A : Int)) + (x : Int)) = ((y * A + x : Nat) : Int) := by rw [e1]; rw [w64_id (by omega) (by omega)]; simp
      have e3 : w64 ((X : Int) + (x : Int)) = ((X + x : Nat) : Int) := by rw [w64_id (by omega) (by omega)]; simp
      have e4 : w64 ((Y : Int) + (y : Int)) = ((Y + y : Nat) : Int) := by rw [w64_id (by omega) (by omega)]; simp
      rw [refat_grid b2 b4 g H m _ _ (X + x) (Y + y) (by omega) (by omega) e3 e4, Option.bind_some]
      show chk (0 ≤ w64 (w64 ((y : Int) * (A : Int)) + (x : Int)) ∧ w64 (w64 ((y : Int) * (A : Int)) + (x : Int)) < ((grid A B c).length : Int)) (some (Step.next ((grid A B c).set (w64 (w64 ((y : Int) * (A : Int)) + (x : Int))).toNat _, w64 ((x : Int) + 1)))) = _
      rw [e2, chk_pos (by rw [grid_len]; omega), w64_id (by omega) (by omega)]
      rw [Int.toNat_natCast, grid_set c hx hy]
      simp)
    (fun y c hy => by
      show (if decide ((A : Int) < (A : Int)) = true then _ else _) = _
      rw [if_neg (by simp)])
    (fun y l l' hy hl => by
      show (if decide ((y : Int) < (B : Int)) = true then _ else _) = _
      rw [if_pos (by simpa using hy)]
      show (loopM FUEL _ (l, 0)).bind _ = _
      rw [hl]
      show some (Step.next (_, w64 ((y : Int) + 1))) = _
      rw [w64_id (by omega) (by omega)]; simp)
    (fun l => by
      show (if decide ((B : Int) < (B : Int)) = true then _ else _) = _
      rw [if_neg (by simp)])
  show (loopM FUEL _ _).bind _ = _
  rw [this]
  rfl

/-- The pixels of a paste. -/
def over (A B : Nat) (f g : Nat → Nat → Int) (X Y : Int) : Nat → Nat → Int := fun x y => if X ≤ x ∧ x < X + A ∧ Y ≤ y ∧ y < Y + B then f ((x : Int) - X).toNat ((y : Int) - Y).toNat else g x y

theorem paste_loop {w h m : Int} {px : List Int} {w' h' m' : Int} {px' : List Int} (hg : Good w h m px) (hg' : Good w' h' m' px') : loopM FUEL (fun s => raster_Paste_s1 w h m px w' h' m' px' s) 0 = some (.inr ()) := by
  have key : ∃ x, loopM FUEL (fun s => raster_Paste_s1 w h m px w' h' m' px' s) 0 = some x ∧ x = .inr () := by
    refine loop_inv (fun i s => s = (i : Int) ∧ i ≤ 2) _ 2 (by unfold FUEL; omega) 0 ⟨rfl, by omega⟩ ?_
    rintro i s ⟨rfl, hi⟩
    unfold raster_Paste_s1
    by_cases hlt : i < 2
    · refine .inl ⟨((i + 1 : Nat) : Int), ?_, ⟨rfl, by omega⟩, hlt⟩
      rw [if_pos (by rw [decide_eq_true_iff]; omega)]
      have h2 : i = 0 ∨ i = 1 := by omega
      rcases h2 with rfl | rfl
      · show ((some (w, h, m, px)).bind _) = _
        rw [Option.bind_some, check_good hg, Option.bind_some]
        kernel_rfl
      · show ((some (w', h', m', px')).bind _) = _
        rw [Option.bind_some, check_good hg', Option.bind_some]
        kernel_rfl
    · exact .inr ⟨_, by rw [if_neg (by rw [decide_eq_true_iff]; omega)], rfl⟩
  obtain ⟨x, hx, rfl⟩ := key
  exact hx

theorem paste_good {W H A B : Nat} {m : Int} {g f : Nat → Nat → Int} (bd : Bd W H m g) (bf : Bd A B m f) (X Y : Int) (hX : -64 ≤ X ∧ X ≤ 64) (hY : -64 ≤ Y ∧ Y ≤ 64) :
    raster_Paste W H m (grid W H g) A B m (grid A B f) X Y = some ((W : Int), (H : Int), m, grid W H (over A B f g X Y), 0) := by
  have lp := paste_loop bd.good bf.good
  obtain ⟨b1, b2, b3, b4, b5, b6, b7⟩ := bd
  obtain ⟨c1, c2, c3, c4, _, _, c7⟩ := bf
  have mk := made_grid (W := W) (H := H) b2 b4 m (f := fun z25 z26 => raster_Paste_c1 z25 z26 A B m (grid A B f) X Y W H m (grid W H g)) (g := over A B f g X Y) (fun x y hx hy => by
    unfold raster_Paste_c1
    have e1 : w64 ((x : Int) - X) = (x : Int) - X := w64_id (by omega) (by omega)
    have e2 : w64 ((y : Int) - Y) = (y : Int) - Y := w64_id (by omega) (by omega)
    rw [e1, e2, has_eq, Option.bind_some]
    unfold over
    by_cases hin : X ≤ x ∧ x < X + A ∧ Y ≤ y ∧ y < Y + B
    · have hin2 : 0 ≤ (x : Int) - X ∧ (x : Int) - X < A ∧ 0 ≤ (y : Int) - Y ∧ (y : Int) - Y < B := by omega
      rw [if_pos hin, if_pos (by simpa using hin2)]
      rw [at_grid c2 c4 f B m _ _ ((x : Int) - X).toNat ((y : Int) - Y).toNat (by omega) (by omega) (by omega) (by omega)]
      rfl
    · have hin2 : ¬ (0 ≤ (x : Int) - X ∧ (x : Int) - X < A ∧ 0 ≤ (y : Int) - Y ∧ (y : Int) - Y < B) := by omega
      rw [if_neg hin, if_neg (by simpa only [decide_eq_true_iff] using hin2)]
      rw [at_grid b2 b4 g H m _ _ x y hx hy rfl rfl]
      rfl)
  unfold raster_Paste
  rw [lp, Option.bind_some]
  dsimp only
  have q1 : ¬ (if Y < X then Y else X) < -64 := by split <;> omega
  have q2 : ¬ 64 < (if X < Y then Y else X) := by split <;> omega
  simp only [bne_self_eq_false, Bool.false_eq_true, if_false, q1, q2, decide_false, Option.bind_some, mk]

end Go.Proofs.Ytoflllddpoonbaa
