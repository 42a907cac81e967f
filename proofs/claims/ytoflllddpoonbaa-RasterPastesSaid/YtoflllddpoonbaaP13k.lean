/-
  PLAIN, chapter 13: pastes.
-/
import Derived.Test.YtoflllddpoonbaaP13i
set_option linter.unusedSimpArgs false
namespace Go.Proofs.Ytoflllddpoonbaa
open Go.E

theorem refpaste_good {W H A B : Nat} {m : Int} {g f : Nat → Nat → Int} (bd : Bd W H m g) (bf : Bd A B m f) (X Y : Int) (hX : -64 ≤ X ∧ X ≤ 64) (hY : -64 ≤ Y ∧ Y ≤ 64) :
    fiducialref13_Paste W H m (grid W H g) A B m (grid A B f) X Y = some ((W : Int), (H : Int), m, grid W H (over A B f g X Y)) := by
  obtain ⟨b1, b2, b3, b4, b5, b6, b7⟩ := bd
  obtain ⟨c1, c2, c3, c4, _, _, c7⟩ := bf
  have hm : H * W ≤ 64 * 64 := Nat.mul_le_mul b4 b2
  -- what stands once the rows below j and i pixels of row j are laid
  let P : Nat → Nat → Nat → Nat → Int := fun j i x y => if (X ≤ x ∧ x < X + A ∧ Y ≤ y ∧ y < Y + B) ∧ ((y : Int) < Y + j ∨ ((y : Int) = Y + j ∧ (x : Int) < X + i)) then f ((x : Int) - X).toNat ((y : Int) - Y).toNat else g x y
  have inner : ∀ j : Nat, j < B → ∃ l, loopM FUEL (fun s : List Int × Int => fiducialref13_Paste_s2 W H m (grid W H g) A B m (grid A B f) X Y (j : Int) s.1 s.2) (grid W H (P j 0), 0) = some l ∧ l = grid W H (P j A) := by
    intro j hj
    refine loop_inv (fun i s => s = (grid W H (P j i), (i : Int)) ∧ i ≤ A) _ A (by unfold FUEL; omega) _ ⟨rfl, by omega⟩ ?_
    rintro i s ⟨rfl, hi⟩
    unfold fiducialref13_Paste_s2
    by_cases hlt : i < A
    · refine .inl ⟨(grid W H (P j (i + 1)), ((i + 1 : Nat) : Int)), ?_, ⟨rfl, hlt⟩, hlt⟩
      show (if decide ((i : Int) < (A : Int)) = true then _ else _) = _
      rw [if_pos (by simpa using hlt)]
      have e1 : w64 (X + (i : Int)) = X + i := w64_id (by omega) (by omega)
      have e2 : w64 (Y + (j : Int)) = Y + j := w64_id (by omega) (by omega)
      have e9 : w64 ((i : Int) + 1) = ((i + 1 : Nat) : Int) := by rw [w64_id (by omega) (by omega)]; simp
      show (fiducialref13_Inside W H m (grid W H g) (w64 (X + (i : Int))) (w64 (Y + (j : Int)))).bind _ = _
      rw [e1, e2, inside_eq, Option.bind_some]
      by_cases hin : 0 ≤ X + (i : Int) ∧ X + (i : Int) < W ∧ 0 ≤ Y + (j : Int) ∧ Y + (j : Int) < H
      · obtain ⟨x, hx⟩ : ∃ x : Nat, X + (i : Int) = x := ⟨(X + (i : Int)).toNat, by omega⟩
        obtain ⟨y, hy⟩ : ∃ y : Nat, Y + (j : Int) = y := ⟨(Y + (j : Int)).toNat, by omega⟩
        have hxW : x < W := by omega
        have hyH : y < H := by omega
        have hlt2 := cell_lt hxW hyH
        rw [if_pos (by rw [decide_eq_true_iff]; exact hin)]
        show ((fiducialref13_At A B m (grid A B f) (i : Int) (j : Int)).bind _).bind _ = _
        rw [refat_grid c2 c4 f B m _ _ i j hlt hj rfl rfl, Option.bind_some]
        have e0 : ((y : Int) * (W : Int)) = ((y * W : Nat) : Int) := by simp
        have e3 : w64 ((Y + (j : Int)) * (W : Int)) = ((y * W : Nat) : Int) := by rw [hy, e0]; exact w64_id (by omega) (by omega)
        have e4 : w64 (((y * W : Nat) : Int) + X) = ((y * W : Nat) : Int) + X := w64_id (by omega) (by omega)
        have e5 : w64 (((y * W : Nat) : Int) + X + (i : Int)) = ((y * W + x : Nat) : Int) := by rw [w64_id (by omega) (by omega)]; omega
        show ((chk (0 ≤ w64 (w64 (w64 ((Y + (j : Int)) * (W : Int)) + X) + (i : Int)) ∧ w64 (w64 (w64 ((Y + (j : Int)) * (W : Int)) + X) + (i : Int)) < ((grid W H (P j i)).length : Int)) (some ((grid W H (P j i)).set (w64 (w64 (w64 ((Y + (j : Int)) * (W : Int)) + X) + (i : Int))).toNat (f i j)))).bind fun l53 => some (Step.next (l53, w64 ((i : Int) + 1)))) = _
        rw [e3, e4, e5, chk_pos (by rw [grid_len]; omega), Option.bind_some, e9, Int.toNat_natCast, grid_set (P j i) hxW hyH]
        congr 2
        refine Prod.ext (grid_congr fun x' y' hx' hy' => ?_) rfl
        show (if x' = x ∧ y' = y then f i j else P j i x' y') = P j (i + 1) x' y'
        by_cases he : x' = x ∧ y' = y
        · obtain ⟨rfl, rfl⟩ := he
          rw [if_pos ⟨rfl, rfl⟩]
          show _ = (if _ then _ else _)
          rw [if_pos (by omega)]
          congr 1 <;> omega
        · rw [if_neg he]
          show (if _ then _ else _) = (if _ then _ else _)
          by_cases hc : (X ≤ x' ∧ x' < X + A ∧ Y ≤ y' ∧ y' < Y + B) ∧ ((y' : Int) < Y + j ∨ ((y' : Int) = Y + j ∧ (x' : Int) < X + i))
          · rw [if_pos hc, if_pos (by omega)]
          · rw [if_neg hc, if_neg (by omega)]
      · rw [if_neg (by rw [decide_eq_true_iff]; exact hin), Option.bind_some]
        show some (Step.next (grid W H (P j i), w64 ((i : Int) + 1))) = _
        rw [e9]
        congr 2
        refine Prod.ext (grid_congr fun x' y' hx' hy' => ?_) rfl
        show (if _ then _ else _) = (if _ then _ else _)
        by_cases hc : (X ≤ x' ∧ x' < X + A ∧ Y ≤ y' ∧ y' < Y + B) ∧ ((y' : Int) < Y + j ∨ ((y' : Int) = Y + j ∧ (x' : Int) < X + i))
        · rw [if_pos hc, if_pos (by omega)]
        · rw [if_neg hc, if_neg (by omega)]
    · obtain rfl : i = A := by omega
      refine .inr ⟨grid W H (P j i), ?_, rfl⟩
      show (if decide ((i : Int) < (i : Int)) = true then _ else _) = _
      rw [if_neg (by simp)]
  have outer : ∃ l, loopM FUEL (fun s : List Int × Int => fiducialref13_Paste_s1 W H m (grid W H g) A B m (grid A B f) X Y s.1 s.2) (grid W H g, 0) = some l ∧ l = grid W H (over A B f g X Y) := by
    refine loop_inv (fun j s => s = (grid W H (P j 0), (j : Int)) ∧ j ≤ B) _ B (by unfold FUEL; omega) _ ⟨?_, by omega⟩ ?_
    · congr 1
      refine grid_congr fun x y hx hy => ?_
      show g x y = (if _ then _ else _)
      rw [if_neg (by omega)]
    · rintro j s ⟨rfl, hj⟩
      unfold fiducialref13_Paste_s1
      by_cases hlt : j < B
      · obtain ⟨l, k1, k2⟩ := inner j hlt
        refine .inl ⟨(grid W H (P (j + 1) 0), ((j + 1 : Nat) : Int)), ?_, ⟨rfl, hlt⟩, hlt⟩
        show (if decide ((j : Int) < (B : Int)) = true then _ else _) = _
        rw [if_pos (by simpa using hlt)]
        show (loopM FUEL _ (grid W H (P j 0), 0)).bind _ = _
        rw [k1, k2]
        show some (Step.next (_, w64 ((j : Int) + 1))) = _
        rw [w64_id (by omega) (by omega)]
        congr 2
        refine Prod.ext (grid_congr fun x y hx hy => ?_) (by simp)
        show (if _ then _ else _) = (if _ then _ else _)
        by_cases hc : (X ≤ x ∧ x < X + A ∧ Y ≤ y ∧ y < Y + B) ∧ ((y : Int) < Y + j ∨ ((y : Int) = Y + j ∧ (x : Int) < X + A))
        · rw [if_pos hc, if_pos (by omega)]
        · rw [if_neg hc, if_neg (by omega)]
      · obtain rfl : j = B := by omega
        refine .inr ⟨grid W H (P j 0), ?_, grid_congr fun x y hx hy => ?_⟩
        · show (if decide ((j : Int) < (j : Int)) = true then _ else _) = _
          rw [if_neg (by simp)]
        · unfold over
          show (if _ then _ else _) = (if _ then _ else _)
          by_cases hc : X ≤ x ∧ x < X + A ∧ Y ≤ y ∧ y < Y + j
          · rw [if_pos hc, if_pos (by omega)]
          · rw [if_neg hc, if_neg (by omega)]
  obtain ⟨l, k1, rfl⟩ := outer
  unfold fiducialref13_Paste
  rw [refcopy_grid b2 b4]
  show (loopM FUEL _ _).bind _ = _
  rw [k1]
  rfl

theorem paste_bad1 {w h m : Int} {px : List Int} (hg : ¬ Good w h m px) (w' h' m' : Int) (px' : List Int) (x y : Int) : raster_Paste w h m px w' h' m' px' x y = some (0, 0, 0, [], 1) := by
  have key : ∃ q, loopM FUEL (fun s => raster_Paste_s1 w h m px w' h' m' px' s) 0 = some q ∧ q = .inl (0, 0, 0, [], 1) := by
    refine loop_inv (fun i s => s = (i : Int) ∧ i = 0) _ 1 (by unfold FUEL; omega) 0 ⟨rfl, rfl⟩ ?_
    rintro i s ⟨rfl, rfl⟩
    unfold raster_Paste_s1
    refine .inr ⟨.inl (0, 0, 0, [], 1), ?_, rfl⟩
    rw [if_pos (by simp)]
    show ((some (w, h, m, px)).bind _) = _
    rw [Option.bind_some, check_bad hg, Option.bind_some]
    rfl
  obtain ⟨q, hq, rfl⟩ := key
  unfold raster_Paste
  rw [hq]
  rfl

theorem paste_bad2 {w h m : Int} {px : List Int} (hg : Good w h m px) {w' h' m' : Int} {px' : List Int} (hg' : ¬ Good w' h' m' px') (x y : Int) : raster_Paste w h m px w' h' m' px' x y = some (0, 0, 0, [], 1) := by
  have key : ∃ q, loopM FUEL (fun s => raster_Paste_s1 w h m px w' h' m' px' s) 0 = some q ∧ q = .inl (0, 0, 0, [], 1) := by
    refine loop_inv (fun i s => s = (i : Int) ∧ i ≤ 1) _ 2 (by unfold FUEL; omega) 0 ⟨rfl, by omega⟩ ?_
    rintro i s ⟨rfl, hi⟩
    unfold raster_Paste_s1
    have h2 : i = 0 ∨ i = 1 := by omega
    rcases h2 with rfl | rfl
    · refine .inl ⟨1, ?_, ⟨rfl, by omega⟩, by omega⟩
      rw [if_pos (by simp)]
      show ((some (w, h, m, px)).bind _) = _
      rw [Option.bind_some, check_good hg, Option.bind_some]
      kernel_rfl
    · refine .inr ⟨.inl (0, 0, 0, [], 1), ?_, rfl⟩
      rw [if_pos (by simp)]
      show ((some (w', h', m', px')).bind _) = _
      rw [Option.bind_some, check_bad hg', Option.bind_some]
      rfl
  obtain ⟨q, hq, rfl⟩ := key
  unfold raster_Paste
  rw [hq]
  rfl

theorem pastes_true (w h m : Int) (px : List Int) (w' h' m' : Int) (px' : List Int) (x y : Int) : fiduciallaw13_RasterPastes w h m px w' h' m' px' x y = some true := by
  unfold fiduciallaw13_RasterPastes
  rw [known_ok, Option.bind_some]
  simp only [Bool.not_true, Bool.false_eq_true, if_false]
  rw [few_two]
  by_cases hb : 600 < (px.length : Int)
  · simp [hb]
  by_cases hb2 : 600 < (px'.length : Int)
  · simp [hb, hb2]
  simp only [hb, hb2, decide_false, Bool.or_false, Bool.not_false, Bool.not_true, Bool.false_eq_true, if_false, Option.bind_some]
  by_cases hg : Good w h m px
  · by_cases hg' : Good w' h' m' px'
    · rw [refcheck_good hg, refcheck_good hg']
      by_cases hm : m = m'
      · subst hm
        by_cases hr : (-64 ≤ x ∧ x ≤ 64) ∧ (-64 ≤ y ∧ y ≤ 64)
        · obtain ⟨hx, hy⟩ := hr
          obtain ⟨W, H, g, rfl, rfl, rfl, bd⟩ := hg.grid
          obtain ⟨A, B, f, rfl, rfl, rfl, bf⟩ := hg'.grid
          have hWH := bd
          obtain ⟨b1, b2, b3, b4, _⟩ := hWH
          have q1 : ¬ x < -64 := by omega
          have q2 : ¬ 64 < x := by omega
          have q3 : ¬ y < -64 := by omega
          have q4 : ¬ 64 < y := by omega
          have eqs := refeq_same (W : Int) (H : Int) m _ (grid_le b2 b4 (over A B f g x y))
          rw [paste_good bd bf x y hx hy]
          simp only [Option.bind_some, beq_self_eq_true, if_true, bne_self_eq_false, Bool.false_eq_true, if_false, q1, q2, q3, q4, decide_false, refpaste_good bd bf x y hx hy, eqs]
        · have lp := paste_loop hg hg'
          have hp : raster_Paste w h m px w' h' m px' x y = some (0, 0, 0, [], 2) := by
            unfold raster_Paste
            rw [lp, Option.bind_some]
            dsimp only
            by_cases q1 : (if y < x then y else x) < -64
            · simp [q1]
            · have q2 : 64 < (if x < y then y else x) := by
                split at q1 <;> split <;> omega
              simp [q1, q2]
          rw [hp]
          have s37 : (if decide (x < -64) = true then some true else if decide (64 < x) = true then some true else if decide (y < -64) = true then some true else some (decide (64 < y))) = some true := by
            by_cases q1 : x < -64
            · simp [q1]
            by_cases q2 : 64 < x
            · simp [q2]
            by_cases q3 : y < -64
            · simp [q3]
            have q4 : 64 < y := by omega
            simp [q4]
          simp only [Option.bind_some, beq_self_eq_true, if_true, bne_self_eq_false, Bool.false_eq_true, if_false, s37]
          simp [empty_ok]
      · have lp := paste_loop hg hg'
        have hp : raster_Paste w h m px w' h' m' px' x y = some (0, 0, 0, [], 4) := by
          unfold raster_Paste
          rw [lp, Option.bind_some]
          simp [hm]
        rw [hp]
        simp [hm, empty_ok]
    · rw [paste_bad2 hg hg', refcheck_good hg, refcheck_bad hg']
      simp [empty_ok]
  · rw [paste_bad1 hg, refcheck_bad hg]
    simp [empty_ok]

end Go.Proofs.Ytoflllddpoonbaa
