/-
  PLAIN: the document Turn.
-/
import Derived.Test.YtdgmeplpkehdnaaQRefAt
import Derived.KernelRfl
set_option linter.unusedSimpArgs false
namespace Go.Proofs.Ytdgmeplpkehdnaa
open Go.E

theorem refnew_grid {W H : Nat} (hW : W ≤ 64) (hH : H ≤ 64) (m : Int) : fiducialref13_New W H m = some ((W : Int), (H : Int), m, grid W H (fun _ _ => 0)) := by
  have hm : H * W ≤ 64 * 64 := Nat.mul_le_mul hH hW
  have e0 : ((W : Int) * (H : Int)) = ((H * W : Nat) : Int) := by rw [Nat.mul_comm]; simp
  have e1 : w64 ((W : Int) * (H : Int)) = ((H * W : Nat) : Int) := by rw [e0]; exact w64_id (by omega) (by omega)
  have key : ∃ l, loopM FUEL (fun s : List Int × Int => fiducialref13_New_s1 W H s.1 s.2) (([] : List Int), 0) = some l ∧ l = List.replicate (H * W) 0 := by
    refine loop_inv (fun i s => s = (List.replicate i 0, (i : Int)) ∧ i ≤ H * W) _ (H * W) (by unfold FUEL; omega) _ ⟨rfl, by omega⟩ ?_
    rintro i s ⟨rfl, hi⟩
    unfold fiducialref13_New_s1
    rw [e1]
    by_cases hlt : i < H * W
    · refine .inl ⟨(List.replicate (i + 1) 0, ((i + 1 : Nat) : Int)), ?_, ⟨rfl, hlt⟩, hlt⟩
      show (if decide ((i : Int) < ((H * W : Nat) : Int)) = true then _ else _) = _
      rw [if_pos (by rw [decide_eq_true_iff]; omega), chk_pos]
      · show some (Step.next (_, w64 ((i : Int) + 1))) = _
        rw [w64_id (by omega) (by omega), List.replicate_succ']
        simp
      · show (List.replicate i (0 : Int)).length + 1 ≤ _
        simp; omega
    · refine .inr ⟨List.replicate i 0, ?_, ?_⟩
      · show (if decide ((i : Int) < ((H * W : Nat) : Int)) = true then _ else _) = _
        rw [if_neg (by rw [decide_eq_true_iff]; omega)]
      · congr 1; omega
  obtain ⟨l, q1, q2⟩ := key
  unfold fiducialref13_New
  rw [q1, q2]
  have : List.replicate (H * W) (0 : Int) = grid W H (fun _ _ => 0) := grid_ext (by simp) (fun x y hx hy => by
    have := cell_lt hx hy
    simp [this])
  rw [this]
  rfl

theorem refturn_grid {W H : Nat} {m : Int} {g : Nat → Nat → Int} (hb : Bd W H m g) : fiducialref13_Turn W H m (grid W H g) = some ((H : Int), (W : Int), m, grid H W (fun x y => g (W - 1 - y) x)) := by
  obtain ⟨h1, h2, h3, h4, h5, h6, h7⟩ := hb
  unfold fiducialref13_Turn
  rw [refnew_grid h4 h2]
  have := setloop (W := H) (H := W) h4 h2 (fun y s => fiducialref13_Turn_s2 W H m (grid W H g) H y s.1 s.2) (fun s => fiducialref13_Turn_s1 W H m (grid W H g) H W s.1 s.2) (fun x y => g (W - 1 - y) x) (fun _ _ => 0)
    (fun x y c hx hy => by
      have hlt := cell_lt hx hy
      have hm : W * H ≤ 64 * 64 := Nat.mul_le_mul h2 h4
      show (if decide ((x : Int) < (H : Int)) = true then _ else _) = _
      rw [if_pos (by simpa using hx)]
      have e0 : ((y : Int) * (H : Int)) = ((y * H : Nat) : Int) := by simp
      have e1 : w64 ((y : Int) * (H : Int)) = ((y * H : Nat) : Int) := by rw [e0]; exact w64_id (by omega) (by omega)
      have e2 : w64 (w64 ((y : Int) * (H : Int)) + (x : Int)) = ((y * H + x : Nat) : Int) := by rw [e1]; rw [w64_id (by omega) (by omega)]; simp
      have e3 : w64 (w64 ((W : Int) - 1) - (y : Int)) = ((W - 1 - y : Nat) : Int) := by rw [w64_id (z := (W : Int) - 1) (by omega) (by omega), w64_id (by omega) (by omega)]; omega
      rw [refat_grid h2 h4 g H m _ _ (W - 1 - y) x (by omega) hx e3 rfl, Option.bind_some]
      show chk (0 ≤ w64 (w64 ((y : Int) * (H : Int)) + (x : Int)) ∧ w64 (w64 ((y : Int) * (H : Int)) + (x : Int)) < ((grid H W c).length : Int)) (some (Step.next ((grid H W c).set (w64 (w64 ((y : Int) * (H : Int)) + (x : Int))).toNat _, w64 ((x : Int) + 1)))) = _
      rw [e2, chk_pos (by rw [grid_len]; omega), w64_id (by omega) (by omega)]
      rw [show (((y * H + x : Nat) : Int)).toNat = y * H + x by omega, grid_set c hx hy]
      simp)
    (fun y c hy => by
      show (if decide ((H : Int) < (H : Int)) = true then _ else _) = _
      rw [if_neg (by simp)])
    (fun y l l' hy hl => by
      show (if decide ((y : Int) < (W : Int)) = true then _ else _) = _
      rw [if_pos (by simpa using hy)]
      show (loopM FUEL _ (l, 0)).bind _ = _
      rw [hl]
      show some (Step.next (_, w64 ((y : Int) + 1))) = _
      rw [w64_id (by omega) (by omega)]; simp)
    (fun l => by
      show (if decide ((W : Int) < (W : Int)) = true then _ else _) = _
      rw [if_neg (by simp)])
  show (loopM FUEL _ _).bind _ = _
  rw [this]
  rfl

end Go.Proofs.Ytdgmeplpkehdnaa
