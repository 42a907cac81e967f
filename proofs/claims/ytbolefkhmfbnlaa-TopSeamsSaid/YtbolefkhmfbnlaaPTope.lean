/-
  PLAIN, the top: TopSeams, the law.
-/
import Derived.Test.YtbolefkhmfbnlaaPTopd
set_option linter.unusedSimpArgs false
set_option linter.unusedVariables false
namespace Go.Proofs.Ytbolefkhmfbnlaa
open Go.E

theorem total_part {W H a n : Nat} {d : Nat → Nat → Int} {c : Nat → Nat} (hc : IsSeam W H c) (hn : a + n ≤ H) : ((row H (fun y => (c y : Int))).take (a + n)).drop a = row n (fun y => (c (a + y) : Int)) := by
  apply List.ext_getElem?
  intro i
  rw [List.getElem?_drop, List.getElem?_take]
  by_cases hi : i < n
  · rw [if_pos (by omega), row_get _ _ (by omega), row_get _ _ hi]
  · rw [if_neg (by omega), List.getElem?_eq_none (by rw [row_len]; omega)]

theorem topseams_true (w h m : Int) (px : List Int) (w' h' m' : Int) (px' : List Int) (r0 r1 : Int) (h0 : 0 ≤ r0 ∧ r0 < 256) (h1 : 0 ≤ r1 ∧ r1 < 256) : fiducialtop_TopSeams w h m px w' h' m' px' r0 r1 = some true := by
  unfold fiducialtop_TopSeams
  rw [bM_true, Option.bind_some, if_neg (by decide)]
  by_cases g1 : Good w h m px
  · rw [refcheck_good g1, Option.bind_some, if_neg (by decide)]
    by_cases g2 : Good w' h' m' px'
    · rw [refcheck_good g2, Option.bind_some, if_neg (by decide), Option.bind_some]
      by_cases hbig : 7 < (if w < h then h else w)
      · rw [if_pos (decide_eq_true hbig)]
      rw [if_neg (by simpa only [decide_eq_true_eq] using hbig)]
      by_cases he : w = w' ∧ h = h' ∧ m = m'
      · obtain ⟨rfl, rfl, rfl⟩ := he
        have hm := matched_ok g1 g2
        obtain ⟨W, H, ga, rfl, rfl, W0, W1, H0, H1, rfl, ba⟩ := good_row g1
        obtain ⟨W', H', gb, eW, eH, _, _, _, _, rfl, bb⟩ := good_row g2
        obtain rfl : W' = W := by omega
        obtain rfl : H' = H := by omega
        have hN : H' * W' ≤ 64 * 64 := Nat.mul_le_mul H1 W1
        have hcb := dif_CB ba bb W'
        have hcs := col_seam (dif ga gb W') W0 H'
        have hcl : ∀ y, col (dif ga gb W') W' H' y < W' := col_lt (dif ga gb W') W0 H'
        rw [costs_eq W1 H1 ba bb hm]
        simp only [Option.bind_some]
        rw [if_neg (by decide), find_ok W0 H0 W1 H1 hcb.bnd (check_cb W0 H0 W1 H1 hcb)]
        simp only [Option.bind_some]
        have eL : colL (dif ga gb W') W' H' H' = row H' (fun y => (col (dif ga gb W') W' H' y : Int)) := rfl
        rw [eL]
        generalize hcc : (fun y => col (dif ga gb W') W' H' y) = c at *
        have hce : col (dif ga gb W') W' H' = c := hcc
        rw [hce] at hcs
        have hcl : ∀ y, c y < W' := fun y => by rw [← hce]; exact col_lt (dif ga gb W') W0 H' y
        rw [hce]
        rw [row_len, if_neg (by decide)]
        have e0 : (some ((H' : Int) != (H' : Int))) = some false := by simp
        rw [e0]
        simp only [Option.bind_some]
        rw [if_neg (by decide), mosaic_ok W0 W1 H1 hm (row_len _ _) (fun y hy => by rw [cg_row hy]; have := hcl y; omega)]
        simp only [Option.bind_some]
        have gm : Good W' H' m (row (H' * W') (mosF ga gb (row H' (fun y => (c y : Int))) W')) := good_of g1 H0 H1 (fun j hj => by
          have q1 := good_at g1 hj
          have q2 := good_at g2 hj
          unfold mosF
          split
          · exact q1
          · exact q2)
        have gx : Good W' H' m (row (H' * W') (mir ga W')) := good_of g1 H0 H1 (fun j hj => good_at g1 (mir_in W0 hj))
        have gy : Good W' H' m (row (H' * W') (mir gb W')) := good_of g1 H0 H1 (fun j hj => good_at g2 (mir_in W0 hj))
        rw [refcheck_good gm, if_neg (by decide)]
        simp only [Option.bind_some]
        rw [if_neg (by decide), row_len, row_len]
        have e1 : (some (((H' * W' : Nat) : Int) != ((H' * W' : Nat) : Int))) = some false := by simp
        rw [e1]
        simp only [Option.bind_some]
        rw [if_neg (by decide), same_loop (by omega) (fun j _ q => by unfold mosF; split <;> simp [q]), mirror_row W1 H1 g1, mirror_row W1 H1 g2, mirror_row W1 H1 gm]
        simp only [Option.bind_some]
        rw [turn_loop W1 H1 hcl]
        simp only [Option.bind_some]
        rw [mosaic_ok W0 W1 H1 (matched_ok gy gx) (row_len _ _) (fun y hy => by rw [cg_row hy]; have := hcl y; omega), mirror_mos W0 ga gb c hcl]
        simp only [Option.bind_some]
        have e2 : ((w64 (w64 (w64 ((0 : Int) + 0) + 0) + 0)) != 0) = false := by decide
        rw [e2, requal_self _ _ _ _ (by rw [row_len]; omega)]
        simp only [Option.bind_some]
        rw [if_neg (by decide)]
        simp only [Option.bind_some]
        rw [if_neg (by decide), w64_id (z := r0) (by omega) (by omega), w64_id (z := r1) (by omega) (by omega), chk_pos (by omega)]
        -- the rows
        obtain ⟨a, ha, ha2⟩ : ∃ a : Nat, Int.tmod r0 (H' : Int) = a ∧ a < H' := by
          rw [Int.tmod_eq_emod_of_nonneg h0.1]
          have q1 := Int.emod_nonneg r0 (show (H' : Int) ≠ 0 by omega)
          have q2 := Int.emod_lt_of_pos r0 (show (0 : Int) < (H' : Int) by omega)
          exact ⟨(r0 % (H' : Int)).toNat, by omega, by omega⟩
        rw [ha, w64_id (z := (H' : Int) - (a : Int)) (by omega) (by omega), chk_pos (by omega)]
        obtain ⟨n, hn, hn1, hn2⟩ : ∃ n : Nat, 1 + Int.tmod r1 ((H' : Int) - (a : Int)) = n ∧ 0 < n ∧ a + n ≤ H' := by
          rw [Int.tmod_eq_emod_of_nonneg h1.1]
          have q1 := Int.emod_nonneg r1 (show ((H' : Int) - (a : Int)) ≠ 0 by omega)
          have q2 := Int.emod_lt_of_pos r1 (show (0 : Int) < (H' : Int) - (a : Int) by omega)
          exact ⟨(1 + r1 % ((H' : Int) - (a : Int))).toNat, by omega, by omega, by omega⟩
        rw [hn, w64_id (z := (n : Int)) (by omega) (by omega), w64_id (z := (a : Int) + (n : Int)) (by omega) (by omega)]
        have hin : ∀ j, j < n * W' → a * W' + j < H' * W' := fun j hj => by
          have := Nat.mul_le_mul_right W' hn2
          rw [Nat.add_mul] at this
          omega
        have gp : Good W' n m (row (n * W') (fun j => ga (a * W' + j))) := good_of g1 hn1 (by omega) (fun j hj => good_at g1 (hin j hj))
        have gq : Good W' n m (row (n * W') (fun j => gb (a * W' + j))) := good_of g1 hn1 (by omega) (fun j hj => good_at g2 (hin j hj))
        have bp : B16 (fun j => ga (a * W' + j)) := fun j => ba _
        have bq : B16 (fun j => gb (a * W' + j)) := fun j => bb _
        have hcb2 := dif_CB bp bq W'
        have hck2 := check_cb W0 hn1 W1 (by omega : n ≤ 64) hcb2
        rw [crop_row W0 W1 H1 g1 hn1 hn2, crop_row W0 W1 H1 g2 hn1 hn2]
        simp only [Option.bind_some]
        rw [costs_eq W1 (by omega) bp bq (matched_ok gp gq)]
        simp only [Option.bind_some]
        rw [find_ok W0 hn1 W1 (by omega) hcb2.bnd hck2]
        simp only [Option.bind_some]
        rw [chk_pos (by omega), show ((a : Int) + (n : Int)).toNat = a + n by omega, show ((a : Int)).toNat = a by omega, total_part (d := dif ga gb W') hcs hn2]
        have hps := part_seam hcs hn2
        unfold seam_Total
        rw [hck2, Option.bind_some, if_neg (by decide)]
        have hS1 : Sm1 W' n (row n (fun y => (c (a + y) : Int))) := Sm1.row hps
        rcases total_eq W0 hn1 (by omega) (by omega) hcb2.bnd (row n (fun y => (c (a + y) : Int))) with ⟨_, et⟩ | ⟨hbad, _⟩
        · rw [et]
          simp only [Option.bind_some]
          have hle := lt_le (dif (fun j => ga (a * W' + j)) (fun j => gb (a * W' + j)) W') hn1 hS1.seam
          have e3 : ((w64 (w64 (w64 (w64 ((0 : Int) + 0) + 0) + 0) + 0)) == 0) = true := by decide
          rw [if_neg (by decide)]
          simp only [Option.bind_some]
          rw [if_pos e3, decide_eq_true hle]
        · exact absurd hS1 hbad
      · have hc4 : seam_Costs w h m px w' h' m' px' = some ([], 4) := by
          unfold seam_Costs
          rw [matched_no g1 g2 he, Option.bind_some, if_pos (by decide)]
        rw [hc4]
        rfl
    · rw [refcheck_bad g2]
      rfl
  · rw [refcheck_bad g1]
    rfl
end Go.Proofs.Ytbolefkhmfbnlaa
