/-
  PLAIN, chapter 50: raised rows, mirrored tables.
-/
import Derived.Test.YtomlpofoaokmdaaP50h
set_option linter.unusedSimpArgs false
set_option linter.unusedVariables false
namespace Go.Proofs.Ytomlpofoaokmdaa
open Go.E

def raise (c : Nat → Nat → Int) (j : Nat) (b : Int) : Nat → Nat → Int := fun y x => if y = j then c y x + b else c y x
def flip (c : Nat → Nat → Int) (W : Nat) : Nat → Nat → Int := fun y x => c y (W - 1 - x)

theorem Bl_raise {c : Nat → Nat → Int} {W j : Nat} {b : Int} : ∀ (n y x : Nat), x < W → Bl (raise c j b) W n y x = Bl c W n y x + (if y ≤ j ∧ j ≤ y + n then b else 0)
  | 0, y, x, hx => by
    simp only [Bl, raise]
    by_cases h : y = j
    · rw [if_pos h, if_pos (by omega)]
    · rw [if_neg h, if_neg (by omega)]; omega
  | n + 1, y, x, hx => by
    simp only [Bl]
    rw [nb_congr (f := Bl c W n (y + 1)) hx (fun z hz => Bl_raise n (y + 1) z hz)]
    unfold raise
    by_cases h : y = j
    · rw [if_pos h, if_neg (by omega), if_pos (by omega)]; omega
    · rw [if_neg h]
      by_cases h2 : y + 1 ≤ j ∧ j ≤ y + 1 + n
      · rw [if_pos h2, if_pos (by omega)]; omega
      · rw [if_neg h2, if_neg (by omega)]; omega

theorem col_raise {c : Nat → Nat → Int} {W H j : Nat} {b : Int} (hW : 0 < W) : ∀ y, col (raise c j b) W H y = col c W H y
  | 0 => am_congr fun z _ h2 => Bl_raise (H - 1) 0 z (by omega)
  | y + 1 => by
    have ih := col_raise (c := c) (H := H) (j := j) (b := b) hW y
    simp only [col]
    rw [ih]
    exact am_congr fun z h1 h2 => Bl_raise _ _ z ((wd_iff (col_lt c hW H y)).1 ⟨h1, h2⟩).1
theorem lt_raise {c : Nat → Nat → Int} {W H j : Nat} {b : Int} (hW : 0 < W) (hj : j < H) : lt (raise c j b) W H = lt c W H + b := by
  unfold lt
  rw [col_raise hW, Bl_raise _ _ _ (col_lt c hW H 0), if_pos (by omega)]

theorem flip_seam {W H : Nat} {r : Nat → Nat} (h : IsSeam W H r) : IsSeam W H (fun y => W - 1 - r y) := by
  refine ⟨fun y hy => by have := h.1 y hy; show W - 1 - r y < W; omega, fun y hy => ?_⟩
  have h1 := h.1 y (by omega)
  have h2 := h.1 (y + 1) hy
  have h3 := h.2 y hy
  dsimp only
  omega
theorem lt_flip {c : Nat → Nat → Int} {W H : Nat} (hW : 0 < W) (hH : 0 < H) : lt (flip c W) W H = lt c W H := by
  have a1 := lt_le (flip c W) hH (flip_seam (col_seam c hW H))
  have a2 : ss (flip c W) (fun y => W - 1 - col c W H y) H = ss c (col c W H) H := ss_eq H fun y hy => by
    have := col_lt c hW H y
    unfold flip
    rw [show W - 1 - (W - 1 - col c W H y) = col c W H y by omega]
  have a3 := lt_le c hH (flip_seam (col_seam (flip c W) hW H))
  have a4 : ss c (fun y => W - 1 - col (flip c W) W H y) H = ss (flip c W) (col (flip c W) W H) H := ss_eq H fun y hy => rfl
  rw [a2, col_total c hW hH] at a1
  rw [a4, col_total (flip c W) hW hH] at a3
  omega

/-! ### The loops -/

def half (f : Nat → Int) (W k : Nat) : Nat → Int := fun z => if z < k ∨ W - 1 - k < z then f (W - 1 - z) else f z

theorem rev_loop {W : Nat} (hW0 : 0 < W) (hW : W ≤ 1000) (f : Nat → Int) : loopM FUEL (fun s : List Int × Int × Int => fiduciallaw50_SeamShifts_s2 s.1 s.2.1 s.2.2) (row W f, 0, w64 ((W : Int) - 1)) = some (row W (fun x => f (W - 1 - x))) := by
  rw [w64_id (by omega) (by omega)]
  refine loop_go (fun k => (row W (half f W k), (k : Int), (W : Int) - 1 - (k : Int))) (W / 2) (by unfold FUEL; omega) ?_ (fun k hk => ?_) ?_
  · show (row W f, (0 : Int), (W : Int) - 1) = (row W (half f W 0), ((0 : Nat) : Int), (W : Int) - 1 - ((0 : Nat) : Int))
    rw [show row W f = row W (half f W 0) from row_congr fun z hz => by unfold half; rw [if_neg (by omega)]]
    simp
  · show fiduciallaw50_SeamShifts_s2 (row W (half f W k)) (k : Int) ((W : Int) - 1 - (k : Int)) = some (Step.next (_, ((k + 1 : Nat) : Int), (W : Int) - 1 - ((k + 1 : Nat) : Int)))
    unfold fiduciallaw50_SeamShifts_s2
    have e1 : ix (row W (half f W k)) ((W : Int) - 1 - (k : Int)) = some (f (W - 1 - k)) := by
      rw [row_ix W _ (x := W - 1 - k) (by omega) (by omega)]
      unfold half
      rw [if_neg (by omega)]
    have e2 : ix (row W (half f W k)) (k : Int) = some (f k) := by
      rw [row_ix W _ (x := k) rfl (by omega)]
      unfold half
      rw [if_neg (by omega)]
    rw [if_pos (by simp; omega), e1, Option.bind_some, e2, Option.bind_some, chk_pos (by rw [row_len]; omega), chk_pos (by rw [List.length_set, row_len]; omega), w64_id (by omega) (by omega), w64_id (by omega) (by omega)]
    have e3 : ((row W (half f W k)).set ((k : Int)).toNat (f (W - 1 - k))).set ((W : Int) - 1 - (k : Int)).toNat (f k) = row W (half f W (k + 1)) := by
      rw [show ((k : Int)).toNat = k by omega, show ((W : Int) - 1 - (k : Int)).toNat = W - 1 - k by omega]
      apply List.ext_getElem?
      intro z
      by_cases hz : z < W
      · rw [row_get _ _ hz, List.getElem?_set, List.length_set, row_len]
        by_cases h1 : W - 1 - k = z
        · rw [if_pos h1, if_pos (by omega)]
          unfold half
          rw [if_pos (by omega), ← h1, show W - 1 - (W - 1 - k) = k by omega]
        · rw [if_neg h1, List.getElem?_set, row_len]
          by_cases h2 : k = z
          · rw [if_pos h2, if_pos (by omega)]
            unfold half
            rw [if_pos (by omega), ← h2]
          · rw [if_neg h2, row_get _ _ hz]
            unfold half
            by_cases h3 : z < k ∨ W - 1 - k < z
            · rw [if_pos h3, if_pos (by omega)]
            · rw [if_neg h3, if_neg (by omega)]
      · rw [List.getElem?_eq_none (by simp only [List.length_set, row_len]; omega), List.getElem?_eq_none (by rw [row_len]; omega)]
    rw [e3]
    congr 4
    omega
  · show fiduciallaw50_SeamShifts_s2 (row W (half f W (W / 2))) ((W / 2 : Nat) : Int) ((W : Int) - 1 - ((W / 2 : Nat) : Int)) = _
    unfold fiduciallaw50_SeamShifts_s2
    rw [if_neg (by simp; omega)]
    congr 2
    refine row_congr fun z hz => ?_
    unfold half
    by_cases h : z < W / 2 ∨ W - 1 - W / 2 < z
    · rw [if_pos h]
    · rw [if_neg h]
      congr 1
      omega

theorem shiftT {W H j : Nat} {b : Int} (hW0 : 0 < W) (hW : W ≤ 64) (hH : H ≤ 64) {c : Nat → Nat → Int} (hcb : CB W c) (hb : 0 ≤ b ∧ b < 256) :
    loopM FUEL (fun s : List (List Int) × List (List Int) × Int => fiduciallaw50_SeamShifts_s1 (tbl W H c) (j : Int) b s.1 s.2.1 s.2.2) ([], [], 0) = some (tbl W H (raise c j b), tbl W H (flip c W)) := by
  refine loop_go (fun i => (tbl W i (raise c j b), tbl W i (flip c W), (i : Int))) H (by unfold FUEL; omega) rfl (fun i hi => ?_) ?_
  · show fiduciallaw50_SeamShifts_s1 (tbl W H c) (j : Int) b (tbl W i (raise c j b)) (tbl W i (flip c W)) (i : Int) = _
    unfold fiduciallaw50_SeamShifts_s1
    rw [tbl_len, if_pos (by simpa using hi), tbl_ix W H c rfl hi, Option.bind_some, clone_eq _ (by rw [row_len]; omega), Option.bind_some, Option.bind_some, row_len, rev_loop hW0 (by omega), Option.bind_some]
    have : loopM FUEL (fun s : List Int × Int => fiduciallaw50_SeamShifts_s3 (j : Int) b (i : Int) (row W (c i)) s.1 s.2) (row W (c i), 0) = some (row W (raise c j b i)) := by
      refine setrow (by omega) (fun x hx => ?_) (fun l => ?_)
      · show fiduciallaw50_SeamShifts_s3 (j : Int) b (i : Int) (row W (c i)) (row W (mixf (c i) (raise c j b i) x)) (x : Int) = _
        unfold fiduciallaw50_SeamShifts_s3
        rw [row_len, if_pos (by simpa using hx), w64_id (z := (x : Int) + 1) (by omega) (by omega)]
        by_cases h : i = j
        · have hc := hcb i x hx
          rw [if_pos (by simp [h]), row_ix W _ rfl hx, mixf_at, Option.bind_some, chk_pos (by rw [row_len]; omega), Option.bind_some, w64_id (z := b) (by omega) (by omega), w64_id (z := c i x + b) (by omega) (by omega)]
          rw [show c i x + b = raise c j b i x by unfold raise; rw [if_pos h], show ((x : Int)).toNat = x by omega, mixf_set _ _ hx]
          rfl
        · rw [if_neg (by simp; omega), Option.bind_some, mixf_same _ _ (x := x) (by unfold raise; rw [if_neg h])]
          rfl
      · show fiduciallaw50_SeamShifts_s3 (j : Int) b (i : Int) (row W (c i)) l (W : Int) = _
        unfold fiduciallaw50_SeamShifts_s3
        rw [row_len, if_neg (by simp)]
    rw [this, Option.bind_some, tbl_len, tbl_len, chk_pos (by omega), chk_pos (by omega), w64_id (by omega) (by omega)]
    show some (Step.next (_, _, _)) = some (Step.next (tbl W (i + 1) (raise c j b), tbl W (i + 1) (flip c W), ((i + 1 : Nat) : Int)))
    rw [tbl_succ W i, tbl_succ W i]
    rfl
  · show fiduciallaw50_SeamShifts_s1 (tbl W H c) (j : Int) b (tbl W H (raise c j b)) (tbl W H (flip c W)) (H : Int) = _
    unfold fiduciallaw50_SeamShifts_s1
    rw [tbl_len, if_neg (by simp)]

theorem shifts_true (t : List (List Int)) (y b : Int) (hb : 0 ≤ b ∧ b < 256) : fiduciallaw50_SeamShifts t y b = some true := by
  unfold fiduciallaw50_SeamShifts
  rw [known_true, Option.bind_some, if_neg (by decide), few_eq, Option.bind_some]
  cases hf : few t with
  | false => rfl
  | true =>
    rw [if_neg (by decide), checked_eq]
    rcases check_few hf with ⟨W, H, c, rfl, h1, h2, h3, h4, hcb, hc⟩ | ⟨k, hk, hc⟩
    · rw [hc, Option.bind_some, if_neg (by decide)]
      by_cases hy0 : y < 0
      · rw [if_pos (by simpa using hy0)]; rfl
      rw [if_neg (by simpa using hy0), tbl_len, Option.bind_some]
      by_cases hy1 : (H : Int) ≤ y
      · rw [if_pos (by simpa using hy1)]
      rw [if_neg (by simpa using hy1)]
      obtain ⟨j, rfl⟩ : ∃ j : Nat, y = j := ⟨y.toNat, by omega⟩
      have hcf : CB W (flip c W) := fun y x hx => hcb y _ (by omega)
      have hbr : Bnd W (raise c j b) := fun y x hx => by
        have := hcb y x hx
        unfold raise
        split <;> omega
      rw [shiftT h1 (by omega) (by omega) hcb hb]
      simp only [Option.bind_some]
      rw [find_ok h1 h3 (by omega) (by omega) hcb.bnd hc, find_ok h1 h3 (by omega) (by omega) hcf.bnd (check_cb h1 h3 (by omega) (by omega) hcf), lt_flip h1 h3]
      simp only [Option.bind_some]
      have hl := BlT_bound (H := H) hcb.bnd (by omega) 0 (col_lt c h1 H 0)
      have hl2 : BlT c W H 0 (col c W H 0) = lt c W H := rfl
      rw [hl2] at hl
      rcases check_tab h1 h3 (by omega) (by omega) (raise c j b) with ⟨e, _⟩ | ⟨e, _⟩
      · rw [find_ok h1 h3 (by omega) (by omega) hbr e, lt_raise h1 (by omega)]
        simp only [Option.bind_some]
        have ec : colL (raise c j b) W H H = colL c W H H := row_congr fun z hz => by rw [col_raise h1]
        rw [checked_eq, e, if_neg (by decide), if_neg (by decide)]
        simp only [Option.bind_some]
        rw [ec, equal_self _ (by unfold colL; rw [row_len]; omega), w64_id (z := b) (by omega) (by omega), w64_id (by omega) (by omega)]
        simp
      · rw [find_bad (by decide) e]
        simp only [Option.bind_some]
        rw [checked_eq, e]
        simp
    · rw [hc, Option.bind_some, if_pos (by simpa using hk)]; rfl
end Go.Proofs.Ytomlpofoaokmdaa
