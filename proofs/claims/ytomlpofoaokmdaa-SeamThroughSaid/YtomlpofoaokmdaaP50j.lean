/-
  PLAIN, chapter 50: seams through a place.
-/
import Derived.Test.YtomlpofoaokmdaaP50h
set_option linter.unusedSimpArgs false
set_option linter.unusedVariables false
namespace Go.Proofs.Ytomlpofoaokmdaa
open Go.E

def thA (Y X : Nat) : Nat → Nat → Bool := fun j i => !decide (j = Y) || decide (i = X)
def thC (c : Nat → Nat → Int) (Y X : Nat) : Nat → Nat → Int := al (thA Y X) c

theorem thC_eq (c : Nat → Nat → Int) (Y X y x : Nat) : thC c Y X y x = if y = Y ∧ x ≠ X then 1099511627776 else c y x := by
  unfold thC al thA
  by_cases h1 : y = Y <;> by_cases h2 : x = X <;> simp [h1, h2]

theorem thC_ge {c : Nat → Nat → Int} {W : Nat} (hcb : CB W c) (Y X y x : Nat) (hx : x < W) : c y x ≤ thC c Y X y x := by
  rw [thC_eq]
  have := hcb y x hx
  split <;> omega

theorem th_col {c : Nat → Nat → Int} {W H Y X : Nat} (hW : 0 < W) (hH : H ≤ 7) (hcb : CB W c) (hY : Y < H) (hX : X < W) : col (thC c Y X) W H Y = X := by
  refine Classical.byContradiction fun hn => ?_
  have hs : IsSeam W H (fun _ => X) := ⟨fun _ _ => hX, fun _ _ => by dsimp only; omega⟩
  have h1 := lt_le (thC c Y X) (by omega) hs
  have h2 : ss (thC c Y X) (fun _ => X) H = ss c (fun _ => X) H := ss_eq H fun y hy => by rw [thC_eq, if_neg (by omega)]
  have h3 := (ss_bound (c := c) (r := fun _ => X) (K := 1048576) H (fun y hy => hcb y X hX)).2
  have h4 : (H : Int) * 1048576 ≤ 7 * 1048576 := Int.mul_le_mul_of_nonneg_right (by omega) (by omega)
  have h5 := ss_ge (c := thC c Y X) (r := col (thC c Y X) W H) (j := Y) H hY (fun y hy => by
    have hl := col_lt (thC c Y X) hW H y
    have := hcb y _ hl
    have := thC_ge hcb Y X y _ hl
    omega)
  rw [thC_eq, if_pos ⟨rfl, hn⟩, col_total _ hW (by omega)] at h5
  omega
theorem th_total {c : Nat → Nat → Int} {W H Y X : Nat} (hW : 0 < W) (hH : H ≤ 7) (hcb : CB W c) (hY : Y < H) (hX : X < W) : ss c (col (thC c Y X) W H) H = lt (thC c Y X) W H := by
  rw [← col_total (thC c Y X) hW (by omega : 0 < H)]
  refine ss_eq H fun y hy => ?_
  rw [thC_eq]
  by_cases h : y = Y
  · subst h
    rw [th_col hW hH hcb hY hX, if_neg (by omega)]
  · rw [if_neg (by omega)]
theorem th_ge {c : Nat → Nat → Int} {W H Y X : Nat} (hW : 0 < W) (hcb : CB W c) (hY : Y < H) : lt c W H ≤ lt (thC c Y X) W H := by
  have h1 := lt_le c (by omega : 0 < H) (col_seam (thC c Y X) hW H)
  have h2 := ss_le (c := c) (d := thC c Y X) (r := col (thC c Y X) W H) H (fun y _ => thC_ge hcb Y X y _ (col_lt _ hW H y))
  rw [col_total _ hW (by omega)] at h2
  omega
theorem th_hit {c : Nat → Nat → Int} {W H Y : Nat} (hW : 0 < W) (hcb : CB W c) (hY : Y < H) : lt (thC c Y (col c W H Y)) W H = lt c W H := by
  have h1 := lt_le (thC c Y (col c W H Y)) (by omega : 0 < H) (col_seam c hW H)
  have h2 : ss (thC c Y (col c W H Y)) (col c W H) H = ss c (col c W H) H := ss_eq H fun y hy => by
    rw [thC_eq]
    by_cases h : y = Y
    · subst h; rw [if_neg (by omega)]
    · rw [if_neg (by omega)]
  rw [h2, col_total c hW (by omega)] at h1
  have := th_ge (X := col c W H Y) hW hcb hY
  omega

theorem thr_eq {c : Nat → Nat → Int} {W H Y X : Nat} (hW0 : 0 < W) (hW : W ≤ 7) (hH : H ≤ 7) (hcb : CB W c) (hc : seam_Check (tbl W H c) = some 0) (hY : Y < H) (hX : X < W) :
    seam_Through (tbl W H c) (Y : Int) (X : Int) = some (colL (thC c Y X) W H H, lt (thC c Y X) W H, [], 0) := by
  unfold seam_Through
  rw [hc, Option.bind_some, if_neg (by decide), if_neg (by simp), tbl_len, if_neg (by simp; omega), if_neg (by simp), tbl_ix0 W c (by omega), Option.bind_some, row_len, decide_eq_false (by omega), Option.bind_some, if_neg (by decide),
    first_eq (A := thA Y X) hW0 (by omega) (by omega) (by omega) hcb.bnd (fun y x hy hx => by
      unfold seam_Through_c1 thA
      by_cases h : y = Y
      · rw [if_neg (by simp [h]), decide_eq_true h]
        by_cases h2 : x = X
        · simp [h2]
        · have : ¬ ((x : Int) = X) := by omega
          simp [h2, this]
      · rw [if_pos (by simp only [bne_iff_ne, ne_eq]; omega), decide_eq_false h]; rfl)]
  rfl
theorem thr_out {c : Nat → Nat → Int} {W H : Nat} {Y X : Int} (hH0 : 0 < H) (hc : seam_Check (tbl W H c) = some 0) (h : Y < 0 ∨ (H : Int) ≤ Y ∨ X < 0 ∨ (W : Int) ≤ X) : seam_Through (tbl W H c) Y X = some ([], 0, [], 2) := by
  unfold seam_Through
  rw [hc, Option.bind_some, if_neg (by decide), tbl_len]
  have e : (if decide (Y < 0) = true then some true else if decide ((H : Int) ≤ Y) = true then some true else if decide (X < 0) = true then some true else (ix (tbl W H c) 0).bind fun v_7 => some (decide ((v_7.length : Int) ≤ X))) = some true := by
    by_cases h1 : Y < 0
    · rw [if_pos (decide_eq_true h1)]
    rw [if_neg (by simpa using h1)]
    by_cases h2 : (H : Int) ≤ Y
    · rw [if_pos (decide_eq_true h2)]
    rw [if_neg (by simpa using h2)]
    by_cases h3 : X < 0
    · rw [if_pos (decide_eq_true h3)]
    rw [if_neg (by simpa using h3), tbl_ix0 W c hH0, Option.bind_some, row_len, decide_eq_true (by omega)]
  rw [e]
  rfl

theorem thT {W H Y X : Nat} (hW0 : 0 < W) (hH0 : 0 < H) (hW : W ≤ 64) (hH : H ≤ 64) {c : Nat → Nat → Int} (hcb : CB W c) : fiduciallaw50_through (tbl W H c) (Y : Int) (X : Int) = some (colL (thC c Y X) W H H, lt (thC c Y X) W H) := by
  unfold fiduciallaw50_through
  have : loopM FUEL (fun s : List (List Int) × Int => fiduciallaw50_through_s1 (tbl W H c) (Y : Int) (X : Int) s.1 s.2) ([], 0) = some (tbl W H (thC c Y X)) := by
    refine loop_go (fun i => (tbl W i (thC c Y X), (i : Int))) H (by unfold FUEL; omega) rfl (fun i hi => ?_) ?_
    · show fiduciallaw50_through_s1 (tbl W H c) (Y : Int) (X : Int) (tbl W i (thC c Y X)) (i : Int) = _
      unfold fiduciallaw50_through_s1
      rw [tbl_len, if_pos (by simpa using hi), tbl_ix W H c rfl hi, Option.bind_some, clone_eq _ (by rw [row_len]; omega), Option.bind_some]
      have : loopM FUEL (fun s : List Int × Int => fiduciallaw50_through_s2 (Y : Int) (X : Int) (i : Int) (row W (c i)) s.1 s.2) (row W (c i), 0) = some (row W (thC c Y X i)) := by
        refine setrow (by omega) (fun x hx => ?_) (fun l => ?_)
        · show fiduciallaw50_through_s2 (Y : Int) (X : Int) (i : Int) (row W (c i)) (row W (mixf (c i) (thC c Y X i) x)) (x : Int) = _
          unfold fiduciallaw50_through_s2
          rw [row_len, if_pos (by simpa using hx), w64_id (z := (x : Int) + 1) (by omega) (by omega)]
          have e : (if ((i : Int) == (Y : Int)) = true then some ((x : Int) != (X : Int)) else some false) = some (decide (i = Y ∧ x ≠ X)) := by
            by_cases h1 : i = Y
            · rw [if_pos (by simp [h1])]
              by_cases h2 : x = X
              · simp [h1, h2]
              · have : ¬ ((x : Int) = X) := by omega
                simp [h1, h2, this]
            · rw [if_neg (by simp; omega)]
              simp [h1]
          rw [e, Option.bind_some]
          by_cases h : i = Y ∧ x ≠ X
          · rw [if_pos (decide_eq_true h), chk_pos (by rw [row_len]; omega), Option.bind_some]
            have e2 := thC_eq c Y X i x
            rw [if_pos h] at e2
            rw [← e2, show ((x : Int)).toNat = x by omega, mixf_set _ _ hx]
            rfl
          · rw [if_neg (by simpa using h), Option.bind_some, mixf_same _ _ (x := x) (by rw [thC_eq, if_neg h])]
            rfl
        · show fiduciallaw50_through_s2 (Y : Int) (X : Int) (i : Int) (row W (c i)) l (W : Int) = _
          unfold fiduciallaw50_through_s2
          rw [row_len, if_neg (by simp)]
      rw [this, Option.bind_some, tbl_len, chk_pos (by omega), w64_id (by omega) (by omega)]
      show some (Step.next (_, _)) = some (Step.next (tbl W (i + 1) (thC c Y X), ((i + 1 : Nat) : Int)))
      rw [tbl_succ W i]
      rfl
    · show fiduciallaw50_through_s1 (tbl W H c) (Y : Int) (X : Int) (tbl W H (thC c Y X)) (H : Int) = _
      unfold fiduciallaw50_through_s1
      rw [tbl_len, if_neg (by simp)]
  rw [this, Option.bind_some, least2_eq (c := thC c Y X) hW0 hH0 (by omega) (by omega) (al_bnd hcb.bnd _)]
  rfl

def fnd (c : Nat → Nat → Int) (W H Y : Nat) : Nat → Bool
  | 0 => false
  | i + 1 => fnd c W H Y i || decide (lt (thC c Y i) W H = lt c W H)
theorem fnd_true {c : Nat → Nat → Int} {W H Y x : Nat} (hx : lt (thC c Y x) W H = lt c W H) : ∀ i, x < i → fnd c W H Y i = true
  | i + 1, h => by
    simp only [fnd]
    by_cases hq : x = i
    · subst hq; rw [decide_eq_true hx, Bool.or_true]
    · rw [fnd_true hx i (by omega), Bool.true_or]

theorem thL {c : Nat → Nat → Int} {W H Y : Nat} (hW0 : 0 < W) (hW : W ≤ 7) (hH : H ≤ 7) (hcb : CB W c) (hc : seam_Check (tbl W H c) = some 0) (hY : Y < H) :
    loopM FUEL (fun s : Bool × Int => fiduciallaw50_SeamThrough_s1 (tbl W H c) (Y : Int) (lt c W H) (row W (c 0)) s.1 s.2) (false, 0) = some (.inr (fnd c W H Y W)) := by
  refine loop_go (fun i => (fnd c W H Y i, (i : Int))) W (by unfold FUEL; omega) rfl (fun i hi => ?_) ?_
  · show fiduciallaw50_SeamThrough_s1 (tbl W H c) (Y : Int) (lt c W H) (row W (c 0)) (fnd c W H Y i) (i : Int) = _
    unfold fiduciallaw50_SeamThrough_s1
    rw [row_len, if_pos (by simpa using hi), thr_eq hW0 hW hH hcb hc hY hi]
    simp only [Option.bind_some]
    have hge := th_ge (X := i) hW0 hcb hY
    rw [if_neg (by decide), decide_eq_false (by omega), Option.bind_some, if_neg (by decide), w64_id (by omega) (by omega)]
    have e : (if fnd c W H Y i = true then some true else some (lt (thC c Y i) W H == lt c W H)) = some (fnd c W H Y (i + 1)) := by
      simp only [fnd]
      cases fnd c W H Y i
      · rw [if_neg (by decide), Bool.false_or]
        by_cases hq : lt (thC c Y i) W H = lt c W H
        · rw [decide_eq_true hq, beq_iff_eq.2 hq]
        · rw [decide_eq_false hq, beq_eq_false_iff_ne.2 hq]
      · rfl
    rw [e]
    rfl
  · show fiduciallaw50_SeamThrough_s1 (tbl W H c) (Y : Int) (lt c W H) (row W (c 0)) (fnd c W H Y W) (W : Int) = _
    unfold fiduciallaw50_SeamThrough_s1
    rw [row_len, if_neg (by simp)]

theorem none_nil : fiduciallaw50_none [] 0 [] = some true := rfl

theorem through_true (t : List (List Int)) (y x : Int) : fiduciallaw50_SeamThrough t y x = some true := by
  unfold fiduciallaw50_SeamThrough
  rw [known_true, Option.bind_some, if_neg (by decide), few_eq, Option.bind_some]
  cases hf : few t with
  | false => rfl
  | true =>
    rw [if_neg (by decide), checked_eq]
    rcases check_few hf with ⟨W, H, c, rfl, h1, h2, h3, h4, hcb, hc⟩ | ⟨k, hk, hc⟩
    · rw [hc]
      by_cases ho : y < 0 ∨ (H : Int) ≤ y ∨ x < 0 ∨ (W : Int) ≤ x
      · rw [thr_out h3 hc ho]
        have e : (if ((0 : Int) == 0) = true then if decide (y < 0) = true then some true else if decide (((tbl W H c).length : Int) ≤ y) = true then some true else if decide (x < 0) = true then some true else (ix (tbl W H c) 0).bind fun v_30 => some (decide ((v_30.length : Int) ≤ x)) else some false) = some true := by
          rw [if_pos (by decide), tbl_len]
          by_cases q1 : y < 0
          · rw [if_pos (decide_eq_true q1)]
          rw [if_neg (by simpa using q1)]
          by_cases q2 : (H : Int) ≤ y
          · rw [if_pos (decide_eq_true q2)]
          rw [if_neg (by simpa using q2)]
          by_cases q3 : x < 0
          · rw [if_pos (decide_eq_true q3)]
          rw [if_neg (by simpa using q3), tbl_ix0 W c h3, Option.bind_some, row_len, decide_eq_true (by omega)]
        simp only [Option.bind_some]
        rw [e]
        rfl
      · obtain ⟨Y, rfl⟩ : ∃ Y : Nat, y = Y := ⟨y.toNat, by omega⟩
        obtain ⟨X, rfl⟩ : ∃ X : Nat, x = X := ⟨x.toNat, by omega⟩
        have e : (if ((0 : Int) == 0) = true then if decide ((Y : Int) < 0) = true then some true else if decide (((tbl W H c).length : Int) ≤ (Y : Int)) = true then some true else if decide ((X : Int) < 0) = true then some true else (ix (tbl W H c) 0).bind fun v_30 => some (decide ((v_30.length : Int) ≤ (X : Int))) else some false) = some false := by
          rw [if_pos (by decide), tbl_len, if_neg (by simp), if_neg (by simp; omega), if_neg (by simp), tbl_ix0 W c h3, Option.bind_some, row_len, decide_eq_false (by omega)]
        rw [thr_eq h1 h2 h4 hcb hc (by omega) (by omega), thT h1 h3 (by omega) (by omega) hcb, find_ok h1 h3 (by omega) (by omega) hcb.bnd hc]
        simp only [Option.bind_some]
        rw [e]
        simp only [Option.bind_some]
        rw [if_neg (by decide)]
        simp only [Option.bind_some]
        rw [if_neg (by decide), if_neg (by decide), equal_self _ (by unfold colL; rw [row_len]; omega)]
        simp only [Option.bind_some]
        rw [if_neg (by decide), total2_eq (by omega) hcb.bnd (colL_good h1), colL_ss, th_total h1 h4 hcb (by omega) (by omega)]
        simp only [Option.bind_some]
        rw [if_neg (by simp)]
        simp only [Option.bind_some]
        rw [if_neg (by decide), if_neg (by decide), tbl_ix0 W c h3]
        simp only [Option.bind_some]
        rw [thL h1 h2 h4 hcb hc (by omega)]
        show some (fnd c W H Y W) = _
        rw [fnd_true (th_hit h1 hcb (by omega)) W (col_lt c h1 H Y)]
    · have e : seam_Through t y x = some ([], 0, [], k) := by
        unfold seam_Through
        rw [hc, Option.bind_some, if_pos (by simpa using hk)]
      have hk2 : (k == 0) = false := beq_eq_false_iff_ne.2 hk
      rw [e, hc]
      simp only [Option.bind_some]
      rw [hk2, if_neg (by decide)]
      simp only [Option.bind_some]
      rw [if_neg (by decide)]
      simp only [Option.bind_some]
      rw [if_pos (by simpa using hk), if_pos (by simp), none_nil]
      rfl
end Go.Proofs.Ytomlpofoaokmdaa
