/-
  PLAIN, chapter 50: totals of columns; Find.
-/
import Derived.Test.YtomlpofoaokmdaaP50d
set_option linter.unusedSimpArgs false
set_option linter.unusedVariables false
namespace Go.Proofs.Ytomlpofoaokmdaa
open Go.E

/-- Column y of a list. -/
def cg (l : List Int) (y : Nat) : Int := l.getD y 0
/-- The place y of the columns l is none of a seam. -/
def bad (W : Nat) (l : List Int) (y : Nat) : Prop := cg l y < 0 ∨ (W : Int) ≤ cg l y ∨ (0 < y ∧ (cg l y < cg l (y - 1) - 1 ∨ cg l (y - 1) + 1 < cg l y))
def cr (l : List Int) (y : Nat) : Nat := (cg l y).toNat
/-- The columns l are a seam. -/
def Sm1 (W H : Nat) (l : List Int) : Prop := l.length = H ∧ ∀ y, y < H → ¬ bad W l y
theorem Sm1.seam {W H : Nat} {l : List Int} (h : Sm1 W H l) : IsSeam W H (cr l) := by
  refine ⟨fun y hy => ?_, fun y hy => ?_⟩
  · have := h.2 y hy
    unfold bad at this
    unfold cr
    omega
  · have h1 := h.2 y (by omega)
    have h2 := h.2 (y + 1) hy
    unfold bad at h1 h2
    rw [Nat.add_sub_cancel] at h2
    unfold cr
    omega
theorem cg_ix {l : List Int} {y : Nat} {z : Int} (hz : z = y) (hy : y < l.length) : ix l z = some (cg l y) := ix_getD hz hy 0

theorem Sm1.row {W H : Nat} {r : Nat → Nat} (h : IsSeam W H r) : Sm1 W H (row H (fun y => (r y : Int))) := by
  have hg : ∀ y, y < H → cg (Go.E.row H (fun y => (r y : Int))) y = r y := fun y hy => by
    unfold cg
    rw [List.getD_eq_getElem?_getD, row_get _ _ hy]; rfl
  refine ⟨row_len _ _, fun y hy => ?_⟩
  unfold bad
  rw [hg y hy]
  have h1 := h.1 y hy
  rintro (h2 | h2 | ⟨h2, h3⟩)
  · omega
  · omega
  · rw [hg (y - 1) (by omega)] at h3
    have h4 := h.2 (y - 1) (by omega)
    rw [show y - 1 + 1 = y by omega] at h4
    omega
theorem cr_row {H : Nat} {r : Nat → Nat} {y : Nat} (hy : y < H) : cr (row H (fun y => (r y : Int))) y = r y := by
  unfold cr cg
  rw [List.getD_eq_getElem?_getD, row_get _ _ hy]
  show ((r y : Int)).toNat = _
  omega

theorem badE_step {W H : Nat} (hH0 : 0 < H) {c : Nat → Nat → Int} {l : List Int} {i : Nat} (hl : l.length = H) (hi : i < H) (hg : ∀ j, j < i → ¬ bad W l j) (hW : W ≤ 1000) (hH : H ≤ 1000) :
    ((if decide (cg l i < 0) = true then some true else (ix (tbl W H c) (i : Int)).bind fun v_8 => (if decide ((v_8.length : Int) ≤ cg l i) = true then some true else (if decide (0 < (i : Int)) = true then (ix l (w64 ((i : Int) - 1))).bind fun v_9 => (if decide (cg l i < (w64 (v_9 - 1))) = true then some true else (ix l (w64 ((i : Int) - 1))).bind fun v_10 => some (decide ((w64 (v_10 + 1)) < cg l i))) else some false))) = some true ∧ bad W l i) ∨
    ((if decide (cg l i < 0) = true then some true else (ix (tbl W H c) (i : Int)).bind fun v_8 => (if decide ((v_8.length : Int) ≤ cg l i) = true then some true else (if decide (0 < (i : Int)) = true then (ix l (w64 ((i : Int) - 1))).bind fun v_9 => (if decide (cg l i < (w64 (v_9 - 1))) = true then some true else (ix l (w64 ((i : Int) - 1))).bind fun v_10 => some (decide ((w64 (v_10 + 1)) < cg l i))) else some false))) = some false ∧ ¬ bad W l i) := by
  unfold bad
  by_cases h1 : cg l i < 0
  · rw [if_pos (decide_eq_true h1)]; exact .inl ⟨rfl, .inl h1⟩
  rw [if_neg (by simpa using h1), tbl_ix W H c rfl hi, Option.bind_some, row_len]
  by_cases h2 : (W : Int) ≤ cg l i
  · rw [if_pos (decide_eq_true h2)]; exact .inl ⟨rfl, .inr (.inl h2)⟩
  rw [if_neg (by simpa using h2)]
  by_cases h3 : 0 < i
  · have hp := hg (i - 1) (by omega)
    unfold bad at hp
    rw [if_pos (by simpa using h3), w64_id (z := (i : Int) - 1) (by omega) (by omega), cg_ix (y := i - 1) (by omega) (by omega), Option.bind_some, w64_id (z := cg l (i - 1) - 1) (by omega) (by omega)]
    by_cases h4 : cg l i < cg l (i - 1) - 1
    · rw [if_pos (decide_eq_true h4)]; exact .inl ⟨rfl, .inr (.inr ⟨h3, .inl h4⟩)⟩
    rw [if_neg (by simpa using h4), Option.bind_some, w64_id (by omega) (by omega)]
    by_cases h5 : cg l (i - 1) + 1 < cg l i
    · rw [decide_eq_true h5]; exact .inl ⟨rfl, .inr (.inr ⟨h3, .inr h5⟩)⟩
    · rw [decide_eq_false h5]; exact .inr ⟨rfl, by omega⟩
  · rw [if_neg (by simpa using h3)]
    exact .inr ⟨rfl, by omega⟩

theorem ss_small {W : Nat} {c : Nat → Nat → Int} (hb : Bnd W c) {r : Nat → Nat} {n : Nat} (hn : n ≤ 1000) (hr : ∀ y, y < n → r y < W) : 0 ≤ ss c r n ∧ ss c r n ≤ 1099511627776000 := by
  have h := ss_bound (c := c) (r := r) (K := 1099511627776) n (fun y hy => hb y _ (hr y hy))
  have e : (n : Int) * 1099511627776 ≤ 1000 * 1099511627776 := Int.mul_le_mul_of_nonneg_right (by omega) (by omega)
  omega

theorem cr_lt {W : Nat} {l : List Int} {y : Nat} (h : ¬ bad W l y) : cr l y < W ∧ cg l y = (cr l y : Int) := by
  unfold bad at h
  unfold cr
  omega

theorem total_eq {W H : Nat} (hW0 : 0 < W) (hH0 : 0 < H) (hW : W ≤ 1000) (hH : H ≤ 1000) {c : Nat → Nat → Int} (hb : Bnd W c) (l : List Int) :
    (Sm1 W H l ∧ seam_total (tbl W H c) l = some (ss c (cr l) H, true)) ∨ (¬ Sm1 W H l ∧ seam_total (tbl W H c) l = some (0, false)) := by
  unfold seam_total
  rw [tbl_len]
  by_cases hl : l.length = H
  · rw [if_neg (by simp [hl])]
    rcases loop_first (step := fun s : Int × Int => seam_total_s1 (tbl W H c) l s.1 s.2) (fun i => (ss c (cr l) i, (i : Int))) (fun i => ∃ j, j ≤ i ∧ bad W l j) (fun _ => .inl (0, false)) (.inr (ss c (cr l) H)) H (s0 := (0, 0)) (by unfold FUEL; omega) rfl
      (fun i hi hp => by
        show seam_total_s1 (tbl W H c) l (ss c (cr l) i) (i : Int) = _
        have hall : ∀ j, j ≤ i → ¬ bad W l j := fun j hj hb => hp ⟨j, hj, hb⟩
        have hc := cr_lt (hall i (Nat.le_refl _))
        unfold seam_total_s1
        rw [if_pos (by simp; omega), cg_ix rfl (by omega), Option.bind_some]
        rcases badE_step (c := c) hH0 hl hi (fun j hj => hall j (by omega)) hW hH with ⟨_, hbad⟩ | ⟨he, _⟩
        · exact absurd hbad (hall i (Nat.le_refl _))
        · have hs := ss_small hb (n := i + 1) (by omega) (fun y hy => (cr_lt (hall y (by omega))).1)
          rw [he, Option.bind_some, if_neg (by decide), tbl_ix W H c rfl hi, Option.bind_some, row_ix W _ hc.2 hc.1, Option.bind_some]
          simp only [ss] at hs
          rw [w64_id (by omega) (by omega), w64_id (by omega) (by omega)]
          rfl)
      (fun i hi hp hj => by
        show seam_total_s1 (tbl W H c) l (ss c (cr l) i) (i : Int) = _
        have hall : ∀ j, j < i → ¬ bad W l j := fun j hji hb => hj j hji ⟨j, Nat.le_refl _, hb⟩
        have hbi : bad W l i := by
          obtain ⟨j, h1, h2⟩ := hp
          by_cases hq : j = i
          · exact hq ▸ h2
          · exact absurd h2 (hall j (by omega))
        unfold seam_total_s1
        rw [if_pos (by simp; omega), cg_ix rfl (by omega), Option.bind_some]
        rcases badE_step (c := c) hH0 hl hi hall hW hH with ⟨he, _⟩ | ⟨_, hn⟩
        · rw [he]; rfl
        · exact absurd hbi hn)
      (by
        show seam_total_s1 (tbl W H c) l (ss c (cr l) H) (H : Int) = _
        unfold seam_total_s1
        rw [if_neg (by simp; omega)]) with ⟨ha, hL⟩ | ⟨i, h1, ⟨j, h2, h3⟩, _, hL⟩
    · refine .inl ⟨⟨hl, fun y hy hb => ha y hy ⟨y, Nat.le_refl _, hb⟩⟩, ?_⟩
      rw [hL]; rfl
    · refine .inr ⟨fun h => h.2 j (by omega) h3, ?_⟩
      rw [hL]; rfl
  · rw [if_pos (by simp only [bne_iff_ne, ne_eq]; omega)]
    exact .inr ⟨fun h => hl h.1, rfl⟩

theorem right_eq {W H : Nat} (hW0 : 0 < W) (hH0 : 0 < H) (hW : W ≤ 1000) (hH : H ≤ 1000) (c : Nat → Nat → Int) (l : List Int) :
    (Sm1 W H l ∧ fiduciallaw50_Right (tbl W H c) l = some true) ∨ (¬ Sm1 W H l ∧ fiduciallaw50_Right (tbl W H c) l = some false) := by
  unfold fiduciallaw50_Right
  rw [tbl_len]
  by_cases hl : l.length = H
  · rw [if_neg (by simp [hl])]
    have hst : ∀ i, i < H → (∀ j, j < i → ¬ bad W l j) → (fiduciallaw50_Right_s1 (tbl W H c) l (i : Int) = some (.done (.inl false)) ∧ bad W l i) ∨ (fiduciallaw50_Right_s1 (tbl W H c) l (i : Int) = some (.next ((i + 1 : Nat) : Int)) ∧ ¬ bad W l i) := fun i hi hg => by
      unfold fiduciallaw50_Right_s1 bad
      rw [if_pos (by simp; omega), cg_ix rfl (by omega), Option.bind_some, w64_id (z := (i : Int) + 1) (by omega) (by omega)]
      by_cases h1 : cg l i < 0
      · rw [if_pos (decide_eq_true h1)]; exact .inl ⟨rfl, .inl h1⟩
      rw [if_neg (by simpa using h1), tbl_ix0 W c hH0, Option.bind_some, row_len]
      by_cases h2 : (W : Int) ≤ cg l i
      · rw [if_pos (decide_eq_true h2)]; exact .inl ⟨rfl, .inr (.inl h2)⟩
      rw [if_neg (by simpa using h2)]
      by_cases h3 : 0 < i
      · have hp := hg (i - 1) (by omega)
        unfold bad at hp
        rw [if_pos (by simpa using h3), w64_id (z := (i : Int) - 1) (by omega) (by omega), cg_ix (y := i - 1) (by omega) (by omega), Option.bind_some, w64_id (z := cg l i - cg l (i - 1)) (by omega) (by omega)]
        by_cases h4 : 1 < cg l i - cg l (i - 1)
        · rw [if_pos (decide_eq_true h4)]; exact .inl ⟨rfl, by omega⟩
        rw [if_neg (by simpa using h4), Option.bind_some, w64_id (z := cg l (i - 1) - cg l i) (by omega) (by omega)]
        by_cases h5 : 1 < cg l (i - 1) - cg l i
        · rw [decide_eq_true h5]; exact .inl ⟨rfl, by omega⟩
        · rw [decide_eq_false h5]; exact .inr ⟨rfl, by omega⟩
      · rw [if_neg (by simpa using h3)]
        exact .inr ⟨rfl, by omega⟩
    rcases loop_first (step := fun s : Int => fiduciallaw50_Right_s1 (tbl W H c) l s) (fun i => (i : Int)) (fun i => ∃ j, j ≤ i ∧ bad W l j) (fun _ => .inl false) (.inr ()) H (s0 := 0) (by unfold FUEL; omega) rfl
      (fun i hi hp => by
        have hall : ∀ j, j ≤ i → ¬ bad W l j := fun j hj hb => hp ⟨j, hj, hb⟩
        rcases hst i hi (fun j hj => hall j (by omega)) with ⟨_, hbad⟩ | ⟨he, _⟩
        · exact absurd hbad (hall i (Nat.le_refl _))
        · exact he)
      (fun i hi hp hj => by
        have hall : ∀ j, j < i → ¬ bad W l j := fun j hji hb => hj j hji ⟨j, Nat.le_refl _, hb⟩
        have hbi : bad W l i := by
          obtain ⟨j, h1, h2⟩ := hp
          by_cases hq : j = i
          · exact hq ▸ h2
          · exact absurd h2 (hall j (by omega))
        rcases hst i hi hall with ⟨he, _⟩ | ⟨_, hn⟩
        · exact he
        · exact absurd hbi hn)
      (by
        show fiduciallaw50_Right_s1 (tbl W H c) l (H : Int) = _
        unfold fiduciallaw50_Right_s1
        rw [if_neg (by simp; omega)]) with ⟨ha, hL⟩ | ⟨i, h1, ⟨j, h2, h3⟩, _, hL⟩
    · refine .inl ⟨⟨hl, fun y hy hb => ha y hy ⟨y, Nat.le_refl _, hb⟩⟩, ?_⟩
      rw [hL]; rfl
    · refine .inr ⟨fun h => h.2 j (by omega) h3, ?_⟩
      rw [hL]; rfl
  · rw [if_pos (by simp only [bne_iff_ne, ne_eq]; omega)]
    exact .inr ⟨fun h => hl h.1, rfl⟩

theorem total2_eq {W H : Nat} (hH : H ≤ 1000) {c : Nat → Nat → Int} (hb : Bnd W c) {l : List Int} (h : Sm1 W H l) : fiduciallaw50_Total (tbl W H c) l = some (ss c (cr l) H) := by
  unfold fiduciallaw50_Total
  have hl := h.1
  have : loopM FUEL (fun s : Int × Int => fiduciallaw50_Total_s1 (tbl W H c) l s.1 s.2) (0, 0) = some (ss c (cr l) H) := by
    refine loop_go (fun i => (ss c (cr l) i, (i : Int))) H (by unfold FUEL; omega) rfl (fun i hi => ?_) ?_
    · show fiduciallaw50_Total_s1 (tbl W H c) l (ss c (cr l) i) (i : Int) = _
      have hc := cr_lt (h.2 i hi)
      have hs := ss_small hb (n := i + 1) (by omega) (fun y hy => (cr_lt (h.2 y (by omega))).1)
      simp only [ss] at hs
      unfold fiduciallaw50_Total_s1
      rw [if_pos (by simp; omega), cg_ix rfl (by omega), Option.bind_some, tbl_ix W H c rfl hi, Option.bind_some, row_ix W _ hc.2 hc.1, Option.bind_some, w64_id (by omega) (by omega), w64_id (by omega) (by omega)]
      rfl
    · show fiduciallaw50_Total_s1 (tbl W H c) l (ss c (cr l) H) (H : Int) = _
      unfold fiduciallaw50_Total_s1
      rw [if_neg (by simp; omega)]
  rw [this]
  rfl

theorem known_true : fiduciallaw50_known = some true := by kernel_rfl

theorem totals_true (t : List (List Int)) (l : List Int) : fiduciallaw50_SeamTotals t l = some true := by
  unfold fiduciallaw50_SeamTotals
  rw [known_true, Option.bind_some, if_neg (by decide), few_eq, Option.bind_some]
  cases hf : few t with
  | false => rfl
  | true =>
    rw [if_neg (by decide), Option.bind_some]
    by_cases hl : 20 < l.length
    · rw [if_pos (by simp; omega)]
    rw [if_neg (by simp; omega), checked_eq]
    unfold seam_Total
    rcases check_few hf with ⟨W, H, c, rfl, h1, h2, h3, h4, hcb, hc⟩ | ⟨k, hk, hc⟩
    · rw [hc]
      simp only [Option.bind_some]
      rw [if_neg (show ¬ ((0 : Int) != 0) = true by decide)]
      rcases total_eq h1 h3 (by omega) (by omega) hcb.bnd l with ⟨hs, e⟩ | ⟨hs, e⟩
      · rcases right_eq h1 h3 (by omega) (by omega) c l with ⟨_, e2⟩ | ⟨hs2, _⟩
        · rw [e, e2, total2_eq (by omega) hcb.bnd hs]
          simp
        · exact absurd hs hs2
      · rcases right_eq h1 h3 (by omega) (by omega) c l with ⟨hs2, _⟩ | ⟨_, e2⟩
        · exact absurd hs2 hs
        · rw [e, e2]
          simp
    · rw [hc]
      have hk2 : (k != 0) = true := by simpa using hk
      have hk3 : (k == 0) = false := by simpa using hk
      simp [hk2, hk3, hk]
end Go.Proofs.Ytomlpofoaokmdaa
