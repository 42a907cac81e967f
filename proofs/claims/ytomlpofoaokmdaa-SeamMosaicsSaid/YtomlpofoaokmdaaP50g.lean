/-
  PLAIN, chapter 50: the definition of Prove; Finds, Proves.
-/
import Derived.Test.YtomlpofoaokmdaaP50f
set_option linter.unusedSimpArgs false
set_option linter.unusedVariables false
namespace Go.Proofs.Ytomlpofoaokmdaa
open Go.E

def P40 (t : List (List Int)) : Prop := ∀ r ∈ t, ∀ v ∈ r, -1099511627776 ≤ v ∧ v ≤ 1099511627776
theorem P40.pP {t : List (List Int)} (h : P40 t) (y x : Nat) : -1099511627776 ≤ pP t y x ∧ pP t y x ≤ 1099511627776 := by
  unfold Go.Proofs.Ytomlpofoaokmdaa.pP
  by_cases hy : y < t.length
  · by_cases hx : x < (t.getD y []).length
    · rw [getD_eq hx]
      refine h _ ?_ _ (List.getElem_mem hx)
      rw [getD_eq hy]
      exact List.getElem_mem hy
    · simp only [List.getD_eq_getElem?_getD] at hx ⊢
      rw [List.getElem?_eq_none (by omega)]
      simp
  · simp [hy]
theorem P40.i64 {t : List (List Int)} (h : P40 t) : I64 t := fun r hr v hv => by have := h r hr v hv; omega

theorem proved3 {W H : Nat} (hW0 : 0 < W) (hH0 : 0 < H) (hW : W ≤ 64) (hH : H ≤ 64) {c : Nat → Nat → Int} (hb : CB W c) {t : List (List Int)} (ht : t.length = H) (hB : P40 t) {y x : Nat} (hy : y < H) (hx : x < W) (hp : 0 < y → (t.getD (y - 1) []).length = W) (h0 : y = 0 → pP t 0 x ≤ c 0 x) :
    (pg W c (pP t) y x ∧ loopM FUEL (fun s : Int => fiduciallaw50_proved_s3 (tbl W H c) t (y : Int) (x : Int) (pP t y x) s) ((x : Int) - 1) = some (.inr ())) ∨ (¬ pg W c (pP t) y x ∧ loopM FUEL (fun s : Int => fiduciallaw50_proved_s3 (tbl W H c) t (y : Int) (x : Int) (pP t y x) s) ((x : Int) - 1) = some (.inl 12)) := by
  cases y with
  | zero =>
    refine .inl ⟨h0 rfl, loop_go (fun _ => (x : Int) - 1) 0 (by unfold FUEL; omega) rfl (fun i hi => by omega) ?_⟩
    unfold fiduciallaw50_proved_s3
    rw [w64_id (z := (x : Int) + 1) (by omega) (by omega), if_pos (by simp; omega), Option.bind_some, if_neg (by simp)]
  | succ y =>
    have hp := hp (by omega)
    rw [Nat.add_sub_cancel] at hp
    have hst : ∀ z : Int, z ≤ (x : Int) + 1 → (x : Int) - 1 ≤ z → ((0 ≤ z ∧ z < (W : Int) ∧ pP t y z.toNat + c (y + 1) x < pP t (y + 1) x) ∧ fiduciallaw50_proved_s3 (tbl W H c) t ((y + 1 : Nat) : Int) (x : Int) (pP t (y + 1) x) z = some (.done (.inl 12))) ∨ (¬ (0 ≤ z ∧ z < (W : Int) ∧ pP t y z.toNat + c (y + 1) x < pP t (y + 1) x) ∧ fiduciallaw50_proved_s3 (tbl W H c) t ((y + 1 : Nat) : Int) (x : Int) (pP t (y + 1) x) z = some (.next (z + 1))) := fun z hz1 hz2 => by
      unfold fiduciallaw50_proved_s3
      rw [w64_id (z := (x : Int) + 1) (by omega) (by omega), if_pos (by simpa using hz1), Option.bind_some, if_pos (by simp <;> omega), w64_id (z := z + 1) (by omega) (by omega), w64_id (z := ((y + 1 : Nat) : Int) - 1) (by omega) (by omega)]
      by_cases h1 : 0 ≤ z
      · rw [if_pos (by simpa using h1), tbl_ix0 W c hH0, Option.bind_some, row_len]
        by_cases h2 : z < (W : Int)
        · rw [if_pos (by simpa using h2), ix_getD (i := y) (d := []) (by omega) (by omega), Option.bind_some, row_pP hp, row_ix W _ (x := z.toNat) (by omega) (by omega), Option.bind_some, tbl_ix W H c rfl hy, Option.bind_some, row_ix W _ rfl hx, Option.bind_some]
          unfold fiduciallaw50_above
          have q1 := hB.pP y z.toNat
          have q2 := hb (y + 1) x hx
          rw [w64_id (by omega) (by omega)]
          simp only [Option.bind_some]
          by_cases h3 : pP t y z.toNat + c (y + 1) x < pP t (y + 1) x
          · rw [if_pos (by simpa using h3)]; exact .inl ⟨⟨h1, h2, h3⟩, rfl⟩
          · rw [if_neg (by simpa using h3)]; exact .inr ⟨fun h => h3 h.2.2, rfl⟩
        · rw [if_neg (by simpa using h2)]; exact .inr ⟨fun h => h2 h.2.1, rfl⟩
      · rw [if_neg (by simpa using h1)]; exact .inr ⟨fun h => h1 h.1, rfl⟩
    rcases loop_first (step := fun s : Int => fiduciallaw50_proved_s3 (tbl W H c) t ((y + 1 : Nat) : Int) (x : Int) (pP t (y + 1) x) s) (fun i => (x : Int) - 1 + (i : Int)) (fun i => 0 ≤ (x : Int) - 1 + (i : Int) ∧ (x : Int) - 1 + (i : Int) < (W : Int) ∧ pP t y ((x : Int) - 1 + (i : Int)).toNat + c (y + 1) x < pP t (y + 1) x) (fun _ => .inl 12) (.inr ()) 3 (s0 := (x : Int) - 1) (by unfold FUEL; omega) (by simp)
      (fun i hi hq => (hst _ (by omega) (by omega)).elim (fun h => absurd h.1 hq) (fun h => by rw [h.2]; congr 2; omega))
      (fun i hi hq _ => (hst _ (by omega) (by omega)).elim (fun h => h.2) (fun h => absurd hq h.1))
      (by
        show fiduciallaw50_proved_s3 (tbl W H c) t ((y + 1 : Nat) : Int) (x : Int) (pP t (y + 1) x) ((x : Int) - 1 + ((3 : Nat) : Int)) = _
        unfold fiduciallaw50_proved_s3
        rw [w64_id (z := (x : Int) + 1) (by omega) (by omega), if_neg (by simp; omega)]; rfl) with ⟨ha, hL⟩ | ⟨i, h1, ⟨h2, h3, h4⟩, _, hL⟩
    · refine .inl ⟨?_, hL⟩
      obtain ⟨z, q1, q2, q3, q4⟩ := nb_ex (f := pP t y) hx
      show pP t (y + 1) x ≤ nb W (pP t y) x + c (y + 1) x
      rw [← q4]
      refine Classical.byContradiction fun hn => ha (z + 1 - x) (by omega) ⟨by omega, by omega, ?_⟩
      rw [show ((x : Int) - 1 + ((z + 1 - x : Nat) : Int)).toNat = z by omega]
      omega
    · refine .inr ⟨fun h => ?_, hL⟩
      have h : pP t (y + 1) x ≤ nb W (pP t y) x + c (y + 1) x := h
      have := nb_le (f := pP t y) hx (z := ((x : Int) - 1 + (i : Int)).toNat) (by omega) (by omega) (by omega)
      omega

theorem proved2 {W H : Nat} (hW0 : 0 < W) (hH0 : 0 < H) (hW : W ≤ 64) (hH : H ≤ 64) {c : Nat → Nat → Int} (hb : CB W c) {t : List (List Int)} (ht : t.length = H) (hB : P40 t) {y : Nat} (hy : y < H) (hl : (t.getD y []).length = W) (hp : 0 < y → (t.getD (y - 1) []).length = W) :
    ((∀ x, x < W → pg W c (pP t) y x) ∧ loopM FUEL (fun s : Int => fiduciallaw50_proved_s2 (tbl W H c) t (y : Int) (t.getD y []) s) 0 = some (.inr ())) ∨ (¬ (∀ x, x < W → pg W c (pP t) y x) ∧ loopM FUEL (fun s : Int => fiduciallaw50_proved_s2 (tbl W H c) t (y : Int) (t.getD y []) s) 0 = some (.inl 12)) := by
  have hst : ∀ i, i < W → (pg W c (pP t) y i ∧ fiduciallaw50_proved_s2 (tbl W H c) t (y : Int) (t.getD y []) (i : Int) = some (.next ((i + 1 : Nat) : Int))) ∨ (¬ pg W c (pP t) y i ∧ fiduciallaw50_proved_s2 (tbl W H c) t (y : Int) (t.getD y []) (i : Int) = some (.done (.inl 12))) := fun i hi => by
    unfold fiduciallaw50_proved_s2
    rw [hl, if_pos (by simpa using hi), row_pP hl, row_ix W _ rfl hi, Option.bind_some, w64_id (z := (i : Int) + 1) (by omega) (by omega), w64_id (z := (i : Int) - 1) (by omega) (by omega)]
    by_cases h0 : y = 0
    · subst h0
      rw [if_pos (by decide), tbl_ix0 W c hH0, Option.bind_some, row_ix W _ rfl hi, Option.bind_some, Option.bind_some]
      by_cases h : c 0 i < pP t 0 i
      · rw [if_pos (decide_eq_true h)]; exact .inr ⟨fun (h2 : pP t 0 i ≤ c 0 i) => by omega, rfl⟩
      · rw [if_neg (by simpa using h)]
        rcases proved3 hW0 hH0 hW hH hb ht hB hy hi hp (fun _ => by omega) with ⟨h1, h2⟩ | ⟨h1, h2⟩
        · rw [h2]; exact .inl ⟨h1, rfl⟩
        · rw [h2]; exact .inr ⟨h1, rfl⟩
    · rw [if_neg (by simp; omega), Option.bind_some, if_neg (by decide)]
      rcases proved3 hW0 hH0 hW hH hb ht hB hy hi hp (fun h => absurd h h0) with ⟨h1, h2⟩ | ⟨h1, h2⟩
      · rw [h2]; exact .inl ⟨h1, rfl⟩
      · rw [h2]; exact .inr ⟨h1, rfl⟩
  rcases loop_first (step := fun s : Int => fiduciallaw50_proved_s2 (tbl W H c) t (y : Int) (t.getD y []) s) (fun i => (i : Int)) (fun i => ¬ pg W c (pP t) y i) (fun _ => .inl 12) (.inr ()) W (s0 := 0) (by unfold FUEL; omega) rfl
    (fun i hi hp => (hst i hi).elim (fun h => h.2) (fun h => absurd h.1 hp))
    (fun i hi hp _ => (hst i hi).elim (fun h => absurd h.1 hp) (fun h => h.2))
    (by
      show fiduciallaw50_proved_s2 (tbl W H c) t (y : Int) (t.getD y []) (W : Int) = _
      unfold fiduciallaw50_proved_s2
      rw [hl, if_neg (by simp)]) with ⟨ha, hL⟩ | ⟨i, h1, h2, _, hL⟩
  · exact .inl ⟨fun x hx => Classical.byContradiction (ha x hx), hL⟩
  · exact .inr ⟨fun h => h2 (h i h1), hL⟩

theorem proved_eq {W H : Nat} (hW0 : 0 < W) (hH0 : 0 < H) (hW : W ≤ 64) (hH : H ≤ 64) {c : Nat → Nat → Int} (hb : CB W c) (hc : seam_Check (tbl W H c) = some 0) (l : List Int) (n : Int) {t : List (List Int)} (hB : P40 t) :
    (Pr50 W H c l n t ∧ fiduciallaw50_proved (tbl W H c) l n t = some 0) ∨ (¬ Pr50 W H c l n t ∧ fiduciallaw50_proved (tbl W H c) l n t = some 12) := by
  unfold fiduciallaw50_proved Pr50
  rw [checked_eq, hc, Option.bind_some, if_neg (by decide)]
  rcases right_eq hW0 hH0 (by omega) (by omega) c l with ⟨hs, e⟩ | ⟨hs, e⟩
  · rw [e, total2_eq (by omega) hb.bnd hs]
    simp only [Option.bind_some, Bool.not_true]
    rw [if_neg (by decide)]
    by_cases hn : ss c (cr l) H = n
    · rw [if_neg (by simp [hn]), tbl_len]
      by_cases ht : t.length = H
      · rw [Option.bind_some, if_neg (by simp only [bne_iff_ne, ne_eq, Classical.not_not]; omega)]
        have hst : ∀ i, i < H → (∀ j, j < i → rg W c t j) → (rg W c t i ∧ fiduciallaw50_proved_s1 (tbl W H c) t (i : Int) = some (.next ((i + 1 : Nat) : Int))) ∨ (¬ rg W c t i ∧ fiduciallaw50_proved_s1 (tbl W H c) t (i : Int) = some (.done (.inl 12))) := fun i hi hg => by
          unfold fiduciallaw50_proved_s1 rg
          rw [if_pos (by simp; omega), ix_getD (i := i) (d := []) rfl (by omega), Option.bind_some, tbl_ix0 W c hH0, Option.bind_some, row_len]
          by_cases hl : (t.getD i []).length = W
          · rw [if_neg (by simp only [bne_iff_ne, ne_eq, Classical.not_not]; omega)]
            rcases proved2 hW0 hH0 hW hH hb ht hB hi hl (fun h0 => (hg (i - 1) (by omega)).1) with ⟨h1, h2⟩ | ⟨h1, h2⟩
            · rw [h2, Option.bind_some, w64_id (by omega) (by omega)]
              exact .inl ⟨⟨hl, h1⟩, rfl⟩
            · rw [h2]
              exact .inr ⟨fun h => h1 h.2, rfl⟩
          · rw [if_pos (by simp only [bne_iff_ne, ne_eq]; omega)]
            exact .inr ⟨fun h => hl h.1, rfl⟩
        rcases loop_first (step := fun s : Int => fiduciallaw50_proved_s1 (tbl W H c) t s) (fun i => (i : Int)) (fun i => ∃ j, j ≤ i ∧ ¬ rg W c t j) (fun _ => .inl 12) (.inr ()) H (s0 := 0) (by unfold FUEL; omega) rfl
          (fun i hi hp => by
            have hall : ∀ j, j ≤ i → rg W c t j := fun j hj => Classical.byContradiction fun hb => hp ⟨j, hj, hb⟩
            rcases hst i hi (fun j hj => hall j (by omega)) with ⟨_, he⟩ | ⟨hbad, _⟩
            · exact he
            · exact absurd (hall i (Nat.le_refl _)) hbad)
          (fun i hi hp hj => by
            have hall : ∀ j, j < i → rg W c t j := fun j hji => Classical.byContradiction fun hb => hj j hji ⟨j, Nat.le_refl _, hb⟩
            have hbi : ¬ rg W c t i := by
              obtain ⟨j, h1, h2⟩ := hp
              by_cases hq : j = i
              · exact hq ▸ h2
              · exact absurd (hall j (by omega)) h2
            rcases hst i hi hall with ⟨hn, _⟩ | ⟨_, he⟩
            · exact absurd hn hbi
            · exact he)
          (by
            show fiduciallaw50_proved_s1 (tbl W H c) t (H : Int) = _
            unfold fiduciallaw50_proved_s1
            rw [if_neg (by simp; omega)]) with ⟨ha, hL⟩ | ⟨i, h1, ⟨j, h2, h3⟩, _, hL⟩
        · have hr : ∀ y, y < H → rg W c t y := fun y hy => Classical.byContradiction fun hb => ha y hy ⟨y, Nat.le_refl _, hb⟩
          rw [hL]
          simp only [Option.bind_some]
          rw [w64_id (by omega) (by omega), ix_getD (i := H - 1) (d := []) (by omega) (by omega), Option.bind_some, row_pP (hr (H - 1) (by omega)).1, min_row hW0 (by omega), Option.bind_some]
          by_cases hm : mn (pP t (H - 1)) 0 (W - 1) < n
          · rw [if_pos (by simpa using hm)]; exact .inr ⟨fun h => by omega, rfl⟩
          · rw [if_neg (by simpa using hm)]; exact .inl ⟨⟨hs, hn, ⟨ht, hr⟩, by omega⟩, rfl⟩
        · rw [hL]
          exact .inr ⟨fun h => h3 (h.2.2.1.2 j (by omega)), rfl⟩
      · rw [Option.bind_some, if_pos (by simp only [bne_iff_ne, ne_eq]; omega)]
        exact .inr ⟨fun h => ht h.2.2.1.1, rfl⟩
    · rw [if_pos (by simpa using hn)]
      exact .inr ⟨fun h => hn h.2.1, rfl⟩
  · rw [e]
    exact .inr ⟨fun h => hs h.1, rfl⟩
theorem proved_bad {t p : List (List Int)} {l : List Int} {n k : Int} (hk : k ≠ 0) (hc : seam_Check t = some k) : fiduciallaw50_proved t l n p = some k := by
  unfold fiduciallaw50_proved
  rw [checked_eq, hc, Option.bind_some, if_pos (by simpa using hk)]

theorem colL_good {W H : Nat} {c : Nat → Nat → Int} (hW0 : 0 < W) : Sm1 W H (colL c W H H) := Sm1.row (col_seam c hW0 H)
theorem colL_ss {W H : Nat} {c : Nat → Nat → Int} (d : Nat → Nat → Int) : ss d (cr (colL c W H H)) H = ss d (col c W H) H := ss_eq H fun y hy => by
  unfold colL
  rw [cr_row hy]

theorem pP_tbl {W H : Nat} {c : Nat → Nat → Int} {y x : Nat} (hy : y < H) (hx : x < W) : pP (tbl W H c) y x = c y x := by
  unfold pP
  have e : (tbl W H c).getD y [] = row W (c y) := by rw [List.getD_eq_getElem?_getD, tbl_get _ _ _ hy]; rfl
  rw [e, List.getD_eq_getElem?_getD, row_get _ _ hx]; rfl

theorem find_pr {W H : Nat} (hW0 : 0 < W) (hH0 : 0 < H) {c : Nat → Nat → Int} : Pr50 W H c (colL c W H H) (lt c W H) (tbl W H (Dn c W)) := by
  refine ⟨colL_good hW0, by rw [colL_ss]; exact col_total c hW0 hH0, ⟨tbl_len _ _ _, fun y hy => ⟨?_, fun x hx => ?_⟩⟩, ?_⟩
  · rw [List.getD_eq_getElem?_getD, tbl_get _ _ _ hy]; exact row_len _ _
  · cases y with
    | zero =>
      show pP (tbl W H (Dn c W)) 0 x ≤ c 0 x
      rw [pP_tbl hH0 hx]
      exact Int.le_refl _
    | succ y =>
      show pP (tbl W H (Dn c W)) (y + 1) x ≤ nb W (pP (tbl W H (Dn c W)) y) x + c (y + 1) x
      rw [pP_tbl hy hx, nb_eq (f := Dn c W y) hx (fun z hz => pP_tbl (by omega) hz)]
      simp only [Dn]
      omega
  · have h := am_in (pP (tbl W H (Dn c W)) (H - 1)) 0 (W - 1)
    rw [← am_val, pP_tbl (by omega) (by omega)]
    exact Dn_last c hH0 (by omega)

theorem equal_self (xs : List Int) (h : xs.length ≤ 1000000) : slices_Equal_sint xs xs = some true := by
  unfold slices_Equal_sint
  rw [if_neg (by simp)]
  rcases eq_loop (step := fun s => slices_Equal_sint_s1 xs xs s) (fun a b => a == b) (fun a b => by simp) h rfl (fun s => rfl) with ⟨_, e⟩ | ⟨hn, _⟩
  · rw [e]; rfl
  · exact absurd rfl hn

theorem Dn_P40 {W H : Nat} {c : Nat → Nat → Int} (hb : CB W c) (hH : H ≤ 64) : P40 (tbl W H (Dn c W)) := fun r hr v hv => by
  obtain ⟨y, hy, rfl⟩ := List.mem_map.1 hr
  obtain ⟨x, hx, rfl⟩ := List.mem_map.1 hv
  have hy := List.mem_range.1 hy
  have h := Dn_bound hb y x (List.mem_range.1 hx)
  have e : ((y : Int) + 1) * 1048576 ≤ 64 * 1048576 := Int.mul_le_mul_of_nonneg_right (by omega) (by omega)
  omega

theorem finds_true (t : List (List Int)) : fiduciallaw50_SeamFinds t = some true := by
  unfold fiduciallaw50_SeamFinds
  rw [known_true, Option.bind_some, if_neg (by decide), few_eq, Option.bind_some]
  cases hf : few t with
  | false => rfl
  | true =>
    rw [if_neg (by decide), checked_eq]
    rcases check_few hf with ⟨W, H, c, rfl, h1, h2, h3, h4, hcb, hc⟩ | ⟨k, hk, hc⟩
    · have e1 := find_ok h1 h3 (by omega) (by omega) hcb.bnd hc
      have hP := Dn_P40 (H := H) hcb (by omega)
      have e2 : fiduciallaw50_proved (tbl W H c) (colL c W H H) (lt c W H) (tbl W H (Dn c W)) = some 0 := by
        rcases proved_eq h1 h3 (by omega) (by omega) hcb hc (colL c W H H) (lt c W H) hP with ⟨_, e⟩ | ⟨hn, _⟩
        · exact e
        · exact absurd (find_pr h1 h3) hn
      have e3 : seam_Prove (tbl W H c) (colL c W H H) (lt c W H) (tbl W H (Dn c W)) = some 0 := by
        rcases prove_eq h1 h3 (by omega) (by omega) hcb hc (colL c W H H) (lt c W H) hP.i64 with ⟨_, e⟩ | ⟨hn, _⟩
        · exact e
        · exact absurd (find_pr h1 h3) hn
      rw [e1, hc, least2_eq h1 h3 (by omega) (by omega) hcb.bnd]
      simp only [Option.bind_some]
      rw [if_neg (by decide), if_pos (by decide), equal_self _ (by unfold colL; rw [row_len]; omega), Option.bind_some, if_pos rfl, if_pos (by simp), e2, Option.bind_some, if_pos (by decide), e3]
      rfl
    · rw [find_bad hk hc, hc]
      simp only [Option.bind_some]
      rw [if_pos (by simpa using hk), if_pos (by simp), prove_bad hk hc]
      unfold fiduciallaw50_none
      simp

theorem c40_eq (z : Int) : fiduciallaw50_SeamProves_c1 z = some (decide (1099511627776 < z) || decide (z < -1099511627776)) := by
  unfold fiduciallaw50_SeamProves_c1
  by_cases h : 1099511627776 < z
  · rw [if_pos (decide_eq_true h), decide_eq_true h]; rfl
  · rw [if_neg (by simpa using h), decide_eq_false h]; rfl

theorem proves_true (t : List (List Int)) (l : List Int) (n : Int) (p : List (List Int)) : fiduciallaw50_SeamProves t l n p = some true := by
  unfold fiduciallaw50_SeamProves
  rw [known_true, Option.bind_some, if_neg (by decide), few_eq, Option.bind_some]
  cases hf : few t with
  | false => rfl
  | true =>
    rw [if_neg (by decide), few_eq, Option.bind_some]
    cases hf2 : few p with
    | false => rfl
    | true =>
      rw [if_neg (by decide), Option.bind_some]
      by_cases hl : 20 < l.length
      · rw [if_pos (by simp; omega)]
      rw [if_neg (by simp; omega)]
      obtain ⟨g1, g2⟩ := few_iff hf2
      have hcf : ∀ r ∈ p, slices_ContainsFunc_sint r (fun z => fiduciallaw50_SeamProves_c1 z) = some (r.any fun z => decide (1099511627776 < z) || decide (z < -1099511627776)) := fun r hr => any_int (fun z => c40_eq z) (by have := g2 r hr; omega)
      rcases loop_first (step := fun s => fiduciallaw50_SeamProves_s1 p s) (fun i => (i : Int)) (fun i => ∃ h : i < p.length, ((p[i]).any fun z => decide (1099511627776 < z) || decide (z < -1099511627776)) = true) (fun _ => .inl true) (.inr ()) p.length (s0 := 0) (by unfold FUEL; omega) rfl
        (fun i hi hp => by
          have hq : ¬ ((p[i]).any fun z => decide (1099511627776 < z) || decide (z < -1099511627776)) = true := fun h => hp ⟨hi, h⟩
          unfold fiduciallaw50_SeamProves_s1
          rw [if_pos (by simpa using hi), ix_lt p i hi, Option.bind_some, hcf _ (List.getElem_mem hi), Option.bind_some, if_neg hq, w64_id (by omega) (by omega)]
          rfl)
        (fun i hi hp _ => by
          obtain ⟨_, hp⟩ := hp
          unfold fiduciallaw50_SeamProves_s1
          rw [if_pos (by simpa using hi), ix_lt p i hi, Option.bind_some, hcf _ (List.getElem_mem hi), Option.bind_some, if_pos hp])
        (by unfold fiduciallaw50_SeamProves_s1; rw [if_neg (by simp)]) with ⟨ha, hL⟩ | ⟨i, h1, h2, h3, hL⟩
      · rw [hL]
        have hB : P40 p := fun r hr v hv => by
          obtain ⟨i, hi⟩ := List.getElem?_of_mem hr
          obtain ⟨hi1, rfl⟩ := List.getElem?_eq_some_iff.1 hi
          refine Classical.byContradiction fun hn => ha i hi1 ⟨hi1, List.any_eq_true.2 ⟨v, hv, ?_⟩⟩
          simp only [Bool.or_eq_true, decide_eq_true_eq]
          omega
        show ((seam_Prove t l n p).bind fun y_4 => (fiduciallaw50_proved t l n p).bind fun y_5 => some (y_4 == y_5)) = _
        rcases check_few hf with ⟨W, H, c, rfl, h1, h2, h3, h4, hcb, hc⟩ | ⟨k, hk, hc⟩
        · rcases prove_eq h1 h3 (by omega) (by omega) hcb hc l n hB.i64 with ⟨q1, e1⟩ | ⟨q1, e1⟩
          · rcases proved_eq h1 h3 (by omega) (by omega) hcb hc l n hB with ⟨q2, e2⟩ | ⟨q2, e2⟩
            · rw [e1, e2]; rfl
            · exact absurd q1 q2
          · rcases proved_eq h1 h3 (by omega) (by omega) hcb hc l n hB with ⟨q2, e2⟩ | ⟨q2, e2⟩
            · exact absurd q2 q1
            · rw [e1, e2]; rfl
        · rw [prove_bad hk hc, proved_bad hk hc]
          simp
      · rw [hL]; rfl
end Go.Proofs.Ytomlpofoaokmdaa
