/-
  PLAIN, chapter 50: Find and Prove.
-/
import Derived.Test.YtomlpofoaokmdaaP50e
set_option linter.unusedSimpArgs false
set_option linter.unusedVariables false
namespace Go.Proofs.Ytomlpofoaokmdaa
open Go.E

theorem al_true {W H : Nat} (c : Nat → Nat → Int) : al (fun _ _ => true) c = c := by
  funext y x
  simp [al]

theorem find_ok {W H : Nat} (hW0 : 0 < W) (hH0 : 0 < H) (hW : W ≤ 64) (hH : H ≤ 64) {c : Nat → Nat → Int} (hb : Bnd W c) (hc : seam_Check (tbl W H c) = some 0) :
    seam_Find (tbl W H c) = some (colL c W H H, lt c W H, tbl W H (Dn c W), 0) := by
  unfold seam_Find
  rw [hc, Option.bind_some, if_neg (by decide), first_eq (A := fun _ _ => true) hW0 hH0 (by omega) (by omega) hb (fun y x _ _ => rfl), al_true (W := W) (H := H), Option.bind_some]
  show ((seam_downward (tbl W H c)).bind fun y_6 => some (colL c W H H, lt c W H, y_6, (0 : Int))) = _
  rw [down_eq hW0 hH0 (by omega) (by omega) hb]
  rfl
theorem find_bad {t : List (List Int)} {k : Int} (hk : k ≠ 0) (hc : seam_Check t = some k) : seam_Find t = some ([], 0, [], k) := by
  unfold seam_Find
  rw [hc, Option.bind_some, if_pos (by simpa using hk)]

/-! ### Potentials -/

/-- The potential at a place is none too great. -/
def pg (W : Nat) (c p : Nat → Nat → Int) (y x : Nat) : Prop := match y with
  | 0 => p 0 x ≤ c 0 x
  | y + 1 => p (y + 1) x ≤ nb W (p y) x + c (y + 1) x
/-- Row y of the table P has the right length, and its potentials are none too great. -/
def pP (t : List (List Int)) : Nat → Nat → Int := fun y x => (t.getD y []).getD x 0
def rg (W : Nat) (c : Nat → Nat → Int) (t : List (List Int)) (y : Nat) : Prop := (t.getD y []).length = W ∧ ∀ x, x < W → pg W c (pP t) y x
def Pot (W H : Nat) (c : Nat → Nat → Int) (t : List (List Int)) : Prop := t.length = H ∧ ∀ y, y < H → rg W c t y

theorem row_pP {t : List (List Int)} {y W : Nat} (h : (t.getD y []).length = W) : t.getD y [] = row W (pP t y) := by
  have := row_of (t.getD y [])
  rw [h] at this
  exact this

theorem above_eq (a b n : Int) (ha : -9223372036854775808 ≤ a ∧ a ≤ 9223372036854775807) (hb : -9223372036854775808 ≤ b ∧ b ≤ 9223372036854775807) (hn : 0 ≤ n ∧ n ≤ 1048576) : seam_above a b n = some (decide (b + n < a)) := by
  unfold seam_above
  rw [w64_id (z := 9223372036854775807 - n) (by omega) (by omega)]
  by_cases h : b ≤ 9223372036854775807 - n
  · rw [if_pos (decide_eq_true h), w64_id (by omega) (by omega)]
  · rw [if_neg (by simpa using h), decide_eq_false (by omega)]

/-- Entries are machine numbers. -/
def I64 (t : List (List Int)) : Prop := ∀ r ∈ t, ∀ v ∈ r, -9223372036854775808 ≤ v ∧ v ≤ 9223372036854775807
theorem I64.pP {t : List (List Int)} (h : I64 t) (y x : Nat) : -9223372036854775808 ≤ pP t y x ∧ pP t y x ≤ 9223372036854775807 := by
  unfold Go.Proofs.Ytomlpofoaokmdaa.pP
  by_cases hy : y < t.length
  · by_cases hx : x < (t.getD y []).length
    · rw [getD_eq hx]
      refine h _ ?_ _ (List.getElem_mem hx)
      rw [getD_eq hy]
      exact List.getElem_mem hy
    · simp only [List.getD_eq_getElem?_getD] at hx ⊢
      rw [List.getElem?_eq_none (by omega)]
      simp
  · simp [hy]

theorem ix_t0 {t : List (List Int)} (h : 0 < t.length) : ix t 0 = some (t.getD 0 []) := ix_getD (i := 0) (z := 0) rfl h []

theorem holds_row {W H : Nat} (hW0 : 0 < W) (hH0 : 0 < H) (hW : W ≤ 64) (hH : H ≤ 64) {c : Nat → Nat → Int} (hb : CB W c) {t : List (List Int)} (ht : t.length = H) (hi64 : I64 t) {y : Nat} (hy : y < H) (hl : (t.getD y []).length = W) (hp : 0 < y → (t.getD (y - 1) []).length = W) :
    ((∀ x, x < W → pg W c (pP t) y x) ∧ loopM FUEL (fun s : Int => seam_holds_s2 t (y : Int) (row W (c y)) s) 0 = some (.inr ())) ∨ (¬ (∀ x, x < W → pg W c (pP t) y x) ∧ loopM FUEL (fun s : Int => seam_holds_s2 t (y : Int) (row W (c y)) s) 0 = some (.inl false)) := by
  have hst : ∀ i, i < W → (pg W c (pP t) y i ∧ seam_holds_s2 t (y : Int) (row W (c y)) (i : Int) = some (.next ((i + 1 : Nat) : Int))) ∨ (¬ pg W c (pP t) y i ∧ seam_holds_s2 t (y : Int) (row W (c y)) (i : Int) = some (.done (.inl false))) := fun i hi => by
    unfold seam_holds_s2
    rw [row_len, if_pos (by simpa using hi), row_ix W _ rfl hi, Option.bind_some, w64_id (z := (i : Int) + 1) (by omega) (by omega)]
    cases y with
    | zero =>
      rw [if_pos (by decide), ix_t0 (by omega), Option.bind_some, row_pP hl, row_ix W _ rfl hi, Option.bind_some]
      show (pP t 0 i ≤ c 0 i ∧ _) ∨ (¬ pP t 0 i ≤ c 0 i ∧ _)
      by_cases h : c 0 i < pP t 0 i
      · rw [if_pos (decide_eq_true h)]; exact .inr ⟨by omega, rfl⟩
      · rw [if_neg (by simpa using h)]; exact .inl ⟨by omega, rfl⟩
    | succ y =>
      have hp := hp (by omega)
      rw [Nat.add_sub_cancel] at hp
      rw [if_neg (by simp; omega), near_eq hi (by omega)]
      simp only [Option.bind_some]
      rw [ix_getD (i := y + 1) (d := []) rfl (by omega)]
      simp only [Option.bind_some]
      rw [row_pP hl, row_ix W _ rfl hi, w64_id (z := ((y + 1 : Nat) : Int) - 1) (by omega) (by omega), ix_getD (i := y) (d := []) (by omega) (by omega)]
      simp only [Option.bind_some]
      rw [row_pP hp, nb_step (α := Unit) _ hi (by omega)]
      simp only [Option.bind_some]
      obtain ⟨z, q1, q2, q3, q4⟩ := nb_ex (f := pP t y) hi
      rw [above_eq _ _ _ (hi64.pP _ _) (by rw [← q4]; exact hi64.pP _ _) (hb _ _ hi)]
      simp only [Option.bind_some]
      show (pP t (y + 1) i ≤ nb W (pP t y) i + c (y + 1) i ∧ _) ∨ (¬ pP t (y + 1) i ≤ nb W (pP t y) i + c (y + 1) i ∧ _)
      by_cases h : nb W (pP t y) i + c (y + 1) i < pP t (y + 1) i
      · rw [if_pos (decide_eq_true h)]; exact .inr ⟨by omega, rfl⟩
      · rw [if_neg (by simpa using h)]; exact .inl ⟨by omega, rfl⟩
  rcases loop_first (step := fun s : Int => seam_holds_s2 t (y : Int) (row W (c y)) s) (fun i => (i : Int)) (fun i => ¬ pg W c (pP t) y i) (fun _ => .inl false) (.inr ()) W (s0 := 0) (by unfold FUEL; omega) rfl
    (fun i hi hp => (hst i hi).elim (fun h => h.2) (fun h => absurd h.1 hp))
    (fun i hi hp _ => (hst i hi).elim (fun h => absurd h.1 hp) (fun h => h.2))
    (by
      show seam_holds_s2 t (y : Int) (row W (c y)) (W : Int) = _
      unfold seam_holds_s2
      rw [row_len, if_neg (by simp)]) with ⟨ha, hL⟩ | ⟨i, h1, h2, _, hL⟩
  · exact .inl ⟨fun x hx => Classical.byContradiction (ha x hx), hL⟩
  · exact .inr ⟨fun h => h2 (h i h1), hL⟩

theorem holds_eq {W H : Nat} (hW0 : 0 < W) (hH0 : 0 < H) (hW : W ≤ 64) (hH : H ≤ 64) {c : Nat → Nat → Int} (hb : CB W c) {t : List (List Int)} (hi64 : I64 t) :
    (Pot W H c t ∧ seam_holds (tbl W H c) t = some true) ∨ (¬ Pot W H c t ∧ seam_holds (tbl W H c) t = some false) := by
  unfold seam_holds
  rw [tbl_len]
  by_cases ht : t.length = H
  · rw [if_neg (by simp [ht])]
    have hst : ∀ i, i < H → (∀ j, j < i → rg W c t j) → (rg W c t i ∧ seam_holds_s1 (tbl W H c) t (i : Int) = some (.next ((i + 1 : Nat) : Int))) ∨ (¬ rg W c t i ∧ seam_holds_s1 (tbl W H c) t (i : Int) = some (.done (.inl false))) := fun i hi hg => by
      unfold seam_holds_s1 rg
      rw [tbl_len, if_pos (by simpa using hi), tbl_ix W H c rfl hi, Option.bind_some, ix_getD (i := i) (d := []) rfl (by omega), Option.bind_some, row_len]
      by_cases hl : (t.getD i []).length = W
      · rw [if_neg (by simp only [bne_iff_ne, ne_eq, Classical.not_not]; omega)]
        rcases holds_row hW0 hH0 hW hH hb ht hi64 hi hl (fun h0 => (hg (i - 1) (by omega)).1) with ⟨h1, h2⟩ | ⟨h1, h2⟩
        · rw [h2, Option.bind_some, w64_id (by omega) (by omega)]
          exact .inl ⟨⟨hl, h1⟩, rfl⟩
        · rw [h2]
          exact .inr ⟨fun h => h1 h.2, rfl⟩
      · rw [if_pos (by simp only [bne_iff_ne, ne_eq]; omega)]
        exact .inr ⟨fun h => hl h.1, rfl⟩
    rcases loop_first (step := fun s : Int => seam_holds_s1 (tbl W H c) t s) (fun i => (i : Int)) (fun i => ∃ j, j ≤ i ∧ ¬ rg W c t j) (fun _ => .inl false) (.inr ()) H (s0 := 0) (by unfold FUEL; omega) rfl
      (fun i hi hp => by
        have hall : ∀ j, j ≤ i → rg W c t j := fun j hj => Classical.byContradiction fun hb => hp ⟨j, hj, hb⟩
        rcases hst i hi (fun j hj => hall j (by omega)) with ⟨_, he⟩ | ⟨hbad, _⟩
        · exact he
        · exact absurd (hall i (Nat.le_refl _)) hbad)
      (fun i hi hp hj => by
        have hall : ∀ j, j < i → rg W c t j := fun j hji => Classical.byContradiction fun hb => hj j hji ⟨j, Nat.le_refl _, hb⟩
        have hbi : ¬ rg W c t i := by
          obtain ⟨j, h1, h2⟩ := hp
          by_cases hq : j = i
          · exact hq ▸ h2
          · exact absurd (hall j (by omega)) h2
        rcases hst i hi hall with ⟨hn, _⟩ | ⟨_, he⟩
        · exact absurd hn hbi
        · exact he)
      (by
        show seam_holds_s1 (tbl W H c) t (H : Int) = _
        unfold seam_holds_s1
        rw [tbl_len, if_neg (by simp)]) with ⟨ha, hL⟩ | ⟨i, h1, ⟨j, h2, h3⟩, _, hL⟩
    · refine .inl ⟨⟨ht, fun y hy => Classical.byContradiction fun hb => ha y hy ⟨y, Nat.le_refl _, hb⟩⟩, ?_⟩
      rw [hL]; rfl
    · refine .inr ⟨fun h => h3 (h.2 j (by omega)), ?_⟩
      rw [hL]; rfl
  · rw [if_pos (by simp only [bne_iff_ne, ne_eq]; omega)]
    exact .inr ⟨fun h => ht h.1, rfl⟩

theorem min_row {W : Nat} (hW0 : 0 < W) (hW : W ≤ 1000) (f : Nat → Int) : slices_Min_sint (row W f) = some (mn f 0 (W - 1)) := by
  obtain ⟨M, h1, h2, h3⟩ := min_spec (xs := row W f) (fun h => by have := row_len W f; rw [h] at this; simp at this; omega) (by rw [row_len]; omega)
  rw [h1]
  congr 1
  obtain ⟨z, hz, rfl⟩ := List.mem_map.1 h2
  have hz := List.mem_range.1 hz
  exact mn_uniq _ _ _ _ ⟨z, by omega, by omega, rfl⟩ fun z' _ r2 => h3 _ (List.mem_map.2 ⟨z', List.mem_range.2 (by omega), rfl⟩)

/-- What Prove accepts. -/
def Pr50 (W H : Nat) (c : Nat → Nat → Int) (l : List Int) (n : Int) (t : List (List Int)) : Prop :=
  Sm1 W H l ∧ ss c (cr l) H = n ∧ Pot W H c t ∧ n ≤ mn (pP t (H - 1)) 0 (W - 1)

theorem prove_eq {W H : Nat} (hW0 : 0 < W) (hH0 : 0 < H) (hW : W ≤ 64) (hH : H ≤ 64) {c : Nat → Nat → Int} (hb : CB W c) (hc : seam_Check (tbl W H c) = some 0) (l : List Int) (n : Int) {t : List (List Int)} (hi64 : I64 t) :
    (Pr50 W H c l n t ∧ seam_Prove (tbl W H c) l n t = some 0) ∨ (¬ Pr50 W H c l n t ∧ seam_Prove (tbl W H c) l n t = some 12) := by
  unfold seam_Prove Pr50
  rw [hc, Option.bind_some, if_neg (by decide)]
  rcases total_eq hW0 hH0 (by omega) (by omega) hb.bnd l with ⟨hs, e⟩ | ⟨hs, e⟩
  · rw [e]
    simp only [Option.bind_some, Bool.not_true]
    rw [if_neg (by decide)]
    by_cases hn : ss c (cr l) H = n
    · rw [if_neg (by simp [hn])]
      rcases holds_eq hW0 hH0 hW hH hb hi64 with ⟨hp, e2⟩ | ⟨hp, e2⟩
      · have hr := hp.2 (H - 1) (by omega)
        have hr1 := hp.1
        rw [e2, Option.bind_some, if_neg (by decide), tbl_len, w64_id (by omega) (by omega), ix_getD (i := H - 1) (d := []) (by omega) (by omega), Option.bind_some, row_pP hr.1, min_row hW0 (by omega), Option.bind_some, Option.bind_some]
        by_cases hm : mn (pP t (H - 1)) 0 (W - 1) < n
        · rw [decide_eq_true hm]; exact .inr ⟨fun h => by omega, rfl⟩
        · rw [decide_eq_false hm]; exact .inl ⟨⟨hs, hn, hp, by omega⟩, rfl⟩
      · rw [e2]
        exact .inr ⟨fun h => hp h.2.2.1, rfl⟩
    · rw [if_pos (by simpa using hn)]
      exact .inr ⟨fun h => hn h.2.1, rfl⟩
  · rw [e]
    exact .inr ⟨fun h => hs h.1, rfl⟩
theorem prove_bad {t p : List (List Int)} {l : List Int} {n k : Int} (hk : k ≠ 0) (hc : seam_Check t = some k) : seam_Prove t l n p = some k := by
  unfold seam_Prove
  rw [hc, Option.bind_some, if_pos (by simpa using hk)]

theorem optimal_true (t : List (List Int)) (l : List Int) (n : Int) (p : List (List Int)) (r : List Int) (hi64 : I64 p) : fiduciallaw50_SeamOptimal t l n p r = some true := by
  unfold fiduciallaw50_SeamOptimal
  rw [known_true, Option.bind_some, if_neg (by decide), few_eq, Option.bind_some]
  cases hf : few t with
  | false => rfl
  | true =>
    rw [if_neg (by decide), few_eq, Option.bind_some]
    cases hf2 : few p with
    | false => rfl
    | true =>
      rw [if_neg (by decide)]
      by_cases hl : 20 < l.length
      · rw [if_pos (by simp; omega)]; rfl
      rw [if_neg (by simp; omega)]
      by_cases hl2 : 20 < r.length
      · rw [if_pos (by simp; omega)]; rfl
      rw [if_neg (by simp; omega)]
      rcases check_few hf with ⟨W, H, c, rfl, h1, h2, h3, h4, hcb, hc⟩ | ⟨k, hk, hc⟩
      · rcases prove_eq h1 h3 (by omega) (by omega) hcb hc l n hi64 with ⟨⟨q1, q2, q3, q4⟩, e⟩ | ⟨_, e⟩
        · rw [e, Option.bind_some, Option.bind_some, if_neg (by decide)]
          unfold seam_Total
          rw [hc, Option.bind_some, Option.bind_some, if_neg (by decide), if_neg (by decide)]
          have e1 : seam_total (tbl W H c) l = some (ss c (cr l) H, true) := by
            rcases total_eq h1 h3 (by omega) (by omega) hcb.bnd l with ⟨_, e⟩ | ⟨hn, _⟩
            · exact e
            · exact absurd q1 hn
          rw [e1]
          rcases total_eq h1 h3 (by omega) (by omega) hcb.bnd r with ⟨hs, e2⟩ | ⟨hs, e2⟩
          · rw [e2]
            have hge : n ≤ ss c (cr r) H := by
              have a1 := pot_le (c := c) (p := pP p) (W := W) (H := H) (fun x hx => (q3.2 0 h3).2 x hx) (fun y x hy hx => (q3.2 (y + 1) hy).2 x hx) hs.seam (H - 1) (by omega)
              rw [show H - 1 + 1 = H by omega] at a1
              have a2 := mn_le (pP p (H - 1)) 0 (W - 1) (cr r (H - 1)) (by omega) (by have := hs.seam.1 (H - 1) (by omega); omega)
              omega
            simp [q2, hge]
          · rw [e2]
            simp [q2]
        · rw [e]; rfl
      · rw [prove_bad hk hc, Option.bind_some, Option.bind_some, if_pos (by simpa using hk)]
end Go.Proofs.Ytomlpofoaokmdaa
