/-
  PLAIN, chapter 45: proofs; Lines, Proofs.
-/
import Derived.Test.YtgakaghdiodakaaP45c
set_option linter.unusedSimpArgs false
set_option linter.unusedVariables false
namespace Go.Proofs.Ytgakaghdiodakaa
open Go.E

def pP (t : List (List Int)) : Nat → Nat → Int := fun y x => (t.getD y []).getD x 0
theorem row_pP {t : List (List Int)} {y W : Nat} (h : (t.getD y []).length = W) : t.getD y [] = row W (pP t y) := by
  have := row_of (t.getD y [])
  rw [h] at this
  exact this
def pg (p q : Int) (W : Nat) (c P : Nat → Nat → Int) (y d : Nat) : Prop := match y with
  | 0 => P 0 d ≤ c 0 d
  | y + 1 => P (y + 1) d ≤ tr p q W (P y) d + c (y + 1) d
def P40 (t : List (List Int)) : Prop := ∀ y x, -1099511627776 ≤ pP t y x ∧ pP t y x ≤ 1099511627776
def Sh (W H : Nat) (t : List (List Int)) : Prop := t.length = H ∧ ∀ y, y < H → (t.getD y []).length = W

/-- Two searches for the first number with P, step by step. -/
theorem loop_hit {X : Type} {step : Int → Option (Step Int X)} (P : Nat → Prop) (e d : X) (n : Nat) (hn : n ≤ 1000000)
    (h : ∀ i, i < n → (∀ j, j < i → ¬ P j) → (P i ∧ step (i : Int) = some (.done e)) ∨ (¬ P i ∧ step (i : Int) = some (.next ((i + 1 : Nat) : Int)))) (hd : step (n : Int) = some (.done d)) :
    ((∀ i, i < n → ¬ P i) ∧ loopM FUEL step 0 = some d) ∨ ((∃ i, i < n ∧ P i) ∧ loopM FUEL step 0 = some e) := by
  rcases first_of P n with hp | ⟨i, h1, h2, h3⟩
  · exact .inl ⟨hp, loop_go (fun i => (i : Int)) (s0 := 0) n (by unfold FUEL; omega) rfl (fun i hi => (h i hi (fun j hj => hp j (by omega))).elim (fun q => absurd q.1 (hp i hi)) (fun q => q.2)) hd⟩
  · exact .inr ⟨⟨i, h1, h2⟩, loop_go (fun i => (i : Int)) (s0 := 0) i (by unfold FUEL; omega) rfl (fun j hj => (h j (by omega) (fun k hk => h3 k (by omega))).elim (fun q => absurd q.1 (h3 j hj)) (fun q => q.2)) ((h i h1 h3).elim (fun q => q.2) (fun q => absurd h2 q.1))⟩

/-! ### Prove -/

theorem prove3 {p q : Int} (hp : PB p q) {W H : Nat} (hW0 : 0 < W) (hW : W ≤ 64) (hH : H ≤ 64) {c : Nat → Nat → Int} (hc : CB W c) {t : List (List Int)} (hs : Sh W H t) (hB : P40 t) {y : Nat} (hy : y < H) {f : Nat → Int} (hf : ∀ d, d < W → -1099511627776 ≤ f d ∧ f d ≤ 1099512676352) (hfe : ∀ d, d < W → (pg p q W c (pP t) y d ↔ pP t y d ≤ f d + c y d)) :
    ((∀ d, d < W → ¬ ¬ pg p q W c (pP t) y d) ∧ loopM FUEL (fun s : Int => aggregate_Prove_s3 (tbl W H c) (y : Int) (row W (pP t y)) (row W f) s) 0 = some (.inr ())) ∨ ((∃ d, d < W ∧ ¬ pg p q W c (pP t) y d) ∧ loopM FUEL (fun s : Int => aggregate_Prove_s3 (tbl W H c) (y : Int) (row W (pP t y)) (row W f) s) 0 = some (.inl 12)) := by
  refine loop_hit (X := Int ⊕ Unit) (fun d => ¬ pg p q W c (pP t) y d) (.inl 12) (.inr ()) W (by omega) (fun i hi _ => ?_) ?_
  · unfold aggregate_Prove_s3
    have h1 := hf i hi
    have h2 := hc y i hi
    rw [row_len, if_pos (by simpa using hi), row_ix W _ rfl hi, Option.bind_some, row_ix W _ rfl hi, Option.bind_some, tbl_ix W H c rfl hy, Option.bind_some, row_ix W _ rfl hi, Option.bind_some, w64_id (z := f i + c y i) (by omega) (by omega), w64_id (by omega) (by omega)]
    by_cases h : f i + c y i < pP t y i
    · rw [if_pos (decide_eq_true h)]; exact .inl ⟨fun h3 => by have := (hfe i hi).1 h3; omega, rfl⟩
    · rw [if_neg (by simpa using h)]; exact .inr ⟨fun h3 => h3 ((hfe i hi).2 (by omega)), rfl⟩
  · unfold aggregate_Prove_s3
    rw [row_len, if_neg (by simp)]

theorem prove2 {p q : Int} (hp : PB p q) {W H : Nat} (hW0 : 0 < W) (hW : W ≤ 64) (hH : H ≤ 64) {c : Nat → Nat → Int} (hc : CB W c) {t : List (List Int)} (hs : Sh W H t) (hB : P40 t) :
    ((∀ y, y < H → ¬ ∃ d, d < W ∧ ¬ pg p q W c (pP t) y d) ∧ loopM FUEL (fun s : Int => aggregate_Prove_s2 (tbl W H c) p q t s) 0 = some (.inr ())) ∨ ((∃ y, y < H ∧ ∃ d, d < W ∧ ¬ pg p q W c (pP t) y d) ∧ loopM FUEL (fun s : Int => aggregate_Prove_s2 (tbl W H c) p q t s) 0 = some (.inl 12)) := by
  refine loop_hit (X := Int ⊕ Unit) (fun y => ∃ d, d < W ∧ ¬ pg p q W c (pP t) y d) (.inl 12) (.inr ()) H (by omega) (fun y hy _ => ?_) ?_
  · unfold aggregate_Prove_s2
    rw [hs.1, if_pos (by simpa using hy), ix_getD (i := y) (d := []) rfl (by have := hs.1; omega), Option.bind_some, row_pP (hs.2 y hy), row_len, chk_pos (by omega), w64_id (z := (y : Int) + 1) (by omega) (by omega)]
    have key : ∃ f : Nat → Int, (if decide (0 < (y : Int)) = true then (ix t (w64 ((y : Int) - 1))).bind fun v_14 => (aggregate_reached v_14 p q).bind fun y_15 => some y_15 else some (List.replicate ((W : Int)).toNat (0 : Int))) = some (row W f) ∧ (∀ d, d < W → -1099511627776 ≤ f d ∧ f d ≤ 1099512676352) ∧ (∀ d, d < W → (pg p q W c (pP t) y d ↔ pP t y d ≤ f d + c y d)) := by
      cases y with
      | zero =>
        refine ⟨fun _ => 0, ?_, fun d _ => by dsimp only; omega, fun d _ => ?_⟩
        · rw [if_neg (by simp), show ((W : Int)).toNat = W by omega]
          congr 1
          apply List.ext_getElem?
          intro z
          by_cases hz : z < W
          · rw [row_get _ _ hz, List.getElem?_replicate, if_pos hz]
          · rw [List.getElem?_eq_none (by simp; omega), List.getElem?_eq_none (by rw [row_len]; omega)]
        · show pP t 0 d ≤ c 0 d ↔ pP t 0 d ≤ 0 + c 0 d
          omega
      | succ y =>
        refine ⟨tr p q W (pP t y), ?_, fun d hd => ?_, fun d _ => Iff.rfl⟩
        · rw [if_pos (by simp only [decide_eq_true_eq]; omega), w64_id (z := ((y + 1 : Nat) : Int) - 1) (by omega) (by omega), ix_getD (i := y) (d := []) (by omega) (by have := hs.1; omega), Option.bind_some, row_pP (hs.2 y (by omega)), reached_eq hp hW0 (by omega) (fun d => by have := hB y d; omega)]
          rfl
        · obtain ⟨e, h1, h2⟩ := tr_ex (p := p) (q := q) hW0 (pP t y) d
          have h3 := hB y e
          have h4 := vp_bound hp d e
          have h5 := hp.2.2
          omega
    obtain ⟨f, k1, k2, k3⟩ := key
    rw [k1, Option.bind_some]
    rcases prove3 hp hW0 hW hH hc hs hB hy k2 k3 with ⟨h1, h2⟩ | ⟨h1, h2⟩
    · rw [h2]
      exact .inr ⟨fun ⟨d, hd, hn⟩ => h1 d hd hn, rfl⟩
    · rw [h2]
      exact .inl ⟨h1, rfl⟩
  · unfold aggregate_Prove_s2
    rw [hs.1, if_neg (by simp)]

/-! ### The definition -/

theorem proves5 {p q : Int} (hp : PB p q) {W H : Nat} (hW0 : 0 < W) (hW : W ≤ 64) (hH : H ≤ 64) {c : Nat → Nat → Int} (hc : CB W c) {t : List (List Int)} (hs : Sh W H t) (hB : P40 t) {y d : Nat} (hy : y < H) (hd : d < W) (h0 : y = 0 → pP t 0 d ≤ c 0 d) :
    (pg p q W c (pP t) y d ∧ loopM FUEL (fun s : Int => fiduciallaw45_proves_s5 (tbl W H c) p q t (y : Int) (row W (pP t y)) (d : Int) (pP t y d) s) 0 = some (.inr ())) ∨ (¬ pg p q W c (pP t) y d ∧ loopM FUEL (fun s : Int => fiduciallaw45_proves_s5 (tbl W H c) p q t (y : Int) (row W (pP t y)) (d : Int) (pP t y d) s) 0 = some (.inl 12)) := by
  have h5 := hp.2.2
  cases y with
  | zero =>
    refine .inl ⟨h0 rfl, loop_go (fun i => (i : Int)) (s0 := 0) W (by unfold FUEL; omega) rfl (fun i hi => ?_) ?_⟩
    · unfold fiduciallaw45_proves_s5
      rw [row_len, if_pos (by simpa using hi), if_neg (by simp), Option.bind_some, if_neg (by decide), w64_id (by omega) (by omega)]
      rfl
    · unfold fiduciallaw45_proves_s5
      rw [row_len, if_neg (by simp)]
  | succ y =>
    have hc1 := hc (y + 1) d hd
    have key := loop_hit (step := fun s : Int => fiduciallaw45_proves_s5 (tbl W H c) p q t ((y + 1 : Nat) : Int) (row W (pP t (y + 1))) (d : Int) (pP t (y + 1) d) s) (fun e => c (y + 1) d + pP t y e + vp p q d e < pP t (y + 1) d) (.inl 12) (.inr ()) W (by omega) (fun e he _ => by
      have h3 := hB y e
      have h4 := vp_bound hp d e
      unfold fiduciallaw45_proves_s5
      rw [row_len, if_pos (by simpa using he), if_pos (by simp only [decide_eq_true_eq]; omega), tbl_ix W H c rfl hy, Option.bind_some, row_ix W _ rfl hd, Option.bind_some, w64_id (z := ((y + 1 : Nat) : Int) - 1) (by omega) (by omega), ix_getD (i := y) (d := []) (by omega) (by have := hs.1; omega), Option.bind_some, row_pP (hs.2 y (by omega)), row_ix W _ rfl he, Option.bind_some, jump_eq p q (a := d) (b := e) (by omega) (by omega) rfl rfl, Option.bind_some, Option.bind_some, w64_id (z := c (y + 1) d + pP t y e) (by omega) (by omega), w64_id (z := c (y + 1) d + pP t y e + vp p q d e) (by omega) (by omega), w64_id (z := (e : Int) + 1) (by omega) (by omega)]
      by_cases h : c (y + 1) d + pP t y e + vp p q d e < pP t (y + 1) d
      · rw [if_pos (decide_eq_true h)]; exact .inl ⟨h, rfl⟩
      · rw [if_neg (by simpa using h)]; exact .inr ⟨h, rfl⟩) (by
      show fiduciallaw45_proves_s5 (tbl W H c) p q t ((y + 1 : Nat) : Int) (row W (pP t (y + 1))) (d : Int) (pP t (y + 1) d) (W : Int) = _
      unfold fiduciallaw45_proves_s5
      rw [row_len, if_neg (by simp)])
    rcases key with ⟨h1, h2⟩ | ⟨⟨e, h1, h3⟩, h2⟩
    · refine .inl ⟨?_, h2⟩
      obtain ⟨e, q1, q2⟩ := tr_ex (p := p) (q := q) hW0 (pP t y) d
      have := h1 e q1
      show pP t (y + 1) d ≤ tr p q W (pP t y) d + c (y + 1) d
      omega
    · refine .inr ⟨fun (h4 : pP t (y + 1) d ≤ tr p q W (pP t y) d + c (y + 1) d) => ?_, h2⟩
      have := tr_le (p := p) (q := q) (pP t y) d h1
      omega

theorem proves4 {p q : Int} (hp : PB p q) {W H : Nat} (hW0 : 0 < W) (hH0 : 0 < H) (hW : W ≤ 64) (hH : H ≤ 64) {c : Nat → Nat → Int} (hc : CB W c) {t : List (List Int)} (hs : Sh W H t) (hB : P40 t) {y : Nat} (hy : y < H) :
    ((∀ d, d < W → ¬ ¬ pg p q W c (pP t) y d) ∧ loopM FUEL (fun s : Int => fiduciallaw45_proves_s4 (tbl W H c) p q t (y : Int) (row W (pP t y)) s) 0 = some (.inr ())) ∨ ((∃ d, d < W ∧ ¬ pg p q W c (pP t) y d) ∧ loopM FUEL (fun s : Int => fiduciallaw45_proves_s4 (tbl W H c) p q t (y : Int) (row W (pP t y)) s) 0 = some (.inl 12)) := by
  refine loop_hit (X := Int ⊕ Unit) (fun d => ¬ pg p q W c (pP t) y d) (.inl 12) (.inr ()) W (by omega) (fun i hi _ => ?_) ?_
  · unfold fiduciallaw45_proves_s4
    rw [row_len, if_pos (by simpa using hi), row_ix W _ rfl hi, Option.bind_some, w64_id (z := (i : Int) + 1) (by omega) (by omega)]
    by_cases h0 : y = 0
    · subst h0
      rw [if_pos (by decide), tbl_ix0 W c hH0, Option.bind_some, row_ix W _ rfl hi, Option.bind_some, Option.bind_some]
      by_cases h : c 0 i < pP t 0 i
      · rw [if_pos (decide_eq_true h)]; exact .inl ⟨fun (h2 : pP t 0 i ≤ c 0 i) => by omega, rfl⟩
      · rw [if_neg (by simpa using h)]
        rcases proves5 hp hW0 hW hH hc hs hB hy hi (fun _ => by omega) with ⟨h1, h2⟩ | ⟨h1, h2⟩
        · rw [h2]; exact .inr ⟨fun h => h h1, rfl⟩
        · rw [h2]; exact .inl ⟨h1, rfl⟩
    · rw [if_neg (by simp only [beq_iff_eq]; omega), Option.bind_some, if_neg (by decide)]
      rcases proves5 hp hW0 hW hH hc hs hB hy hi (fun h => absurd h h0) with ⟨h1, h2⟩ | ⟨h1, h2⟩
      · rw [h2]; exact .inr ⟨fun h => h h1, rfl⟩
      · rw [h2]; exact .inl ⟨h1, rfl⟩
  · unfold fiduciallaw45_proves_s4
    rw [row_len, if_neg (by simp)]

theorem proves3 {p q : Int} (hp : PB p q) {W H : Nat} (hW0 : 0 < W) (hH0 : 0 < H) (hW : W ≤ 64) (hH : H ≤ 64) {c : Nat → Nat → Int} (hc : CB W c) {t : List (List Int)} (hs : Sh W H t) (hB : P40 t) :
    ((∀ y, y < H → ¬ ∃ d, d < W ∧ ¬ pg p q W c (pP t) y d) ∧ loopM FUEL (fun s : Int => fiduciallaw45_proves_s3 (tbl W H c) p q t s) 0 = some (.inr ())) ∨ ((∃ y, y < H ∧ ∃ d, d < W ∧ ¬ pg p q W c (pP t) y d) ∧ loopM FUEL (fun s : Int => fiduciallaw45_proves_s3 (tbl W H c) p q t s) 0 = some (.inl 12)) := by
  refine loop_hit (X := Int ⊕ Unit) (fun y => ∃ d, d < W ∧ ¬ pg p q W c (pP t) y d) (.inl 12) (.inr ()) H (by omega) (fun y hy _ => ?_) ?_
  · unfold fiduciallaw45_proves_s3
    rw [hs.1, if_pos (by simpa using hy), ix_getD (i := y) (d := []) rfl (by have := hs.1; omega), Option.bind_some, row_pP (hs.2 y hy), w64_id (z := (y : Int) + 1) (by omega) (by omega)]
    rcases proves4 hp hW0 hH0 hW hH hc hs hB hy with ⟨h1, h2⟩ | ⟨h1, h2⟩
    · rw [h2]
      exact .inr ⟨fun ⟨d, hd, hn⟩ => h1 d hd hn, rfl⟩
    · rw [h2]
      exact .inl ⟨h1, rfl⟩
  · unfold fiduciallaw45_proves_s3
    rw [hs.1, if_neg (by simp)]

/-- What Prove accepts, once the costs and penalties are valid. -/
def Pr45 (p q : Int) (W H : Nat) (c : Nat → Nat → Int) (t : List (List Int)) (n : Int) : Prop :=
  Sh W H t ∧ (∀ y d, y < H → d < W → pg p q W c (pP t) y d) ∧ n ≤ mn (pP t (H - 1)) 0 (W - 1)

theorem big_eq {r : List Int} (hr : r.length ≤ 1000) : ((r.any fun z => decide (z < -1099511627776) || decide (1099511627776 < z)) = true ∧ loopM FUEL (fun s : Int => fiduciallaw45_proves_s6 r s) 0 = some (.inl 2)) ∨ ((r.any fun z => decide (z < -1099511627776) || decide (1099511627776 < z)) = false ∧ loopM FUEL (fun s : Int => fiduciallaw45_proves_s6 r s) 0 = some (.inr ())) := by
  have key := loop_hit (step := fun s : Int => fiduciallaw45_proves_s6 r s) (fun i => (decide (cg r i < -1099511627776) || decide (1099511627776 < cg r i)) = true) (.inl 2) (.inr ()) r.length (by omega) (fun i hi _ => by
    unfold fiduciallaw45_proves_s6
    rw [if_pos (by simpa using hi), cg_ix rfl hi, Option.bind_some, w64_id (z := (i : Int) + 1) (by omega) (by omega)]
    by_cases h : cg r i < -1099511627776
    · rw [if_pos (decide_eq_true h), decide_eq_true h]; exact .inl ⟨rfl, rfl⟩
    · rw [if_neg (by simpa using h), decide_eq_false h, Bool.false_or, Option.bind_some]
      by_cases h2 : 1099511627776 < cg r i
      · rw [decide_eq_true h2]; exact .inl ⟨rfl, rfl⟩
      · rw [decide_eq_false h2]; exact .inr ⟨by decide, rfl⟩) (by
    show fiduciallaw45_proves_s6 r (r.length : Int) = _
    unfold fiduciallaw45_proves_s6
    rw [if_neg (by simp)])
  rcases key with ⟨h1, h2⟩ | ⟨⟨i, h1, h3⟩, h2⟩
  · refine .inr ⟨?_, h2⟩
    rw [List.any_eq_false]
    intro v hv
    obtain ⟨i, hi⟩ := List.getElem?_of_mem hv
    obtain ⟨hi1, rfl⟩ := List.getElem?_eq_some_iff.1 hi
    have := h1 i hi1
    unfold cg at this
    rwa [getD_eq hi1] at this
  · exact .inl ⟨List.any_eq_true.2 ⟨_, getD_mem h1, h3⟩, h2⟩

theorem both {p q : Int} (hp : PB p q) {W H : Nat} (hW0 : 0 < W) (hH0 : 0 < H) (hW : W ≤ 64) (hH : H ≤ 64) {c : Nat → Nat → Int} (hc : CB W c) (hk : aggregate_checked (tbl W H c) p q = some 0) {t : List (List Int)} (ht : t.length ≤ 1000) (ht2 : ∀ r ∈ t, r.length ≤ 1000) (n : Int) :
    (Pr45 p q W H c t n ∧ aggregate_Prove (tbl W H c) p q t n = some 0 ∧ fiduciallaw45_proves (tbl W H c) p q t n = some 0) ∨ (∃ k, k ≠ 0 ∧ (P40 t → ¬ Pr45 p q W H c t n) ∧ aggregate_Prove (tbl W H c) p q t n = some k ∧ fiduciallaw45_proves (tbl W H c) p q t n = some k) := by
  unfold aggregate_Prove fiduciallaw45_proves
  rw [hk, Option.bind_some, if_neg (by decide), tbl_len]
  by_cases hl : t.length = H
  · rw [if_neg (show ¬ ((t.length : Int) != (H : Int)) = true by simp only [bne_iff_ne, ne_eq, Classical.not_not]; omega), if_neg (show ¬ ((t.length : Int) != (H : Int)) = true by simp only [bne_iff_ne, ne_eq, Classical.not_not]; omega)]
    have hany : slices_ContainsFunc_ssint t (fun z => aggregate_Prove_c1 z (tbl W H c)) = some (t.any fun r => !decide (r.length = W)) := any_rows _ (fun r _ => by
      unfold aggregate_Prove_c1
      rw [tbl_ix0 W c hH0, Option.bind_some, row_len]
      by_cases h : r.length = W
      · simp [h]
      · have : ¬ ((r.length : Int) = (W : Int)) := by omega
        simp [h, this]) (by omega)
    rw [hany, Option.bind_some, Option.bind_some]
    have hl1 := loop_hit (step := fun s : Int => fiduciallaw45_proves_s1 (tbl W H c) t s) (fun i => (t.getD i []).length ≠ W) (.inl 4) (.inr ()) t.length (by omega) (fun i hi _ => by
      unfold fiduciallaw45_proves_s1
      rw [if_pos (by simpa using hi), ix_getD (i := i) (d := []) rfl hi, Option.bind_some, tbl_ix0 W c hH0, Option.bind_some, row_len, w64_id (z := (i : Int) + 1) (by omega) (by omega)]
      by_cases h : (t.getD i []).length = W
      · rw [if_neg (by simp only [bne_iff_ne, ne_eq, Classical.not_not]; omega)]; exact .inr ⟨fun h2 => h2 h, rfl⟩
      · rw [if_pos (by simp only [bne_iff_ne, ne_eq]; omega)]; exact .inl ⟨h, rfl⟩) (by
      show fiduciallaw45_proves_s1 (tbl W H c) t (t.length : Int) = _
      unfold fiduciallaw45_proves_s1
      rw [if_neg (by simp)])
    rcases hl1 with ⟨a1, a2⟩ | ⟨⟨i, a1, a3⟩, a2⟩
    · have hsh : Sh W H t := ⟨hl, fun y hy => Classical.byContradiction (a1 y (by omega))⟩
      have hrl : ∀ r ∈ t, r.length = W := fun r hr => by
        obtain ⟨i, hi⟩ := List.getElem?_of_mem hr
        obtain ⟨hi1, rfl⟩ := List.getElem?_eq_some_iff.1 hi
        have := hsh.2 i (by omega)
        rwa [getD_eq hi1] at this
      have hf : (t.any fun r => !decide (r.length = W)) = false := by
        rw [List.any_eq_false]
        intro r hr
        simp [hrl r hr]
      rw [hf, if_neg (by decide), a2]
      simp only [Option.bind_some]
      have hst : ∀ i, i < t.length → (((t.getD i []).any fun z => decide (z < -1099511627776) || decide (1099511627776 < z)) = true ∧ aggregate_Prove_s1 t (i : Int) = some (.done (.inl 2)) ∧ fiduciallaw45_proves_s2 t (i : Int) = some (.done (.inl 2))) ∨ (¬ ((t.getD i []).any fun z => decide (z < -1099511627776) || decide (1099511627776 < z)) = true ∧ aggregate_Prove_s1 t (i : Int) = some (.next ((i + 1 : Nat) : Int)) ∧ fiduciallaw45_proves_s2 t (i : Int) = some (.next ((i + 1 : Nat) : Int))) := fun i hi => by
        have hri := hsh.2 i (by omega)
        unfold aggregate_Prove_s1 fiduciallaw45_proves_s2
        rw [if_pos (by simpa using hi), if_pos (by simpa using hi), ix_getD (i := i) (d := []) rfl hi, Option.bind_some, Option.bind_some, minmax (fun h => by rw [h] at hri; simp at hri; omega) (by omega), Option.bind_some, w64_id (by omega) (by omega)]
        rcases big_eq (r := t.getD i []) (by omega) with ⟨b1, b2⟩ | ⟨b1, b2⟩
        · rw [b1, b2]; exact .inl ⟨rfl, rfl, rfl⟩
        · rw [b1, b2]; exact .inr ⟨by decide, rfl, rfl⟩
      have hl2 := loop_hit (step := fun s : Int => aggregate_Prove_s1 t s) (fun i => ((t.getD i []).any fun z => decide (z < -1099511627776) || decide (1099511627776 < z)) = true) (.inl 2) (.inr ()) t.length (by omega) (fun i hi _ => (hst i hi).elim (fun h => .inl ⟨h.1, h.2.1⟩) (fun h => .inr ⟨h.1, h.2.1⟩)) (by
        show aggregate_Prove_s1 t (t.length : Int) = _
        unfold aggregate_Prove_s1
        rw [if_neg (by simp)])
      have hl3 := loop_hit (step := fun s : Int => fiduciallaw45_proves_s2 t s) (fun i => ((t.getD i []).any fun z => decide (z < -1099511627776) || decide (1099511627776 < z)) = true) (.inl 2) (.inr ()) t.length (by omega) (fun i hi _ => (hst i hi).elim (fun h => .inl ⟨h.1, h.2.2⟩) (fun h => .inr ⟨h.1, h.2.2⟩)) (by
        show fiduciallaw45_proves_s2 t (t.length : Int) = _
        unfold fiduciallaw45_proves_s2
        rw [if_neg (by simp)])
      rcases hl2 with ⟨b1, b2⟩ | ⟨⟨i, b1, b3⟩, b2⟩
      · rcases hl3 with ⟨_, c2⟩ | ⟨⟨i, c1, c3⟩, _⟩
        · have hB : P40 t := fun y x => by
            unfold pP
            by_cases hy : y < t.length
            · by_cases hx : x < (t.getD y []).length
              · have := List.any_eq_false.1 ((Bool.not_eq_true _).mp (b1 y hy)) ((t.getD y []).getD x 0) (getD_mem hx)
                simp only [Bool.or_eq_true, decide_eq_true_eq] at this
                omega
              · rw [List.getD_eq_getElem?_getD, List.getElem?_eq_none (by omega)]; simp
            · simp [hy]
          rw [b2, c2]
          simp only [Option.bind_some]
          rcases prove2 hp hW0 hW hH hc hsh hB with ⟨d1, d2⟩ | ⟨⟨y, d1, d, d4, d5⟩, d2⟩
          · rcases proves3 hp hW0 hH0 hW hH hc hsh hB with ⟨_, e2⟩ | ⟨⟨y, e1, e3⟩, _⟩
            · have hall : ∀ y d, y < H → d < W → pg p q W c (pP t) y d := fun y d hy hd => Classical.byContradiction fun hn => d1 y hy ⟨d, hd, hn⟩
              rw [d2, e2, hl]
              simp only [Option.bind_some]
              rw [w64_id (by omega) (by omega), ix_getD (i := H - 1) (d := []) (by omega) (by omega), Option.bind_some, row_pP (hsh.2 (H - 1) (by omega)), min_row hW0 (by omega), Option.bind_some]
              by_cases hm : mn (pP t (H - 1)) 0 (W - 1) < n
              · rw [if_pos (by simpa using hm)]; exact .inr ⟨12, by decide, fun _ h => by have := h.2.2; omega, rfl, rfl⟩
              · rw [if_neg (by simpa using hm)]; exact .inl ⟨⟨hsh, hall, by omega⟩, rfl, rfl⟩
            · exact absurd e3 (d1 y e1)
          · rcases proves3 hp hW0 hH0 hW hH hc hsh hB with ⟨e1, _⟩ | ⟨_, e2⟩
            · exact absurd ⟨d, d4, d5⟩ (e1 y d1)
            · rw [d2, e2]; exact .inr ⟨12, by decide, fun _ h => d5 (h.2.1 y d d1 d4), rfl, rfl⟩
        · exact absurd c3 (b1 i c1)
      · rcases hl3 with ⟨c1, _⟩ | ⟨_, c2⟩
        · exact absurd b3 (c1 i b1)
        · rw [b2, c2]
          refine .inr ⟨2, by decide, fun hB _ => ?_, rfl, rfl⟩
          obtain ⟨v, hv, hv2⟩ := List.any_eq_true.1 b3
          obtain ⟨x, hx⟩ := List.getElem?_of_mem hv
          obtain ⟨hx1, rfl⟩ := List.getElem?_eq_some_iff.1 hx
          have := hB i x
          unfold pP at this
          rw [getD_eq hx1] at this
          simp only [Bool.or_eq_true, decide_eq_true_eq] at hv2
          omega
    · have hf : (t.any fun r => !decide (r.length = W)) = true := List.any_eq_true.2 ⟨t.getD i [], by rw [getD_eq a1]; exact List.getElem_mem _, by simp only [Bool.not_eq_true', decide_eq_false_iff_not]; exact a3⟩
      rw [hf, if_pos rfl, a2]
      exact .inr ⟨4, by decide, fun _ h => a3 (h.1.2 i (by omega)), rfl, rfl⟩
  · rw [if_pos (by simp only [bne_iff_ne, ne_eq]; omega), if_pos (by simp only [bne_iff_ne, ne_eq]; omega)]
    exact .inr ⟨4, by decide, fun _ h => hl h.1.1, rfl, rfl⟩

/-- What a proof shows. -/
theorem pr_en {p q : Int} {W H : Nat} (hH0 : 0 < H) {c : Nat → Nat → Int} {t : List (List Int)} {n : Int} (h : Pr45 p q W H c t n) {l : Nat → Nat} (hl : ∀ y, y < H → l y < W) : n ≤ en p q c l H := by
  have h1 := pot_en (p := p) (q := q) (c := c) (P := pP t) (W := W) (H := H) (fun d hd => h.2.1 0 d hH0 hd) (fun y d hy hd => h.2.1 (y + 1) d hy hd) hl (H - 1) (by omega)
  rw [show H - 1 + 1 = H by omega] at h1
  have h2 := mn_le (pP t (H - 1)) 0 (W - 1) (l (H - 1)) (by omega) (by have := hl (H - 1) (by omega); omega)
  have h3 := h.2.2
  omega

theorem equal_self (xs : List Int) (h : xs.length ≤ 1000000) : slices_Equal_sint xs xs = some true := by
  unfold slices_Equal_sint
  rw [if_neg (by simp)]
  rcases eq_loop (step := fun s => slices_Equal_sint_s1 xs xs s) (fun a b => a == b) (fun a b => by simp) h rfl (fun s => rfl) with ⟨_, e⟩ | ⟨hn, _⟩
  · rw [e]; rfl
  · exact absurd rfl hn

theorem pP_tbl {W H : Nat} {c : Nat → Nat → Int} {y x : Nat} (hy : y < H) (hx : x < W) : pP (tbl W H c) y x = c y x := by
  unfold pP
  have e : (tbl W H c).getD y [] = row W (c y) := by rw [List.getD_eq_getElem?_getD, tbl_get _ _ _ hy]; rfl
  rw [e, List.getD_eq_getElem?_getD, row_get _ _ hx]; rfl

theorem line_pr {p q : Int} {W H : Nat} (hW0 : 0 < W) (hH0 : 0 < H) (c : Nat → Nat → Int) : Pr45 p q W H c (tbl W H (Fw p q c W)) (me p q c W H) := by
  refine ⟨⟨tbl_len _ _ _, fun y hy => by rw [List.getD_eq_getElem?_getD, tbl_get _ _ _ hy]; exact row_len _ _⟩, fun y d hy hd => ?_, ?_⟩
  · cases y with
    | zero =>
      show pP (tbl W H (Fw p q c W)) 0 d ≤ c 0 d
      rw [pP_tbl hy hd]
      exact Int.le_refl _
    | succ y =>
      show pP (tbl W H (Fw p q c W)) (y + 1) d ≤ tr p q W (pP (tbl W H (Fw p q c W)) y) d + c (y + 1) d
      rw [pP_tbl hy hd, tr_congr hW0 (f := Fw p q c W y) (fun e he => pP_tbl (by omega) he)]
      simp only [Fw]
      omega
  · have h := am_in (pP (tbl W H (Fw p q c W)) (H - 1)) 0 (W - 1)
    rw [← am_val, pP_tbl (by omega) (by omega)]
    exact Fw_last c hW0 hH0 (by omega)

theorem tbl_P40 {p q : Int} (hp : PB p q) {W H : Nat} (hW0 : 0 < W) (hH : H ≤ 64) {c : Nat → Nat → Int} (hc : CB W c) : P40 (tbl W H (Fw p q c W)) := fun y x => by
  by_cases hy : y < H
  · by_cases hx : x < W
    · rw [pP_tbl hy hx]
      have h := Fw_bound hp hW0 hc y x hx
      have := Int.mul_le_mul_of_nonneg_right (show (y : Int) + 1 ≤ 64 by omega) (show (0 : Int) ≤ 2097152 by omega)
      omega
    · have e : (tbl W H (Fw p q c W)).getD y [] = row W (Fw p q c W y) := by rw [List.getD_eq_getElem?_getD, tbl_get _ _ _ hy]; rfl
      unfold pP
      rw [e, List.getD_eq_getElem?_getD, List.getElem?_eq_none (by rw [row_len]; omega)]
      simp
  · unfold pP
    have e : (tbl W H (Fw p q c W)).getD y [] = [] := by rw [List.getD_eq_getElem?_getD, List.getElem?_eq_none (by rw [tbl_len]; omega)]; rfl
    rw [e]
    simp

theorem lines_true (t : List (List Int)) (p q : Int) (l : List Int) : fiduciallaw45_AggregateLines t p q l = some true := by
  unfold fiduciallaw45_AggregateLines
  rw [known45, Option.bind_some, if_neg (by decide), few_eq, Option.bind_some]
  cases hf : few t with
  | false => rfl
  | true =>
    rw [if_neg (by decide), Option.bind_some]
    by_cases hl : 30 < l.length
    · rw [if_pos (by simp; omega)]
    rw [if_neg (by simp; omega)]
    rcases lined_cases hf p q with ⟨W, H, c, rfl, h1, h2, h3, h4, hc, hp, q1, q2⟩ | ⟨k, hk, q1, q2⟩
    · have hP := line_pr (p := p) (q := q) h1 h3 c
      rw [line_ok hp h1 h3 (by omega) (by omega) hc q1, q2, first45 hp h1 h3 (by omega) (by omega) hc, tbl_ix0 W c h3, tbl_len]
      simp only [Option.bind_some, row_len]
      rw [if_neg (by decide), if_neg (by decide), if_neg (by simp), equal_self _ (by unfold lbL; rw [row_len]; omega)]
      simp only [Option.bind_some]
      rw [if_neg (by decide)]
      rcases both hp h1 h3 (by omega) (by omega) hc q1 (t := tbl W H (Fw p q c W)) (by rw [tbl_len]; omega) (fun r hr => by
        obtain ⟨y, _, rfl⟩ := List.mem_map.1 hr
        rw [row_len]; omega) (me p q c W H) with ⟨_, e1, e2⟩ | ⟨k, _, e3, _⟩
      · rw [e1, e2]
        simp only [Option.bind_some]
        rw [if_neg (by decide)]
        simp only [Option.bind_some]
        rw [if_neg (by decide)]
        rcases labelled_eq l H W (by omega) with ⟨⟨g1, g2⟩, g3⟩ | ⟨k, hk, g3⟩
        · rw [g3, Option.bind_some, if_neg (by decide), (energy_eq hp (by omega) (by omega) hc g1 g2).1, Option.bind_some]
          have := en_me (p := p) (q := q) (c := c) (W := W) h3 (l := cr l) (fun y hy => (g2 y hy).1)
          rw [decide_eq_true this]
        · rw [g3, Option.bind_some, if_pos (by simpa using hk)]
      · exact absurd hP (e3 (tbl_P40 hp h1 (by omega) hc))
    · have e : aggregate_Line t p q = some ([], 0, [], k) := by
        unfold aggregate_Line
        rw [q1, Option.bind_some, if_pos (by simpa using hk)]
      rw [e, q2]
      simp only [Option.bind_some]
      rw [if_pos (by simpa using hk), if_pos (by simp)]
      rfl

theorem proofs_true (t p1 : List (List Int)) (p q n : Int) (l : List Int) : fiduciallaw45_AggregateProofs t p1 p q n l = some true := by
  unfold fiduciallaw45_AggregateProofs
  rw [known45, Option.bind_some, if_neg (by decide), few_eq, Option.bind_some]
  cases hf : few t with
  | false => rfl
  | true =>
    rw [if_neg (by decide), few_eq, Option.bind_some]
    cases hf2 : few p1 with
    | false => rfl
    | true =>
      rw [if_neg (by decide), Option.bind_some]
      by_cases hl : 30 < l.length
      · rw [if_pos (by simp; omega)]
      rw [if_neg (by simp; omega)]
      obtain ⟨f1, f2⟩ := few_iff hf2
      rcases lined_cases hf p q with ⟨W, H, c, rfl, h1, h2, h3, h4, hc, hp, q1, q2⟩ | ⟨k, hk, q1, q2⟩
      · rw [q2]
        simp only [Option.bind_some]
        rw [if_pos (by decide)]
        rcases both hp h1 h3 (by omega) (by omega) hc q1 (t := p1) (by omega) (fun r hr => by have := f2 r hr; omega) n with ⟨hP, e1, e2⟩ | ⟨k, hk, _, e1, e2⟩
        · rw [e1, e2]
          simp only [Option.bind_some]
          rw [if_neg (by decide), if_neg (by decide), tbl_ix0 W c h3, tbl_len]
          simp only [Option.bind_some, row_len]
          rcases labelled_eq l H W (by omega) with ⟨⟨g1, g2⟩, g3⟩ | ⟨k, hk, g3⟩
          · rw [g3, Option.bind_some, if_neg (by decide), (energy_eq hp (by omega) (by omega) hc g1 g2).1, Option.bind_some]
            have := pr_en h3 hP (l := cr l) (fun y hy => (g2 y hy).1)
            rw [decide_eq_true this]
          · rw [g3, Option.bind_some, if_pos (by simpa using hk)]
        · rw [e1, e2]
          simp only [Option.bind_some]
          rw [if_neg (by simp), if_pos (by simpa using hk)]
      · have e : aggregate_Prove t p q p1 n = some k := by
          unfold aggregate_Prove
          rw [q1, Option.bind_some, if_pos (by simpa using hk)]
        have hk3 : (k == 0) = false := beq_eq_false_iff_ne.2 hk
        rw [e, q2]
        simp only [Option.bind_some]
        rw [hk3, if_neg (by decide)]
        simp only [Option.bind_some]
        rw [if_neg (by simp), if_pos (by simpa using hk)]
end Go.Proofs.Ytgakaghdiodakaa
