/-
  PLAIN, chapter 45: costs that are checked; energies; Energies, Lines.
-/
import Derived.Test.YtgakaghdiodakaaP45b
import Derived.Test.YtgakaghdiodakaaQAny
import Derived.Test.YtgakaghdiodakaaQAnyS
set_option linter.unusedSimpArgs false
set_option linter.unusedVariables false
namespace Go.Proofs.Ytgakaghdiodakaa
open Go.E

theorem getD_mem {l : List Int} {i : Nat} (h : i < l.length) : l.getD i 0 ∈ l := by rw [getD_eq h]; exact List.getElem_mem h

def few (t : List (List Int)) : Bool := decide (t.length ≤ 20) && !(t.any fun r => decide (20 < (r.length : Int)))
theorem few_eq (t : List (List Int)) : fiduciallaw45_few t = some (few t) := by
  unfold fiduciallaw45_few few
  by_cases h : t.length ≤ 20
  · rw [if_pos (by simp; omega), decide_eq_true h, any_rows (f := fun z => fiduciallaw45_few_c1 z) (fun r => decide (20 < (r.length : Int))) (fun r _ => rfl) (by omega)]
    rfl
  · rw [if_neg (by simp; omega), decide_eq_false h]
    rfl
theorem few_iff {t : List (List Int)} (h : few t = true) : t.length ≤ 20 ∧ ∀ r ∈ t, r.length ≤ 20 := by
  unfold few at h
  simp only [Bool.and_eq_true, decide_eq_true_eq, Bool.not_eq_true', List.any_eq_false] at h
  refine ⟨h.1, fun r hr => ?_⟩
  have := h.2 r hr
  omega

def ok1 (z : Int) : Bool := decide (z < 0) || decide (1048576 < z)
theorem c1_eq (z : Int) : fiduciallaw45_line_c1 z = some (ok1 z) := by
  unfold fiduciallaw45_line_c1 ok1
  by_cases h : z < 0
  · rw [if_pos (decide_eq_true h), decide_eq_true h]; rfl
  · rw [if_neg (by simpa using h), decide_eq_false h]; rfl
theorem ok1_iff {z : Int} : ok1 z = false ↔ 0 ≤ z ∧ z ≤ 1048576 := by
  unfold ok1
  simp only [Bool.or_eq_false_iff, decide_eq_false_iff_not]
  omega

/-- Least and greatest against bounds. -/
theorem minmax {r : List Int} (h0 : r ≠ []) (hn : r.length ≤ 1000000) (lo hi : Int) :
    ((slices_Min_sint r).bind fun y_6 => (if decide (y_6 < lo) = true then some true else (slices_Max_sint r).bind fun y_7 => some (decide (hi < y_7)))) = some (r.any fun z => decide (z < lo) || decide (hi < z)) := by
  obtain ⟨m, h1, h2, h3⟩ := min_spec h0 hn
  obtain ⟨M, k1, k2, k3⟩ := max_spec h0 hn
  rw [h1, Option.bind_some, k1, Option.bind_some]
  by_cases q1 : m < lo
  · rw [if_pos (decide_eq_true q1)]
    congr 1
    exact (List.any_eq_true.2 ⟨m, h2, by simp [q1]⟩).symm
  · rw [if_neg (by simpa using q1)]
    congr 1
    by_cases q2 : hi < M
    · rw [decide_eq_true q2]
      exact (List.any_eq_true.2 ⟨M, k2, by simp [q2]⟩).symm
    · rw [decide_eq_false q2]
      symm
      rw [List.any_eq_false]
      intro v hv
      have := h3 v hv
      have := k3 v hv
      simp only [Bool.or_eq_true, decide_eq_true_eq]
      omega

theorem check_few {t : List (List Int)} (hf : few t = true) :
    (∃ W H c, t = tbl W H c ∧ 0 < W ∧ W ≤ 20 ∧ 0 < H ∧ H ≤ 20 ∧ CB W c ∧ aggregate_Check t = some 0 ∧ fiduciallaw45_line t = some true) ∨ (aggregate_Check t = some 1 ∧ fiduciallaw45_line t = some false) := by
  obtain ⟨f1, f2⟩ := few_iff hf
  unfold aggregate_Check fiduciallaw45_line
  by_cases h0 : t.length < 1
  · refine .inr ⟨?_, ?_⟩
    · rw [if_pos (by simp; omega)]; rfl
    · rw [if_pos (by simp; omega)]; rfl
  have e0 : ix t (0 : Int) = some (t[0]'(by omega)) := ix_lt t 0 (by omega)
  have hw := f2 _ (List.getElem_mem (show 0 < t.length by omega))
  rw [if_neg (by simp; omega), if_neg (by simp; omega), e0]
  simp only [Option.bind_some]
  by_cases h1 : (t[0]'(by omega)).length < 1
  · refine .inr ⟨?_, ?_⟩
    · rw [if_pos (by simp only [decide_eq_true_eq]; omega)]; rfl
    · rw [if_pos (by simp only [decide_eq_true_eq]; omega)]; rfl
  rw [if_neg (by simp only [decide_eq_true_eq]; omega)]
  simp only [Option.bind_some]
  rw [if_neg (by simp only [decide_eq_true_eq]; omega), if_neg (by simp only [decide_eq_true_eq]; omega)]
  have hst : ∀ i, i < t.length → ((t.getD i []).length ≠ (t[0]'(by omega)).length ∨ (t.getD i []).any ok1 = true) ∧ aggregate_Check_s1 t (i : Int) = some (.done (.inl 1)) ∧ fiduciallaw45_line_s1 t (i : Int) = some (.done (.inl false)) ∨ ((t.getD i []).length = (t[0]'(by omega)).length ∧ (t.getD i []).any ok1 = false) ∧ aggregate_Check_s1 t (i : Int) = some (.next ((i + 1 : Nat) : Int)) ∧ fiduciallaw45_line_s1 t (i : Int) = some (.next ((i + 1 : Nat) : Int)) := fun i hi => by
    unfold aggregate_Check_s1 fiduciallaw45_line_s1
    have hr : (t.getD i []).length ≤ 20 := by rw [getD_eq hi]; exact f2 _ (List.getElem_mem hi)
    rw [if_pos (by simpa using hi), if_pos (by simpa using hi), ix_getD (i := i) (d := []) rfl hi, e0, w64_id (by omega) (by omega)]
    simp only [Option.bind_some]
    by_cases hq : (t.getD i []).length = (t[0]'(by omega)).length
    · rw [if_neg (by simp only [bne_iff_ne, ne_eq, Classical.not_not]; omega), if_neg (by simp only [bne_iff_ne, ne_eq, Classical.not_not]; omega), any_int (fun z => c1_eq z) (by omega)]
      have e := minmax (r := t.getD i []) (fun h => by rw [h] at hq; simp at hq; omega) (by omega) 0 1048576
      rw [e]
      have e2 : ((t.getD i []).any fun z => decide (z < 0) || decide (1048576 < z)) = (t.getD i []).any ok1 := rfl
      rw [e2]
      simp only [Option.bind_some]
      cases ha : (t.getD i []).any ok1
      · exact .inr ⟨⟨hq, rfl⟩, rfl, rfl⟩
      · exact .inl ⟨.inr rfl, rfl, rfl⟩
    · rw [if_pos (by simp only [bne_iff_ne, ne_eq]; omega), if_pos (by simp only [bne_iff_ne, ne_eq]; omega)]
      exact .inl ⟨.inl hq, rfl, rfl⟩
  rcases first_of (fun i => ¬ ((t.getD i []).length = (t[0]'(by omega)).length ∧ (t.getD i []).any ok1 = false)) t.length with ha | ⟨i, hi, hb, hj⟩
  · left
    have hg : ∀ i, i < t.length → (t.getD i []).length = (t[0]'(by omega)).length ∧ (t.getD i []).any ok1 = false := fun i hi => Classical.byContradiction (ha i hi)
    have hs : ∀ r ∈ t, r.length = (t[0]'(by omega)).length := fun r hr => by
      obtain ⟨i, hi⟩ := List.getElem?_of_mem hr
      obtain ⟨hi1, rfl⟩ := List.getElem?_eq_some_iff.1 hi
      have := (hg i hi1).1
      rwa [getD_eq hi1] at this
    refine ⟨(t[0]'(by omega)).length, t.length, fun y x => (t.getD y []).getD x 0, tbl_of t hs, by omega, hw, by omega, f1, fun y x hx => ?_, ?_, ?_⟩
    · by_cases hy : y < t.length
      · have h2 := hg y hy
        have := List.any_eq_false.1 h2.2 ((t.getD y []).getD x 0) (getD_mem (by omega))
        exact ok1_iff.1 (by simpa using this)
      · simp [hy]
    · rw [loop_go (step := fun s => aggregate_Check_s1 t s) (fun i => (i : Int)) (s0 := 0) t.length (x := .inr ()) (by unfold FUEL; omega) rfl (fun i hi => (hst i hi).elim (fun h => absurd (hg i hi) (by rcases h.1 with h | h <;> simp_all)) (fun h => h.2.1)) (by unfold aggregate_Check_s1; rw [if_neg (by simp)])]
      rfl
    · rw [loop_go (step := fun s => fiduciallaw45_line_s1 t s) (fun i => (i : Int)) (s0 := 0) t.length (x := .inr ()) (by unfold FUEL; omega) rfl (fun i hi => (hst i hi).elim (fun h => absurd (hg i hi) (by rcases h.1 with h | h <;> simp_all)) (fun h => h.2.2)) (by unfold fiduciallaw45_line_s1; rw [if_neg (by simp)])]
      rfl
  · right
    have hbi := (hst i hi).resolve_right (fun h => hb h.1)
    have hpre : ∀ j, j < i → (t.getD j []).length = (t[0]'(by omega)).length ∧ (t.getD j []).any ok1 = false := fun j h => Classical.byContradiction (hj j h)
    refine ⟨?_, ?_⟩
    · rw [loop_go (step := fun s => aggregate_Check_s1 t s) (fun i => (i : Int)) (s0 := 0) i (x := .inl 1) (by unfold FUEL; omega) rfl (fun j hj => (hst j (by omega)).elim (fun h => absurd (hpre j hj) (by rcases h.1 with h | h <;> simp_all)) (fun h => h.2.1)) hbi.2.1]
      rfl
    · rw [loop_go (step := fun s => fiduciallaw45_line_s1 t s) (fun i => (i : Int)) (s0 := 0) i (x := .inl false) (by unfold FUEL; omega) rfl (fun j hj => (hst j (by omega)).elim (fun h => absurd (hpre j hj) (by rcases h.1 with h | h <;> simp_all)) (fun h => h.2.2)) hbi.2.2]
      rfl

theorem pen_eq (p q : Int) : (PB p q ∧ aggregate_penalties p q = some 0 ∧ fiduciallaw45_penalties p q = some true) ∨ (¬ PB p q ∧ aggregate_penalties p q = some 2 ∧ fiduciallaw45_penalties p q = some false) := by
  unfold aggregate_penalties fiduciallaw45_penalties PB
  by_cases h1 : p < 0
  · right
    rw [if_pos (decide_eq_true h1), if_neg (show ¬ decide (0 ≤ p) = true by simp; omega)]
    exact ⟨by omega, rfl, rfl⟩
  · rw [if_neg (show ¬ decide (p < 0) = true by simpa using h1), if_pos (show decide (0 ≤ p) = true from decide_eq_true (by omega))]
    by_cases h2 : q < p
    · right
      rw [if_pos (show decide (q < p) = true from decide_eq_true h2), if_neg (show ¬ decide (p ≤ q) = true by simp; omega)]
      exact ⟨by omega, rfl, rfl⟩
    · rw [if_neg (show ¬ decide (q < p) = true by simpa using h2), if_pos (show decide (p ≤ q) = true from decide_eq_true (by omega))]
      by_cases h3 : 1048576 < q
      · right
        rw [decide_eq_true h3, decide_eq_false (show ¬ q ≤ 1048576 by omega)]
        exact ⟨by omega, rfl, rfl⟩
      · left
        rw [decide_eq_false h3, decide_eq_true (show q ≤ 1048576 by omega)]
        exact ⟨by omega, rfl, rfl⟩

/-- The code of a line's costs and of penalties. -/
theorem lined_cases {t : List (List Int)} (hf : few t = true) (p q : Int) :
    (∃ W H c, t = tbl W H c ∧ 0 < W ∧ W ≤ 20 ∧ 0 < H ∧ H ≤ 20 ∧ CB W c ∧ PB p q ∧ aggregate_checked t p q = some 0 ∧ fiduciallaw45_lined t p q = some 0) ∨ ∃ k, k ≠ 0 ∧ aggregate_checked t p q = some k ∧ fiduciallaw45_lined t p q = some k := by
  unfold aggregate_checked fiduciallaw45_lined
  rcases check_few hf with ⟨W, H, c, e, h1, h2, h3, h4, hc, e1, e2⟩ | ⟨e1, e2⟩
  · rw [e1, e2, Option.bind_some, Option.bind_some, if_neg (by decide), if_neg (by decide)]
    rcases pen_eq p q with ⟨hp, q1, q2⟩ | ⟨hp, q1, q2⟩
    · rw [q1, q2]; exact .inl ⟨W, H, c, e, h1, h2, h3, h4, hc, hp, rfl, rfl⟩
    · rw [q1, q2]; exact .inr ⟨2, by decide, rfl, rfl⟩
  · rw [e1, e2]; exact .inr ⟨1, by decide, rfl, rfl⟩

/-! ### Labels -/

def cg (l : List Int) (y : Nat) : Int := l.getD y 0
def cr (l : List Int) (y : Nat) : Nat := (cg l y).toNat
theorem cg_ix {l : List Int} {y : Nat} {z : Int} (hz : z = y) (hy : y < l.length) : ix l z = some (cg l y) := ix_getD hz hy 0

theorem labelled_eq (l : List Int) (H W : Nat) (hl : l.length ≤ 1000) :
    ((l.length = H ∧ ∀ y, y < H → cr l y < W ∧ cg l y = (cr l y : Int)) ∧ fiduciallaw45_labelled l H W = some 0) ∨ ∃ k, k ≠ 0 ∧ fiduciallaw45_labelled l H W = some k := by
  unfold fiduciallaw45_labelled
  by_cases h : l.length = H
  · rw [if_neg (by simp only [bne_iff_ne, ne_eq, Classical.not_not]; omega)]
    have e : slices_ContainsFunc_sint l (fun z => fiduciallaw45_labelled_c1 z W) = some (l.any fun z => decide (z < 0) || decide ((W : Int) ≤ z)) := any_int (fun z => by
      unfold fiduciallaw45_labelled_c1
      by_cases h : z < 0
      · rw [if_pos (decide_eq_true h), decide_eq_true h]; rfl
      · rw [if_neg (by simpa using h), decide_eq_false h]; rfl) (by omega)
    rw [e, Option.bind_some]
    cases ha : l.any fun z => decide (z < 0) || decide ((W : Int) ≤ z)
    · refine .inl ⟨⟨h, fun y hy => ?_⟩, rfl⟩
      have := List.any_eq_false.1 ha (cg l y) (by unfold cg; rw [getD_eq (by omega)]; exact List.getElem_mem _)
      simp only [Bool.or_eq_true, decide_eq_true_eq] at this
      unfold cr
      omega
    · exact .inr ⟨2, by decide, rfl⟩
  · rw [if_pos (by simp only [bne_iff_ne, ne_eq]; omega)]
    exact .inr ⟨4, by decide, rfl⟩

theorem energy_eq {p q : Int} (hp : PB p q) {W H : Nat} (hW : W ≤ 64) (hH : H ≤ 64) {c : Nat → Nat → Int} (hc : CB W c) {l : List Int} (hl : l.length = H) (hr : ∀ y, y < H → cr l y < W ∧ cg l y = (cr l y : Int)) : fiduciallaw45_energy (tbl W H c) p q l = some (en p q c (cr l) H) ∧ loopM FUEL (fun s : Int × Int => aggregate_Energy_s1 (tbl W H c) p q l s.1 s.2) (0, 0) = some (en p q c (cr l) H) := by
  unfold fiduciallaw45_energy
  have h5 := hp.2.2
  have : loopM FUEL (fun s : Int × Int => fiduciallaw45_energy_s1 (tbl W H c) p q l s.1 s.2) (0, 0) = some (en p q c (cr l) H) := by
    refine loop_go (fun i => (en p q c (cr l) i, (i : Int))) H (by unfold FUEL; omega) rfl (fun i hi => ?_) ?_
    · show fiduciallaw45_energy_s1 (tbl W H c) p q l (en p q c (cr l) i) (i : Int) = _
      have hci := hr i hi
      have hb := en_bound hp hc (l := cr l) i (fun y hy => (hr y (by omega)).1)
      have hcc := hc i _ hci.1
      unfold fiduciallaw45_energy_s1
      rw [if_pos (by simp; omega), cg_ix rfl (by omega), Option.bind_some, tbl_ix W H c rfl hi, Option.bind_some, row_ix W _ hci.2 hci.1, Option.bind_some, w64_id (z := en p q c (cr l) i + _) (by omega) (by omega)]
      have e : (if decide (0 < (i : Int)) = true then (ix l (w64 ((i : Int) - 1))).bind fun v_8 => (fiduciallaw45_jump (w64 (cg l i - v_8)) p q).bind fun y_9 => some (w64 (en p q c (cr l) i + c i (cr l i) + y_9)) else some (en p q c (cr l) i + c i (cr l i))) = some (en p q c (cr l) (i + 1)) := by
        by_cases h0 : i = 0
        · subst h0
          rw [if_neg (by simp)]
          simp [en]
        · have hcp := hr (i - 1) (by omega)
          have hv := vp_bound hp (cr l i) (cr l (i - 1))
          rw [if_pos (by simp; omega), w64_id (z := (i : Int) - 1) (by omega) (by omega), cg_ix (y := i - 1) (by omega) (by omega), Option.bind_some, jump_eq p q (a := cr l i) (b := cr l (i - 1)) (by omega) (by omega) hci.2 hcp.2, Option.bind_some, w64_id (by omega) (by omega)]
          simp only [en]
          rw [if_neg h0]
          congr 1
          omega
      rw [e, Option.bind_some, w64_id (by omega) (by omega)]
      rfl
    · show fiduciallaw45_energy_s1 (tbl W H c) p q l (en p q c (cr l) H) (H : Int) = _
      unfold fiduciallaw45_energy_s1
      rw [if_neg (by simp; omega)]
  refine ⟨by rw [this]; rfl, this⟩

theorem known45 : fiduciallaw45_known = some true := by kernel_rfl

theorem agg_labelled_eq (l : List Int) (n d : Int) : aggregate_labelled l n d = fiduciallaw45_labelled l n d := rfl

theorem energies_true (t : List (List Int)) (p q : Int) (l : List Int) : fiduciallaw45_AggregateEnergies t p q l = some true := by
  unfold fiduciallaw45_AggregateEnergies
  rw [known45, Option.bind_some, if_neg (by decide), few_eq, Option.bind_some]
  cases hf : few t with
  | false => rfl
  | true =>
    rw [if_neg (by decide), Option.bind_some]
    by_cases hl : 30 < l.length
    · rw [if_pos (by simp; omega)]
    rw [if_neg (by simp; omega)]
    unfold aggregate_Energy
    have hcl : ∃ k b, aggregate_Check t = some k ∧ fiduciallaw45_line t = some b ∧ (k == 0) = b := by
      rcases check_few hf with ⟨W, H, c, e, h1, h2, h3, h4, hc, e1, e2⟩ | ⟨e1, e2⟩
      · exact ⟨0, true, e1, e2, rfl⟩
      · exact ⟨1, false, e1, e2, rfl⟩
    obtain ⟨k0, b0, c1, c2, c3⟩ := hcl
    rw [c1, c2]
    simp only [Option.bind_some]
    rw [c3, if_neg (by simp)]
    rcases lined_cases hf p q with ⟨W, H, c, rfl, h1, h2, h3, h4, hc, hp, q1, q2⟩ | ⟨k, hk, q1, q2⟩
    · rw [q1, q2, tbl_ix0 W c h3, tbl_len]
      simp only [Option.bind_some, row_len]
      rw [agg_labelled_eq]
      rcases labelled_eq l H W (by omega) with ⟨⟨e1, e2⟩, e3⟩ | ⟨k, hk, e3⟩
      · rw [e3]
        obtain ⟨hen, hen2⟩ := energy_eq hp (by omega) (by omega) hc e1 e2
        rw [hen, hen2]
        simp
      · rw [e3]
        have hk2 : (k != 0) = true := by simpa using hk
        simp [hk2, hk]
    · rw [q1, q2]
      have hk2 : (k != 0) = true := by simpa using hk
      have hk3 : (k == 0) = false := beq_eq_false_iff_ne.2 hk
      simp [hk2, hk3, hk]
end Go.Proofs.Ytgakaghdiodakaa
