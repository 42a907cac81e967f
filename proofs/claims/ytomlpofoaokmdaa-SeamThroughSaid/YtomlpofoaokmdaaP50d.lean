/-
  PLAIN, chapter 50: tables that are checked; seams that are totalled.
-/
import Derived.Test.YtomlpofoaokmdaaP50c
import Derived.Test.YtomlpofoaokmdaaQCheck
set_option linter.unusedSimpArgs false
set_option linter.unusedVariables false
namespace Go.Proofs.Ytomlpofoaokmdaa
open Go.E

theorem clone_eq (xs : List Int) (h : xs.length ≤ 1000000) : slices_Clone_sint xs = some xs := by
  unfold slices_Clone_sint
  rw [chk_pos (by simp; omega)]
  simp

theorem down_eq {W H : Nat} (hW0 : 0 < W) (hH0 : 0 < H) (hW : W ≤ 1000) (hH : H ≤ 1000) {c : Nat → Nat → Int} (hb : Bnd W c) : seam_downward (tbl W H c) = some (tbl W H (Dn c W)) := by
  unfold seam_downward
  rw [tbl_ix0 W c hH0, Option.bind_some, clone_eq _ (by rw [row_len]; omega), Option.bind_some]
  have hB : ∀ y x, y < 1000 → x < W → 0 ≤ Dn c W y x ∧ Dn c W y x ≤ 1099511627776000 := fun y x hy hx => by
    have h := Dn_bound hb y x hx
    have e : ((y : Int) + 1) * 1099511627776 ≤ 1000 * 1099511627776 := Int.mul_le_mul_of_nonneg_right (by omega) (by omega)
    omega
  have hin : ∀ y, y + 1 < H → loopM FUEL (fun s : List Int × Int => seam_downward_s2 (tbl W H c) (tbl W (y + 1) (Dn c W)) ((y + 1 : Nat) : Int) (row W (c (y + 1))) s.1 s.2) ([], 0) = some (row W (Dn c W (y + 1))) := fun y hy => by
    refine loop_go (fun x => (row x (Dn c W (y + 1)), (x : Int))) W (by unfold FUEL; omega) rfl (fun x hx => ?_) ?_
    · show seam_downward_s2 (tbl W H c) (tbl W (y + 1) (Dn c W)) ((y + 1 : Nat) : Int) (row W (c (y + 1))) (row x (Dn c W (y + 1))) (x : Int) = _
      unfold seam_downward_s2
      have e := hB (y + 1) x (by omega) hx
      rw [row_len, if_pos (by simpa using hx), row_ix W _ rfl hx, Option.bind_some, tbl_ix W H c rfl hy, Option.bind_some, row_len, near_eq hx hW, Option.bind_some]
      show ((ix (tbl W (y + 1) (Dn c W)) (w64 (((y + 1 : Nat) : Int) - 1))).bind fun v_15 => (seam_least v_15 _ _).bind fun y_16 => chk ((row x (Dn c W (y + 1))).length + 1 ≤ 1099511627776) (some (Step.next (row x (Dn c W (y + 1)) ++ [w64 (c (y + 1) x + y_16)], w64 ((x : Int) + 1))))) = _
      rw [w64_id (z := ((y + 1 : Nat) : Int) - 1) (by omega) (by omega), tbl_ix W (y + 1) _ (y := y) (by omega) (by omega), Option.bind_some, nb_step (α := Unit) _ hx hW, Option.bind_some, row_len, chk_pos (by omega)]
      rw [show c (y + 1) x + nb W (Dn c W y) x = Dn c W (y + 1) x from rfl, w64_id (z := Dn c W (y + 1) x) (by omega) (by omega), w64_id (by omega) (by omega)]
      rw [row_succ]
      rfl
    · show seam_downward_s2 (tbl W H c) (tbl W (y + 1) (Dn c W)) ((y + 1 : Nat) : Int) (row W (c (y + 1))) (row W (Dn c W (y + 1))) (W : Int) = _
      unfold seam_downward_s2
      rw [row_len, if_neg (by simp)]
  have : loopM FUEL (fun s : List (List Int) × Int => seam_downward_s1 (tbl W H c) s.1 s.2) ([row W (c 0)], 1) = some (tbl W H (Dn c W)) := by
    refine loop_go (fun i => (tbl W (i + 1) (Dn c W), ((i + 1 : Nat) : Int))) (H - 1) (by unfold FUEL; omega) rfl (fun i hi => ?_) ?_
    · show seam_downward_s1 (tbl W H c) (tbl W (i + 1) (Dn c W)) ((i + 1 : Nat) : Int) = _
      unfold seam_downward_s1
      rw [tbl_len, if_pos (by simp; omega), tbl_ix W H c (y := i + 1) rfl (by omega), Option.bind_some, row_len, chk_pos (by omega), Option.bind_some, hin i (by omega), Option.bind_some, tbl_len, chk_pos (by omega), w64_id (by omega) (by omega)]
      show some (Step.next (_, _)) = some (Step.next (tbl W (i + 1 + 1) (Dn c W), ((i + 1 + 1 : Nat) : Int)))
      rw [tbl_succ W (i + 1)]
      rfl
    · show seam_downward_s1 (tbl W H c) (tbl W (H - 1 + 1) (Dn c W)) ((H - 1 + 1 : Nat) : Int) = _
      unfold seam_downward_s1
      rw [tbl_len, if_neg (by simp; omega), show H - 1 + 1 = H by omega]
  rw [this]
  rfl

/-! ### Few, Check -/

def few (t : List (List Int)) : Bool := decide (t.length ≤ 7) && !(t.any fun r => decide (7 < (r.length : Int)))
theorem few_eq (t : List (List Int)) : fiduciallaw50_Few t = some (few t) := by
  unfold fiduciallaw50_Few few
  by_cases h : t.length ≤ 7
  · rw [if_pos (by simp; omega), decide_eq_true h]
    have : slices_ContainsFunc_ssint t (fun z => fiduciallaw50_Few_c1 z) = some (t.any fun r => decide (7 < (r.length : Int))) := by
      unfold slices_ContainsFunc_ssint slices_IndexFunc_ssint
      obtain ⟨z, h1, h2⟩ := any_loop (step := fun s => slices_IndexFunc_ssint_s1 t (fun z => fiduciallaw50_Few_c1 z) s) (xs := t) (f := fun z => fiduciallaw50_Few_c1 z) (fun r => decide (7 < (r.length : Int))) (by omega) (fun s => rfl) (fun v _ => rfl)
      rw [h1]
      rcases h2 with ⟨rfl, e⟩ | ⟨i, rfl, e⟩
      · rw [e]; rfl
      · rw [e]
        show some (decide (0 ≤ (i : Int))) = _
        rw [decide_eq_true (by omega)]
    rw [this]
    rfl
  · rw [if_neg (by simp; omega), decide_eq_false h]
    rfl
theorem few_iff {t : List (List Int)} (h : few t = true) : t.length ≤ 7 ∧ ∀ r ∈ t, r.length ≤ 7 := by
  unfold few at h
  simp only [Bool.and_eq_true, decide_eq_true_eq, Bool.not_eq_true', List.any_eq_false] at h
  refine ⟨h.1, fun r hr => ?_⟩
  have := h.2 r hr
  omega

theorem checked_eq (t : List (List Int)) : fiduciallaw50_Checked t = seam_Check t := rfl

def ok1 (z : Int) : Bool := decide (z < 0) || decide (1048576 < z)
theorem c1_eq (z : Int) : seam_Check_c1 z = some (ok1 z) := by
  unfold seam_Check_c1 ok1
  by_cases h : z < 0
  · rw [if_pos (decide_eq_true h), decide_eq_true h]; rfl
  · rw [if_neg (by simpa using h), decide_eq_false h]; rfl
theorem ok1_iff {z : Int} : ok1 z = false ↔ 0 ≤ z ∧ z ≤ 1048576 := by
  unfold ok1
  simp only [Bool.or_eq_false_iff, decide_eq_false_iff_not]
  omega

/-- Entries of a valid table. -/
def CB (W : Nat) (c : Nat → Nat → Int) : Prop := ∀ y x, x < W → 0 ≤ c y x ∧ c y x ≤ 1048576
theorem CB.bnd {W : Nat} {c : Nat → Nat → Int} (h : CB W c) : Bnd W c := fun y x hx => by have := h y x hx; omega

theorem check_tab {W H : Nat} (hW0 : 0 < W) (hH0 : 0 < H) (hW : W ≤ 64) (hH : H ≤ 64) (c : Nat → Nat → Int) :
    (seam_Check (tbl W H c) = some 0 ∧ ∀ y x, y < H → x < W → 0 ≤ c y x ∧ c y x ≤ 1048576) ∨ (seam_Check (tbl W H c) = some 2 ∧ ∃ y x, y < H ∧ x < W ∧ ¬ (0 ≤ c y x ∧ c y x ≤ 1048576)) := by
  unfold seam_Check
  rw [tbl_len, if_neg (by simp; omega), if_neg (by simp; omega), tbl_ix0 W c hH0, Option.bind_some, row_len, if_neg (by simp; omega), Option.bind_some, row_len, Option.bind_some, if_neg (by simp; omega)]
  have hr : ∀ y, (row W (c y)).any ok1 = false ↔ ∀ x, x < W → 0 ≤ c y x ∧ c y x ≤ 1048576 := fun y => by
    rw [List.any_eq_false]
    constructor
    · intro h x hx
      exact ok1_iff.1 (by simpa using h _ (List.mem_map.2 ⟨x, List.mem_range.2 hx, rfl⟩))
    · intro h v hv
      obtain ⟨x, hx, rfl⟩ := List.mem_map.1 hv
      simpa using ok1_iff.2 (h x (List.mem_range.1 hx))
  have hcf : ∀ y, slices_ContainsFunc_sint (row W (c y)) (fun z => seam_Check_c1 z) = some ((row W (c y)).any ok1) := fun y => any_int (fun z => c1_eq z) (by rw [row_len]; omega)
  rcases loop_first (step := fun s => seam_Check_s1 (tbl W H c) s) (fun i => (i : Int)) (fun i => (row W (c i)).any ok1 = true) (fun _ => .inl 2) (.inr ()) H (s0 := 0) (by unfold FUEL; omega) rfl
    (fun i hi hp => by
      unfold seam_Check_s1
      rw [tbl_len, if_pos (by simpa using hi), tbl_ix W H c rfl hi, Option.bind_some, tbl_ix0 W c hH0, Option.bind_some, row_len, row_len, if_neg (by simp), hcf, Option.bind_some, if_neg hp, w64_id (by omega) (by omega)]
      rfl)
    (fun i hi hp _ => by
      unfold seam_Check_s1
      rw [tbl_len, if_pos (by simpa using hi), tbl_ix W H c rfl hi, Option.bind_some, tbl_ix0 W c hH0, Option.bind_some, row_len, row_len, if_neg (by simp), hcf, Option.bind_some, if_pos hp])
    (by unfold seam_Check_s1; rw [tbl_len, if_neg (by simp)]) with ⟨ha, hl⟩ | ⟨i, h1, h2, h3, hl⟩
  · refine .inl ⟨by rw [hl]; rfl, fun y x hy hx => (hr y).1 (by simpa using ha y hy) x hx⟩
  · refine .inr ⟨by rw [hl]; rfl, ?_⟩
    refine Classical.byContradiction fun hn => ?_
    have : (row W (c i)).any ok1 = false := (hr i).2 fun x hx => Classical.byContradiction fun hq => hn ⟨i, x, h1, hx, hq⟩
    rw [h2] at this
    cases this

theorem check_few {t : List (List Int)} (hf : few t = true) :
    (∃ W H c, t = tbl W H c ∧ 0 < W ∧ W ≤ 7 ∧ 0 < H ∧ H ≤ 7 ∧ CB W c ∧ seam_Check t = some 0) ∨ ∃ k, k ≠ 0 ∧ seam_Check t = some k := by
  obtain ⟨f1, f2⟩ := few_iff hf
  by_cases h0 : t.length < 1
  · refine .inr ⟨3, by decide, ?_⟩
    unfold seam_Check
    rw [if_pos (by simp; omega)]
    rfl
  have e0 : ix t (0 : Int) = some (t[0]'(by omega)) := ix_lt t 0 (by omega)
  have hw := f2 _ (List.getElem_mem (show 0 < t.length by omega))
  by_cases h1 : (t[0]'(by omega)).length < 1
  · refine .inr ⟨3, by decide, ?_⟩
    unfold seam_Check
    rw [if_neg (by simp; omega), if_neg (by simp; omega), e0, Option.bind_some, if_pos (by simp; omega)]
    rfl
  by_cases hs : ∀ r ∈ t, r.length = (t[0]'(by omega)).length
  · have ht := tbl_of t hs
    have hc := check_tab (W := (t[0]'(by omega)).length) (H := t.length) (by omega) (by omega) (by omega) (by omega) (fun y x => (t.getD y []).getD x 0)
    rw [← ht] at hc
    rcases hc with ⟨q1, q2⟩ | ⟨q1, _⟩
    · refine .inl ⟨_, _, _, ht, by omega, hw, by omega, f1, fun y x hx => ?_, q1⟩
      by_cases hy : y < t.length
      · exact q2 y x hy hx
      · simp [hy]
    · exact .inr ⟨2, by decide, q1⟩
  · right
    unfold seam_Check
    rw [if_neg (by simp; omega), if_neg (by simp; omega), e0, Option.bind_some, if_neg (by simp; omega), Option.bind_some, Option.bind_some, if_neg (by simp; omega)]
    have hcf : ∀ r ∈ t, slices_ContainsFunc_sint r (fun z => seam_Check_c1 z) = some (r.any ok1) := fun r hr => any_int (fun z => c1_eq z) (by have := f2 r hr; omega)
    rcases loop_first (step := fun s => seam_Check_s1 t s) (fun i => (i : Int)) (fun i => ∃ h : i < t.length, (t[i]).length ≠ (t[0]'(by omega)).length ∨ (t[i]).any ok1 = true) (fun i => .inl (if (t.getD i []).length ≠ (t[0]'(by omega)).length then 4 else 2)) (.inr ()) t.length (s0 := 0) (by unfold FUEL; omega) rfl
      (fun i hi hp => by
        have hq : (t[i]).length = (t[0]'(by omega)).length := Classical.byContradiction fun hn => hp ⟨hi, .inl hn⟩
        have hq2 : ¬ (t[i]).any ok1 = true := fun hn => hp ⟨hi, .inr hn⟩
        unfold seam_Check_s1
        rw [if_pos (by simpa using hi), ix_lt t i hi, Option.bind_some, e0, Option.bind_some, if_neg (by simp [hq]), hcf _ (List.getElem_mem hi), Option.bind_some, if_neg hq2, w64_id (by omega) (by omega)]
        rfl)
      (fun i hi hp _ => by
        obtain ⟨_, hp⟩ := hp
        unfold seam_Check_s1
        rw [if_pos (by simpa using hi), ix_lt t i hi, Option.bind_some, e0, Option.bind_some, getD_eq hi]
        by_cases hq : (t[i]).length = (t[0]'(by omega)).length
        · rw [if_neg (by simp [hq]), hcf _ (List.getElem_mem hi), Option.bind_some, if_pos (hp.resolve_left (fun h => h hq)), if_neg (fun h => h hq)]
        · rw [if_pos (by simp only [bne_iff_ne, ne_eq]; omega), if_pos hq])
      (by unfold seam_Check_s1; rw [if_neg (by simp)]) with ⟨ha, hl⟩ | ⟨i, q1, q2, q3, hl⟩
    · exfalso
      refine hs fun r hr => ?_
      obtain ⟨i, hi⟩ := List.getElem?_of_mem hr
      obtain ⟨hi1, rfl⟩ := List.getElem?_eq_some_iff.1 hi
      exact Classical.byContradiction fun hn => ha i hi1 ⟨hi1, .inl hn⟩
    · refine ⟨_, ?_, by rw [hl]; rfl⟩
      split <;> decide
end Go.Proofs.Ytomlpofoaokmdaa
