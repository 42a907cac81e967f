/-
  PLAIN, chapter 50: the first of the least seams.
-/
import Derived.Test.YtomlpofoaokmdaaP50b
import Derived.Test.YtomlpofoaokmdaaQIndex
set_option linter.unusedSimpArgs false
set_option linter.unusedVariables false
namespace Go.Proofs.Ytomlpofoaokmdaa
open Go.E

def fr (c : Nat → Nat → Int) (W H : Nat) : Nat → Nat
  | 0 => 0
  | i + 1 => col c W H i - 1
def wk (c : Nat → Nat → Int) (W H : Nat) : Nat → Nat
  | 0 => W - 1
  | i + 1 => wd W (col c W H i)
theorem col_am (c : Nat → Nat → Int) (W H : Nat) : ∀ i, col c W H i = am (BlT c W H i) (fr c W H i) (wk c W H i)
  | 0 => rfl
  | i + 1 => rfl
theorem fr_top (c : Nat → Nat → Int) {W : Nat} (hW : 0 < W) (H : Nat) : ∀ i, fr c W H i + wk c W H i < W
  | 0 => by simp only [fr, wk]; omega
  | i + 1 => by
    have := wd_top (col_lt c hW H i)
    simp only [fr, wk]; omega

def colL (c : Nat → Nat → Int) (W H i : Nat) : List Int := row i (fun y => (col c W H y : Int))

theorem best_eq {W fr k : Nat} (f : Nat → Int) (h : fr + k < W) (hW : W ≤ 1000) : loopM FUEL (fun s : Int × Int => seam_first_s2 ((fr + k : Nat) : Int) (row W f) s.1 s.2) ((fr : Int), (fr : Int)) = some (am f fr k : Int) := by
  refine loop_go (fun i => (((fr + i : Nat) : Int), (am f fr (i - 1) : Int))) (k + 1) (by unfold FUEL; omega) rfl (fun i hi => ?_) ?_
  · show seam_first_s2 ((fr + k : Nat) : Int) (row W f) ((fr + i : Nat) : Int) (am f fr (i - 1) : Int) = _
    have ha := am_in f fr (i - 1)
    unfold seam_first_s2
    rw [if_pos (by simp; omega), row_ix W f rfl (by omega), Option.bind_some, row_ix W f rfl (by omega), Option.bind_some, w64_id (by omega) (by omega)]
    have e : (if decide (f (fr + i) < f (am f fr (i - 1))) = true then some ((fr + i : Nat) : Int) else some (am f fr (i - 1) : Int)) = some (am f fr i : Int) := by
      cases i with
      | zero => rw [if_neg (by simp [am])]
      | succ i =>
        simp only [Nat.add_sub_cancel, am]
        by_cases hq : f (fr + (i + 1)) < f (am f fr i)
        · rw [if_pos (decide_eq_true hq), if_pos hq]
        · rw [if_neg (by simpa using hq), if_neg hq]
    rw [e]
    show some (Step.next (_, _)) = some (Step.next (((fr + (i + 1) : Nat) : Int), _))
    congr 3
  · show seam_first_s2 ((fr + k : Nat) : Int) (row W f) ((fr + (k + 1) : Nat) : Int) (am f fr k : Int) = _
    unfold seam_first_s2
    rw [if_neg (by simp; omega)]

theorem first_eq {W H : Nat} (hW0 : 0 < W) (hH0 : 0 < H) (hW : W ≤ 1000) (hH : H ≤ 1000) {c : Nat → Nat → Int} (hb : Bnd W c) {f : Int → Int → Option Bool} {A : Nat → Nat → Bool} (hf : ∀ y x : Nat, y < H → x < W → f y x = some (A y x)) :
    seam_first (tbl W H c) f = some (colL (al A c) W H H, lt (al A c) W H) := by
  unfold seam_first
  rw [upward_eq hW hH hb hf, Option.bind_some, tbl_ix0 W c hH0, Option.bind_some, row_len, w64_id (by omega) (by omega)]
  generalize hd : al A c = d
  have hB : Bnd W d := hd ▸ al_bnd hb A
  have : loopM FUEL (fun s : List Int × Int × Int × Int => seam_first_s1 (tbl W H (BlT d W H)) s.1 s.2.1 s.2.2.1 s.2.2.2) ([], 0, (W : Int) - 1, 0) = some (colL d W H H) := by
    refine loop_go (fun i => (colL d W H i, ((fr d W H i : Nat) : Int), ((fr d W H i + wk d W H i : Nat) : Int), (i : Int))) H (by unfold FUEL; omega) ?_ (fun i hi => ?_) ?_
    · show _ = (([] : List Int), ((0 : Nat) : Int), ((0 + (W - 1) : Nat) : Int), ((0 : Nat) : Int))
      congr 3
      omega
    · show seam_first_s1 (tbl W H (BlT d W H)) (colL d W H i) (fr d W H i : Int) ((fr d W H i + wk d W H i : Nat) : Int) (i : Int) = _
      unfold seam_first_s1
      have hc := col_lt d hW0 H i
      rw [tbl_len, if_pos (by simpa using hi), tbl_ix W H _ rfl hi, Option.bind_some, best_eq _ (fr_top d hW0 H i) hW, Option.bind_some, ← col_am, chk_pos (by unfold colL; rw [row_len]; omega), row_len, near_eq hc hW, Option.bind_some]
      show some (Step.next (_, _, _, w64 ((i : Int) + 1))) = some (Step.next (colL d W H (i + 1), _, _, _))
      rw [w64_id (by omega) (by omega)]
      unfold colL
      rw [row_succ]
      rfl
    · show seam_first_s1 (tbl W H (BlT d W H)) (colL d W H H) (fr d W H H : Int) ((fr d W H H + wk d W H H : Nat) : Int) (H : Int) = _
      unfold seam_first_s1
      rw [tbl_len, if_neg (by simp)]
  rw [this, Option.bind_some, tbl_ix0 W _ hH0, Option.bind_some]
  unfold colL
  rw [row_ix0 _ hH0, Option.bind_some, row_ix W _ rfl (col_lt d hW0 H 0), Option.bind_some]
  rfl

theorem best2_eq {W H : Nat} {c : Nat → Nat → Int} (F : Nat → Nat → Int) {y x : Nat} (hH0 : 0 < H) (hy : y < H) (hx : x < W) (hW : W ≤ 1000) :
    loopM FUEL (fun s : Int × Int => fiduciallaw50_Least_s2 (tbl W H c) (tbl W H F) (y : Int) (x : Int) s.1 s.2) (-1, ((x - 1 : Nat) : Int)) = some (am (F y) (x - 1) (wd W x) : Int) := by
  have ht := wd_top hx
  refine loop_go (fun i => ((if i = 0 then (-1 : Int) else (am (F y) (x - 1) (i - 1) : Int)), ((x - 1 + i : Nat) : Int))) (wd W x + 1) (by unfold FUEL wd; omega) rfl (fun i hi => ?_) ?_
  · show fiduciallaw50_Least_s2 (tbl W H c) (tbl W H F) (y : Int) (x : Int) (if i = 0 then (-1 : Int) else (am (F y) (x - 1) (i - 1) : Int)) ((x - 1 + i : Nat) : Int) = _
    have ha := am_in (F y) (x - 1) (i - 1)
    unfold fiduciallaw50_Least_s2
    rw [tbl_ix0 W c hH0, Option.bind_some, row_len, w64_id (z := (W : Int) - 1) (by omega) (by omega), w64_id (z := (x : Int) + 1) (by omega) (by omega), if_pos (by simp; split <;> omega), tbl_ix W H F rfl hy]
    cases i with
    | zero =>
      simp only [if_pos, Option.bind_some]
      rw [w64_id (by omega) (by omega)]
      rfl
    | succ i =>
      rw [if_neg (Nat.succ_ne_zero i)] 
      simp only [Option.bind_some]
      rw [if_neg (show ¬ decide ((am (F y) (x - 1) (i + 1 - 1) : Int) < 0) = true by simp), row_ix W _ rfl (by omega)]
      simp only [Option.bind_some]
      rw [row_ix W _ rfl (by omega)]
      simp only [Option.bind_some, Nat.add_sub_cancel]
      rw [w64_id (by omega) (by omega)]
      have e : (if decide (F y (x - 1 + (i + 1)) < F y (am (F y) (x - 1) i)) = true then some ((x - 1 + (i + 1) : Nat) : Int) else some (am (F y) (x - 1) i : Int)) = some (am (F y) (x - 1) (i + 1) : Int) := by
        simp only [am]
        by_cases hq : F y (x - 1 + (i + 1)) < F y (am (F y) (x - 1) i)
        · rw [if_pos (decide_eq_true hq), if_pos hq]
        · rw [if_neg (by simpa using hq), if_neg hq]
      rw [e, Option.bind_some]
      rfl
  · show fiduciallaw50_Least_s2 (tbl W H c) (tbl W H F) (y : Int) (x : Int) (am (F y) (x - 1) (wd W x) : Int) ((x - 1 + (wd W x + 1) : Nat) : Int) = _
    unfold fiduciallaw50_Least_s2
    rw [tbl_ix0 W c hH0, Option.bind_some, row_len, w64_id (z := (W : Int) - 1) (by omega) (by omega), w64_id (z := (x : Int) + 1) (by omega) (by omega), if_neg (by simp; split <;> omega)]

theorem least2_eq {W H : Nat} (hW0 : 0 < W) (hH0 : 0 < H) (hW : W ≤ 1000) (hH : H ≤ 1000) {c : Nat → Nat → Int} (hb : Bnd W c) : fiduciallaw50_Least (tbl W H c) = some (colL c W H H, lt c W H) := by
  unfold fiduciallaw50_Least
  rw [below_eq hW hH hb, Option.bind_some, tbl_ix0 W _ hH0]
  have hm : slices_Min_sint (row W (BlT c W H 0)) = some (lt c W H) := by
    obtain ⟨M, h1, h2, h3⟩ := min_spec (xs := row W (BlT c W H 0)) (fun h => by have := row_len W (BlT c W H 0); rw [h] at this; simp at this; omega) (by rw [row_len]; omega)
    rw [h1]
    congr 1
    have e : lt c W H = mn (BlT c W H 0) 0 (W - 1) := am_val _ _ _
    rw [e]
    obtain ⟨z, hz, rfl⟩ := List.mem_map.1 h2
    have hz := List.mem_range.1 hz
    exact mn_uniq _ _ _ _ ⟨z, by omega, by omega, rfl⟩ fun z' _ r2 => h3 _ (List.mem_map.2 ⟨z', List.mem_range.2 (by omega), rfl⟩)
  have hi : slices_Index_sint (row W (BlT c W H 0)) (lt c W H) = some (col c W H 0 : Int) := by
    have ht := col_lt c hW0 H 0
    have hc : col c W H 0 = am (BlT c W H 0) 0 (W - 1) := rfl
    have hv : BlT c W H 0 (col c W H 0) = lt c W H := rfl
    rcases index_spec (row W (BlT c W H 0)) (lt c W H) (by rw [row_len]; omega) with ⟨i, h1, h2, h3, h4⟩ | ⟨h1, _⟩
    · rw [h4]
      rw [row_len] at h1
      rw [row_get _ _ h1] at h2
      have h2 := Option.some.inj h2
      have e : lt c W H = mn (BlT c W H 0) 0 (W - 1) := am_val _ _ _
      have : i = col c W H 0 := by
        rw [hc]
        refine am_uniq _ _ _ _ (by omega) (by omega) (fun z _ hz => ?_) (fun z _ hz => ?_)
        · rw [h2, e]; exact mn_le _ _ _ _ (by omega) hz
        · have q1 := mn_le (BlT c W H 0) 0 (W - 1) z (by omega) (by omega)
          have q2 := h3 z hz
          rw [row_get _ _ (by omega)] at q2
          have q3 : BlT c W H 0 z ≠ lt c W H := fun h => q2 (by rw [h])
          omega
      rw [this]
    · exact absurd (List.mem_map.2 ⟨col c W H 0, List.mem_range.2 ht, hv⟩) h1
  simp only [Option.bind_some]
  rw [hm]
  simp only [Option.bind_some]
  rw [hi]
  simp only [Option.bind_some]
  have : loopM FUEL (fun s : List Int × Int => fiduciallaw50_Least_s1 (tbl W H c) (tbl W H (BlT c W H)) s.1 s.2) ([(col c W H 0 : Int)], 1) = some (colL c W H H) := by
    refine loop_go (fun i => (colL c W H (i + 1), ((i + 1 : Nat) : Int))) (H - 1) (by unfold FUEL; omega) rfl (fun i hi => ?_) ?_
    · show fiduciallaw50_Least_s1 (tbl W H c) (tbl W H (BlT c W H)) (colL c W H (i + 1)) ((i + 1 : Nat) : Int) = _
      have hc := col_lt c hW0 H i
      unfold fiduciallaw50_Least_s1
      rw [tbl_len, if_pos (by simp; omega), w64_id (z := ((i + 1 : Nat) : Int) - 1) (by omega) (by omega)]
      have e : ix (colL c W H (i + 1)) (((i + 1 : Nat) : Int) - 1) = some (col c W H i : Int) := row_ix _ _ (by omega) (by omega)
      rw [e, Option.bind_some, w64_id (z := (col c W H i : Int) - 1) (by omega) (by omega)]
      have e2 : (if 0 < (col c W H i : Int) - 1 then (col c W H i : Int) - 1 else 0) = ((col c W H i - 1 : Nat) : Int) := by split <;> omega
      rw [e2, best2_eq _ hH0 (by omega) hc hW, Option.bind_some, chk_pos (by unfold colL; rw [row_len]; omega), w64_id (by omega) (by omega)]
      show some (Step.next (_, _)) = some (Step.next (colL c W H (i + 1 + 1), ((i + 1 + 1 : Nat) : Int)))
      unfold colL
      rw [row_succ (i + 1)]
      rfl
    · show fiduciallaw50_Least_s1 (tbl W H c) (tbl W H (BlT c W H)) (colL c W H (H - 1 + 1)) ((H - 1 + 1 : Nat) : Int) = _
      unfold fiduciallaw50_Least_s1
      rw [tbl_len, if_neg (by simp; omega), show H - 1 + 1 = H by omega]
  rw [this]
  rfl
end Go.Proofs.Ytomlpofoaokmdaa
