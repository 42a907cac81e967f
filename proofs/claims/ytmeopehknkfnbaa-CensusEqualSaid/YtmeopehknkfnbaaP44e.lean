/-
  PLAIN, chapter 44: Best, Right; the laws Best, Twice and Equal.
-/
import Derived.Test.YtmeopehknkfnbaaP44d
import Derived.Test.YtmeopehknkfnbaaQMin
import Derived.Test.YtmeopehknkfnbaaQMax
import Derived.Test.YtmeopehknkfnbaaQIndex
set_option linter.unusedSimpArgs false
set_option linter.unusedVariables false
namespace Go.Proofs.Ytmeopehknkfnbaa
open Go.E

/-! ### The place of the least -/

def bix (l : List Int) : Int := match slices_Min_sint l with
  | some M => (slices_Index_sint l M).getD 0
  | none => 0

theorem bix_ok {l : List Int} (h0 : l ≠ []) (hn : l.length ≤ 1000000) : ∃ M, slices_Min_sint l = some M ∧ slices_Index_sint l M = some (bix l) ∧ M ∈ l ∧ (∀ v ∈ l, M ≤ v) ∧ ∃ i : Nat, bix l = i ∧ i < l.length ∧ l[i]? = some M ∧ ∀ j : Nat, j < i → l[j]? ≠ some M := by
  obtain ⟨M, h1, h2, h3⟩ := min_spec h0 hn
  rcases index_spec l M hn with ⟨i, a1, a2, a3, a4⟩ | ⟨h9, _⟩
  · have e : bix l = (i : Int) := by unfold bix; rw [h1]; simp only; rw [a4]; rfl
    exact ⟨M, h1, by rw [e]; exact a4, h2, h3, i, e, a1, a2, a3⟩
  · exact absurd h2 h9

theorem foldS_map {α β : Type} (step : List β → α → Option (List β)) (f : α → β) : ∀ (xs : List α) (acc : List β), (∀ x ∈ xs, ∀ l : List β, l.length ≤ acc.length + xs.length → step l x = some (l ++ [f x])) → foldS step acc xs = some (acc ++ xs.map f)
  | [], acc, _ => by simp [foldS]
  | x :: xs, acc, h => by
    simp only [foldS]
    rw [h x (by simp) acc (by omega), Option.bind_some, foldS_map step f xs (acc ++ [f x]) (fun y hy l hl => h y (by simp [hy]) l (by simp at hl ⊢; omega))]
    simp

def rowi (D : Nat) (cc : Nat → Nat → Int) (i : Nat) : List Int := (List.range D).map fun d => cc d i
theorem rowi_len (D : Nat) (cc : Nat → Nat → Int) (i : Nat) : (rowi D cc i).length = D := by simp [rowi]
theorem rowi_get (D : Nat) (cc : Nat → Nat → Int) (i : Nat) {d : Nat} (hd : d < D) : (rowi D cc i)[d]? = some (cc d i) := by simp [rowi, hd]

theorem row_part {D N : Nat} (cc : Nat → Nat → Int) {i : Nat} (hi : i < N) : ((grid D N cc).drop (i * D)).take D = rowi D cc i := by
  apply List.ext_getElem?
  intro d
  rw [List.getElem?_take]
  by_cases hd : d < D
  · rw [if_pos hd, List.getElem?_drop, grid_get D cc N d i hd hi, rowi_get D cc i hd]
  · rw [if_neg hd, List.getElem?_eq_none (by rw [rowi_len]; omega)]
theorem row_part2 {D N : Nat} (cc : Nat → Nat → Int) {i : Nat} (hi : i < N) : ((grid D N cc).take ((i + 1) * D)).drop (i * D) = rowi D cc i := by
  rw [List.drop_take, Nat.add_mul, Nat.one_mul, Nat.add_sub_cancel_left, row_part cc hi]

theorem chunks_grid {D N : Nat} (hD : 0 < D) (cc : Nat → Nat → Int) : chunksOf D (grid D N cc) = (List.range N).map (rowi D cc) := by
  unfold chunksOf
  have e : ((grid D N cc).length + D - 1) / D = N := by
    rw [grid_len]
    have h1 : N * D + D - 1 = (D - 1) + D * N := by rw [Nat.mul_comm D N]; omega
    rw [h1, Nat.add_mul_div_left _ _ hD, Nat.div_eq_of_lt (by omega), Nat.zero_add]
  rw [e]
  exact List.map_congr_left fun i hi => row_part cc (List.mem_range.1 hi)

/-! ### Best -/

theorem VC.cells {W H D : Nat} {c : List Int} (v : VC W H D c) : ∃ cc, c = grid D (H * W) cc ∧ ∀ d i, d < D → i < H * W → 0 ≤ cc d i ∧ cc d i ≤ 1048576 := by
  refine ⟨_, grid_of D (H * W) c v.len, fun d i hd hi => ?_⟩
  have hlt : i * D + d < c.length := by rw [v.len]; exact cell_lt hd hi
  show 0 ≤ c.getD (i * D + d) 0 ∧ c.getD (i * D + d) 0 ≤ 1048576
  rw [getD_eq hlt]
  exact v.ok _ (List.getElem_mem hlt)

theorem rowi_ne {D : Nat} (hD : 0 < D) (cc : Nat → Nat → Int) (i : Nat) : rowi D cc i ≠ [] := fun h => by
  have := rowi_len D cc i
  rw [h] at this
  simp at this
  omega

section
variable {W H D : Nat} {cc : Nat → Nat → Int}

def bestL (D N : Nat) (cc : Nat → Nat → Int) : List Int := (List.range N).map fun i => bix (rowi D cc i)

theorem Best_eq (v : VC W H D (grid D (H * W) cc)) : census_Best W H D (grid D (H * W) cc) = some (bestL D (H * W) cc, 0) := by
  obtain ⟨n1, n2⟩ := v.n
  have hl := v.len
  have d1 := v.d1
  have d2 := v.d2
  unfold census_Best
  have hDt : ((D : Int)).toNat = D := by omega
  rw [ccheck_good v, Option.bind_some, if_neg (by decide), if_neg (by simp; omega), chk_pos (by omega), hDt, chunks_grid (by omega) cc,
    foldS_map (fun s x => census_Best_s1 s x) bix ((List.range (H * W)).map (rowi D cc)) [] (fun x hx l hll => by
      obtain ⟨i, hi, rfl⟩ := List.mem_map.1 hx
      have hne := rowi_ne (by omega : 0 < D) cc i
      obtain ⟨M, a1, a2, _⟩ := bix_ok hne (by rw [rowi_len]; omega)
      simp at hll
      unfold census_Best_s1
      rw [a1, Option.bind_some, a2, Option.bind_some, chk_pos (by omega)])]
  rw [List.map_map]
  rfl

theorem wh_eq (W H : Nat) (hn : H * W ≤ 4096) : w64 ((W : Int) * (H : Int)) = ((H * W : Nat) : Int) := by
  have e1 : (W : Int) * (H : Int) = ((H * W : Nat) : Int) := by rw [Nat.mul_comm]; push_cast; rfl
  rw [e1, w64_id (by omega) (by omega)]
theorem nmul (a b : Nat) (h : a * b ≤ 1000000000) : w64 ((a : Int) * (b : Int)) = ((a * b : Nat) : Int) := by
  have e1 : (a : Int) * (b : Int) = ((a * b : Nat) : Int) := by push_cast; rfl
  rw [e1, w64_id (by omega) (by omega)]

theorem best_eq (v : VC W H D (grid D (H * W) cc)) : fiduciallaw44_best W H D (grid D (H * W) cc) = some (bestL D (H * W) cc) := by
  obtain ⟨n1, n2⟩ := v.n
  have d1 := v.d1
  have d2 := v.d2
  unfold fiduciallaw44_best
  rw [loop_go (s0 := ([], 0)) (step := fun s : List Int × Int => fiduciallaw44_best_s1 W H D (grid D (H * W) cc) s.1 s.2) (fun i => (bestL D i cc, (i : Int))) (H * W) (by unfold FUEL; omega) rfl (x := bestL D (H * W) cc) (fun i hi => by
    show fiduciallaw44_best_s1 _ _ _ _ _ _ = _
    unfold fiduciallaw44_best_s1
    dsimp only
    have hc : (i + 1) * D ≤ H * W * D := Nat.mul_le_mul_right D hi
    have hc2 : i * D ≤ (i + 1) * D := Nat.mul_le_mul_right D (by omega)
    have e1 := nmul i D (by omega)
    have e2 : w64 ((i : Int) + 1) = ((i + 1 : Nat) : Int) := by rw [w64_id (by omega) (by omega)]; rfl
    have e3 := nmul (i + 1) D (by omega)
    have t1 : (((i * D : Nat) : Int)).toNat = i * D := by omega
    have t2 : ((((i + 1) * D : Nat) : Int)).toNat = (i + 1) * D := by omega
    have hne := rowi_ne (by omega : 0 < D) cc i
    obtain ⟨M, a1, a2, _⟩ := bix_ok hne (by rw [rowi_len]; omega)
    rw [wh_eq W H n1, if_pos (decide_eq_true (by omega)), e2, e1, e3, t1, t2, row_part2 cc hi, chk_pos (by rw [grid_len]; omega), a1, Option.bind_some, a2, Option.bind_some, chk_pos (by unfold bestL; simp; omega)]
    unfold bestL
    rw [List.range_succ, List.map_append]
    rfl) (by
    show fiduciallaw44_best_s1 _ _ _ _ _ _ = _
    unfold fiduciallaw44_best_s1
    dsimp only
    rw [wh_eq W H n1, if_neg (by simp)])]
  rfl

/-! ### The right view -/

def rgt (W : Nat) (cc : Nat → Nat → Int) (M : Int) (d i : Nat) : Int := if i % W + d < W then cc d (i + d) else M

theorem rgt_in (hW : 0 < W) {i d : Nat} (hi : i < H * W) (hd : i % W + d < W) : i + d < H * W := by
  have h1 := pos_div (W := W) (i := i) hW
  have h2 := (in_grid (H := H) hW hi).2
  have h3 : (i / W + 1) * W ≤ H * W := Nat.mul_le_mul_right W h2
  rw [Nat.add_mul] at h3
  omega

theorem right_loops (v : VC W H D (grid D (H * W) cc)) (M : Int) :
    loopM FUEL (fun s : List Int × Int => census_Right_s1 W H D (grid D (H * W) cc) M s.1 s.2) ([], 0) = some (grid D (H * W) (rgt W cc M)) ∧
    loopM FUEL (fun s : List Int × Int => fiduciallaw44_mirrored_s1 W H D (grid D (H * W) cc) M s.1 s.2) ([], 0) = some (grid D (H * W) (rgt W cc M)) := by
  obtain ⟨n1, n2⟩ := v.n
  have d1 := v.d1
  have d2 := v.d2
  have w1 := v.w1
  have w2 := v.w2
  constructor
  · rw [app_loop (D := D) (N := H * W) (by omega) (by omega) (by omega) (rgt W cc M) _ (fun i s => census_Right_s2 W D (grid D (H * W) cc) M i s.1 s.2)]
    · intro i d q hi hd hq
      show census_Right_s2 _ _ _ _ _ _ _ = _
      unfold census_Right_s2
      dsimp only
      have hm : Int.tmod (i : Int) (W : Int) = ((i % W : Nat) : Int) := rfl
      have hmw := Nat.mod_lt i (by omega : W > 0)
      have e0 : w64 (((i % W : Nat) : Int) + (d : Int)) = ((i % W + d : Nat) : Int) := by rw [w64_id (by omega) (by omega)]; rfl
      rw [if_pos (decide_eq_true (by omega)), chk_pos (by omega), hm, e0]
      unfold rgt
      by_cases hc : i % W + d < W
      · have hin := rgt_in (by omega) hi hc
        have hcl := cell_lt hd hin
        have e1 : w64 ((i : Int) + (d : Int)) = ((i + d : Nat) : Int) := by rw [w64_id (by omega) (by omega)]; rfl
        have e2 := nmul (i + d) D (by omega)
        have e3 : w64 ((((i + d) * D : Nat) : Int) + (d : Int)) = (((i + d) * D + d : Nat) : Int) := by rw [w64_id (by omega) (by omega)]; rfl
        rw [if_pos (decide_eq_true (by omega)), if_pos hc, e1, e2, e3, ix_get rfl (grid_get D cc (H * W) d (i + d) hd hin), Option.bind_some, Option.bind_some, chk_pos (by omega), w64_id (by omega) (by omega)]
        rfl
      · rw [if_neg (by rw [decide_eq_true_eq]; omega), if_neg hc, Option.bind_some, chk_pos (by omega), w64_id (by omega) (by omega)]
        rfl
    · intro i q hi
      show census_Right_s2 _ _ _ _ _ _ _ = _
      unfold census_Right_s2
      dsimp only
      rw [if_neg (by simp)]
    · intro i q q' hi hq
      show census_Right_s1 _ _ _ _ _ _ _ = _
      unfold census_Right_s1
      dsimp only
      rw [wh_eq W H n1, if_pos (decide_eq_true (by omega)), hq, Option.bind_some, w64_id (by omega) (by omega)]
      rfl
    · intro q
      show census_Right_s1 _ _ _ _ _ _ _ = _
      unfold census_Right_s1
      dsimp only
      rw [wh_eq W H n1, if_neg (by simp)]
  · rw [app_loop (D := D) (N := H * W) (by omega) (by omega) (by omega) (rgt W cc M) _ (fun i s => fiduciallaw44_mirrored_s2 W D (grid D (H * W) cc) M i s.1 s.2)]
    · intro i d q hi hd hq
      show fiduciallaw44_mirrored_s2 _ _ _ _ _ _ _ = _
      unfold fiduciallaw44_mirrored_s2
      dsimp only
      have hm : Int.tmod (i : Int) (W : Int) = ((i % W : Nat) : Int) := rfl
      have hmw := Nat.mod_lt i (by omega : W > 0)
      have e0 : w64 (((i % W : Nat) : Int) + (d : Int)) = ((i % W + d : Nat) : Int) := by rw [w64_id (by omega) (by omega)]; rfl
      rw [if_pos (decide_eq_true (by omega)), chk_pos (by omega), hm, e0]
      unfold rgt
      by_cases hc : i % W + d < W
      · have hin := rgt_in (by omega) hi hc
        have hcl := cell_lt hd hin
        have e1 : w64 ((i : Int) + (d : Int)) = ((i + d : Nat) : Int) := by rw [w64_id (by omega) (by omega)]; rfl
        have e2 := nmul (i + d) D (by omega)
        have e3 : w64 ((((i + d) * D : Nat) : Int) + (d : Int)) = (((i + d) * D + d : Nat) : Int) := by rw [w64_id (by omega) (by omega)]; rfl
        rw [if_pos (decide_eq_true (by omega)), if_pos hc, e1, e2, e3, ix_get rfl (grid_get D cc (H * W) d (i + d) hd hin), Option.bind_some, Option.bind_some, chk_pos (by omega), w64_id (by omega) (by omega)]
        rfl
      · rw [if_neg (by rw [decide_eq_true_eq]; omega), if_neg hc, Option.bind_some, chk_pos (by omega), w64_id (by omega) (by omega)]
        rfl
    · intro i q hi
      show fiduciallaw44_mirrored_s2 _ _ _ _ _ _ _ = _
      unfold fiduciallaw44_mirrored_s2
      dsimp only
      rw [if_neg (by simp)]
    · intro i q q' hi hq
      show fiduciallaw44_mirrored_s1 _ _ _ _ _ _ _ = _
      unfold fiduciallaw44_mirrored_s1
      dsimp only
      rw [wh_eq W H n1, if_pos (decide_eq_true (by omega)), hq, Option.bind_some, w64_id (by omega) (by omega)]
      rfl
    · intro q
      show fiduciallaw44_mirrored_s1 _ _ _ _ _ _ _ = _
      unfold fiduciallaw44_mirrored_s1
      dsimp only
      rw [wh_eq W H n1, if_neg (by simp)]

theorem VC.ne (v : VC W H D (grid D (H * W) cc)) : grid D (H * W) cc ≠ [] := fun h => by
  have h1 := v.len
  rw [h] at h1
  have h2 : 0 < H * W := Nat.mul_pos v.h1 v.w1
  have h3 : 0 < H * W * D := Nat.mul_pos h2 v.d1
  simp only [List.length_nil] at h1
  omega

theorem Right_eq (v : VC W H D (grid D (H * W) cc)) : ∃ M, (0 ≤ M ∧ M ≤ 1048576) ∧ census_Right W H D (grid D (H * W) cc) = some ((W : Int), (H : Int), (D : Int), grid D (H * W) (rgt W cc M), 0) ∧ fiduciallaw44_mirrored W H D (grid D (H * W) cc) = some ((W : Int), (H : Int), (D : Int), grid D (H * W) (rgt W cc M)) := by
  obtain ⟨n1, n2⟩ := v.n
  obtain ⟨M, h1, h2, _⟩ := max_spec v.ne (by rw [v.len]; omega)
  obtain ⟨l1, l2⟩ := right_loops v M
  refine ⟨M, v.ok M h2, ?_, ?_⟩
  · unfold census_Right
    rw [ccheck_good v, Option.bind_some, if_neg (by decide), h1, Option.bind_some, l1]
    rfl
  · unfold fiduciallaw44_mirrored
    rw [h1, Option.bind_some, l2]
    rfl

theorem grid_vc (v : VC W H D (grid D (H * W) cc)) {q : Nat → Nat → Int} (hq : ∀ d i, d < D → i < H * W → 0 ≤ q d i ∧ q d i ≤ 1048576) : VC W H D (grid D (H * W) q) :=
  ⟨v.w1, v.w2, v.h1, v.h2, v.d1, v.d2, grid_len _ _ _, fun x hx => by
    obtain ⟨d, i, h1, h2, rfl⟩ := grid_mem hx
    exact hq d i h1 h2⟩
theorem vc_at (v : VC W H D (grid D (H * W) cc)) {d i : Nat} (hd : d < D) (hi : i < H * W) : 0 ≤ cc d i ∧ cc d i ≤ 1048576 := v.ok _ (List.mem_of_getElem? (grid_get D cc (H * W) d i hd hi))

theorem rgt_vc (v : VC W H D (grid D (H * W) cc)) {M : Int} (hM : 0 ≤ M ∧ M ≤ 1048576) : VC W H D (grid D (H * W) (rgt W cc M)) := grid_vc v fun d i hd hi => by
  unfold rgt
  split
  · exact vc_at v hd (rgt_in v.w1 hi (by assumption))
  · exact hM
end

theorem bestlaw_true (w h d : Int) (c : List Int) : fiduciallaw44_CensusBest w h d c = some true := by
  unfold fiduciallaw44_CensusBest
  rw [known44, Option.bind_some, if_neg (by decide)]
  by_cases hn : (600 : Int) < c.length
  · rw [if_pos (decide_eq_true hn)]
  rw [if_neg (by simpa using hn)]
  rcases vcases w h d c (by omega) with ⟨W, H, D, rfl, rfl, rfl, v⟩ | ⟨h1, h2⟩
  · have vv := v
    obtain ⟨cc, rfl, _⟩ := vv.cells
    obtain ⟨n1, n2⟩ := v.n
    obtain ⟨M, hM, r1, r2⟩ := Right_eq v
    simp only [Best_eq v, r1, r2, best_eq v, ccheck_good v, valid_good v, Option.bind_some]
    rw [if_neg (by decide), if_pos (by decide), if_pos (by decide), equal_self _ (by unfold bestL; simp; omega), Option.bind_some, if_pos rfl, same_self _ _ _ _ (by rw [grid_len]; omega)]
    rfl
  · have e1 : census_Best w h d c = some ([], 1) := by unfold census_Best; rw [h1]; rfl
    have e2 : census_Right w h d c = some (0, 0, 0, [], 1) := by unfold census_Right; rw [h1]; rfl
    simp only [e1, e2, h1, h2, Option.bind_some]
    rw [if_pos (by decide), if_pos (by decide), if_pos (by decide), same_self 0 0 0 [] (by simp)]
    rfl

/-! ### Twice -/

/-- The place of a row's pixel, seen from its end. -/
def fl (W i : Nat) : Nat := i / W * W + (W - 1 - i % W)
theorem fl_div {W : Nat} (hW : 0 < W) (i : Nat) : fl W i / W = i / W := by
  unfold fl
  rw [Nat.mul_comm, Nat.mul_add_div hW, Nat.div_eq_of_lt (by omega : W - 1 - i % W < W), Nat.add_zero]
theorem fl_mod {W : Nat} (hW : 0 < W) (i : Nat) : fl W i % W = W - 1 - i % W := by
  unfold fl
  rw [Nat.mul_comm, Nat.mul_add_mod, Nat.mod_eq_of_lt (by omega)]
theorem fl_lt {W H i : Nat} (hW : 0 < W) (hi : i < H * W) : fl W i < H * W := by
  have h2 := (in_grid (H := H) hW hi).2
  have h3 : (i / W + 1) * W ≤ H * W := Nat.mul_le_mul_right W h2
  rw [Nat.add_mul] at h3
  unfold fl
  omega

section
variable {W H D : Nat} {cc : Nat → Nat → Int}
theorem flip_eq (v : VC W H D (grid D (H * W) cc)) : fiduciallaw44_CensusTwice_c1 W H D (grid D (H * W) cc) = some ((W : Int), (H : Int), (D : Int), grid D (H * W) (fun d i => cc d (fl W i))) := by
  obtain ⟨n1, n2⟩ := v.n
  have d1 := v.d1
  have d2 := v.d2
  have w1 := v.w1
  have w2 := v.w2
  unfold fiduciallaw44_CensusTwice_c1
  rw [loop_go (s0 := ([], 0)) (step := fun s : List Int × Int => fiduciallaw44_CensusTwice_c1_s1 W H D (grid D (H * W) cc) s.1 s.2) (fun i => (grid D i (fun d i => cc d (fl W i)), (i : Int))) (H * W) (by unfold FUEL; omega) rfl (x := grid D (H * W) (fun d i => cc d (fl W i))) (fun i hi => by
    show fiduciallaw44_CensusTwice_c1_s1 _ _ _ _ _ _ = _
    unfold fiduciallaw44_CensusTwice_c1_s1
    dsimp only
    have hm : Int.tmod (i : Int) (W : Int) = ((i % W : Nat) : Int) := rfl
    have hmw := Nat.mod_lt i (by omega : W > 0)
    have hml := mod_le' (i := i) (W := W)
    have hpd := pos_div (W := W) (i := i) (by omega)
    have hfl := fl_lt (H := H) (by omega : 0 < W) hi
    have hk : w64 ((w64 ((w64 ((w64 ((i : Int) - ((i % W : Nat) : Int))) + (W : Int))) - 1)) - ((i % W : Nat) : Int)) = ((fl W i : Nat) : Int) := by
      have e1 : w64 ((i : Int) - ((i % W : Nat) : Int)) = ((i / W * W : Nat) : Int) := by rw [w64_id (by omega) (by omega)]; omega
      have e2 : w64 (((i / W * W : Nat) : Int) + (W : Int)) = ((i / W * W : Nat) : Int) + (W : Int) := w64_id (by omega) (by omega)
      have e3 : w64 (((i / W * W : Nat) : Int) + (W : Int) - 1) = ((i / W * W : Nat) : Int) + (W : Int) - 1 := w64_id (by omega) (by omega)
      rw [e1, e2, e3, w64_id (by omega) (by omega)]
      unfold fl
      omega
    have hc : (fl W i + 1) * D ≤ H * W * D := Nat.mul_le_mul_right D hfl
    have hc2 : fl W i * D ≤ (fl W i + 1) * D := Nat.mul_le_mul_right D (by omega)
    have hc3 : (i + 1) * D ≤ H * W * D := Nat.mul_le_mul_right D hi
    have e4 := nmul (fl W i) D (by omega)
    have e5 : w64 (((fl W i : Nat) : Int) + 1) = ((fl W i + 1 : Nat) : Int) := by rw [w64_id (by omega) (by omega)]; rfl
    have e6 := nmul (fl W i + 1) D (by omega)
    have t1 : (((fl W i * D : Nat) : Int)).toNat = fl W i * D := by omega
    have t2 : ((((fl W i + 1) * D : Nat) : Int)).toNat = (fl W i + 1) * D := by omega
    rw [Nat.add_mul] at hc3
    rw [wh_eq W H n1, if_pos (decide_eq_true (by omega)), chk_pos (by omega), chk_pos (by omega), hm, hk, e5, e4, e6, t1, t2, row_part2 cc hfl, chk_pos (by rw [grid_len]; omega), chk_pos (by rw [grid_len, rowi_len]; omega), w64_id (by omega) (by omega), grid_succ]
    rfl) (by
    show fiduciallaw44_CensusTwice_c1_s1 _ _ _ _ _ _ = _
    unfold fiduciallaw44_CensusTwice_c1_s1
    dsimp only
    rw [wh_eq W H n1, if_neg (by simp)])]
  rfl
end

theorem twice_at {W H : Nat} (hW : 0 < W) (cc : Nat → Nat → Int) (M M2 : Int) {d i : Nat} (hi : i < H * W) (hd : d ≤ i % W) :
    rgt W (fun d i => rgt W cc M d (fl W i)) M2 d (fl W i) = cc d i := by
  have hmw := Nat.mod_lt i hW
  have hpd := pos_div (W := W) (i := i) hW
  have e1 := fl_mod hW i
  unfold rgt
  rw [if_pos (by omega)]
  have e2 : fl W (fl W i + d) = i - d := by
    have h1 : fl W i + d = i / W * W + (W - 1 - i % W + d) := by unfold fl; omega
    have h2 : (fl W i + d) / W = i / W := by rw [h1, Nat.mul_comm, Nat.mul_add_div hW, Nat.div_eq_of_lt (by omega : W - 1 - i % W + d < W), Nat.add_zero]
    have h3 : (fl W i + d) % W = W - 1 - i % W + d := by rw [h1, Nat.mul_comm, Nat.mul_add_mod, Nat.mod_eq_of_lt (by omega)]
    show (fl W i + d) / W * W + (W - 1 - (fl W i + d) % W) = i - d
    rw [h2, h3]
    omega
  show (if fl W (fl W i + d) % W + d < W then cc d (fl W (fl W i + d) + d) else M) = cc d i
  rw [e2]
  have h4 : i - d = i / W * W + (i % W - d) := by omega
  have e3 : (i - d) % W = i % W - d := by rw [h4, Nat.mul_comm, Nat.mul_add_mod, Nat.mod_eq_of_lt (by omega)]
  rw [if_pos (by omega)]
  congr 1
  omega

theorem twice_true (w h d : Int) (c : List Int) : fiduciallaw44_CensusTwice w h d c = some true := by
  unfold fiduciallaw44_CensusTwice
  rw [known44, Option.bind_some, if_neg (by decide)]
  by_cases hn : (600 : Int) < c.length
  · rw [if_pos (decide_eq_true hn)]; rfl
  rw [if_neg (by simpa using hn)]
  rcases vcases w h d c (by omega) with ⟨W, H, D, rfl, rfl, rfl, v⟩ | ⟨_, h2⟩
  · have vv := v
    obtain ⟨cc, rfl, _⟩ := vv.cells
    obtain ⟨n1, n2⟩ := v.n
    have d1 := v.d1
    have d2 := v.d2
    have w1 := v.w1
    obtain ⟨M, hM, r1, _⟩ := Right_eq v
    have v1 := rgt_vc v hM
    have f1 := flip_eq v1
    have v2 : VC W H D (grid D (H * W) (fun d i => rgt W cc M d (fl W i))) := grid_vc v1 fun d i hd hi => vc_at v1 hd (fl_lt w1 hi)
    obtain ⟨M2, hM2, r2, _⟩ := Right_eq v2
    have v3 := rgt_vc v2 hM2
    have f2 := flip_eq v3
    simp only [valid_good v, r1, valid_good v1, f1, r2, valid_good v3, f2, Option.bind_some, Bool.not_true, Bool.false_eq_true, if_false]
    rw [if_neg (by decide), Option.bind_some, if_neg (by decide), Option.bind_some, if_neg (by decide)]
    rw [loop_go (s0 := 0) (step := fun s => fiduciallaw44_CensusTwice_s1 W H D (grid D (H * W) cc) (grid D (H * W) (fun d i => rgt W (fun d i => rgt W cc M d (fl W i)) M2 d (fl W i))) s) (fun i => (i : Int)) (H * W) (by unfold FUEL; omega) rfl (x := .inr ()) (fun i hi => by
      unfold fiduciallaw44_CensusTwice_s1
      rw [wh_eq W H n1, if_pos (decide_eq_true (by omega))]
      rw [loop_go (s0 := 0) (step := fun s => fiduciallaw44_CensusTwice_s2 W D (grid D (H * W) cc) (grid D (H * W) (fun d i => rgt W (fun d i => rgt W cc M d (fl W i)) M2 d (fl W i))) i s) (fun i => (i : Int)) D (by unfold FUEL; omega) rfl (x := .inr ()) (fun d hd => by
        unfold fiduciallaw44_CensusTwice_s2
        have hm : Int.tmod (i : Int) (W : Int) = ((i % W : Nat) : Int) := rfl
        have hcl := cell_lt hd hi
        have e1 := nmul i D (by have : (i + 1) * D ≤ H * W * D := Nat.mul_le_mul_right D hi; rw [Nat.add_mul] at this; omega)
        have e2 : w64 (((i * D : Nat) : Int) + (d : Int)) = ((i * D + d : Nat) : Int) := by rw [w64_id (by omega) (by omega)]; rfl
        rw [if_pos (decide_eq_true (by omega)), chk_pos (by omega), hm, e1, e2]
        have key : (if (decide ((d : Int) ≤ ((i % W : Nat) : Int))) = true then (ix (grid D (H * W) (fun d i => rgt W (fun d i => rgt W cc M d (fl W i)) M2 d (fl W i))) ((i * D + d : Nat) : Int)).bind fun v_26 => (ix (grid D (H * W) cc) ((i * D + d : Nat) : Int)).bind fun v_27 => some (v_26 != v_27) else some false) = some false := by
          by_cases hc : d ≤ i % W
          · rw [if_pos (decide_eq_true (by omega)), ix_get rfl (grid_get D _ (H * W) d i hd hi), Option.bind_some, ix_get rfl (grid_get D cc (H * W) d i hd hi), Option.bind_some, twice_at w1 cc M M2 hi hc]
            simp
          · rw [if_neg (by rw [decide_eq_true_eq]; omega)]
        rw [key, Option.bind_some, if_neg (by decide), w64_id (by omega) (by omega)]
        rfl) (by
        unfold fiduciallaw44_CensusTwice_s2
        rw [if_neg (by simp)])]
      show some (Step.next (w64 ((i : Int) + 1))) = _
      rw [w64_id (by omega) (by omega)]
      rfl) (by
      unfold fiduciallaw44_CensusTwice_s1
      rw [wh_eq W H n1, if_neg (by simp)])]
    rfl
  · rw [h2]; rfl

end Go.Proofs.Ytmeopehknkfnbaa
