/-
  PLAIN, seat top: the law Coarse.
-/
import Derived.Test.YtbolefkhmfbnlaaPCens
set_option linter.unusedSimpArgs false
set_option linter.unusedVariables false
namespace Go.Proofs.Ytbolefkhmfbnlaa
open Go.E

theorem awake : fiducialtop_dCoarseAwake = some true := by kernel_rfl

section
variable {W H : Nat} {m : Int} {g g' : Nat → Nat → Int}

theorem both_top (hb : Bd W H m g) (hb' : Bd W H m g') : census_both W H m (grid W H g) W H m (grid W H g') = some 0 := by
  have h0 := check_good hb.good
  have h1 := check_good hb'.good
  unfold census_both
  rw [loop_go (s0 := 0) (step := fun s => census_both_s1 W H m (grid W H g) W H m (grid W H g') s) (fun i => (i : Int)) 2 (by unfold FUEL; omega) rfl (fun i hi => by
    unfold census_both_s1
    rcases (show i = 0 ∨ i = 1 by omega) with rfl | rfl
    · rw [if_pos (by decide), ix_get (i := 0) (y := ((W : Int), (H : Int), m, grid W H g)) rfl rfl, Option.bind_some, h0, Option.bind_some, if_neg (by decide)]
      rfl
    · rw [if_pos (by decide), ix_get (i := 1) (y := ((W : Int), (H : Int), m, grid W H g')) rfl rfl, Option.bind_some, h1, Option.bind_some, if_neg (by decide)]
      rfl) (x := .inr ()) (by
    unfold census_both_s1
    rw [if_neg (by decide)])]
  simp

theorem Plain_top (hb : Bd W H m g) (hb' : Bd W H m g') {D : Nat} (h1 : 1 ≤ D) (h2 : D ≤ 64) :
    census_Plain W H m (grid W H g) W H m (grid W H g') D = some ((W : Int), (H : Int), (D : Int), grid D (H * W) (cst W (pf W g g') (m + 1)), 0) := by
  have e1 := both_top hb hb'
  obtain ⟨b1, b2, b3, b4, b5, b6, b7⟩ := hb
  have hN : H * W ≤ 64 * 64 := Nat.mul_le_mul b4 b2
  have hm : w64 (m + 1) = m + 1 := w64_id (by omega) (by omega)
  unfold census_Plain
  rw [e1, Option.bind_some, if_neg (by decide), depth_ok h1 h2, Option.bind_some, if_neg (by decide), hm,
    costs_eq (N := H * W) (by omega) h2 (by omega) (H : Int) m (grid W H g) (grid W H g) (grid W H g') (m + 1) (grid_len _ _ _) (grid_len _ _ _) _ (pf W g g') (fun i k hi hk => by
      rw [grid_getD g hi, grid_getD g' hk]; rfl)]
  rfl

/-! ### Smooth -/

def cx (W x i : Nat) : Nat := min (x + i - 1) (W - 1)
theorem cx_lt {W x i : Nat} (hW : 0 < W) : cx W x i < W := by unfold cx; omega
def wt (i : Nat) : Int := if i = 1 then 2 else 1
theorem wt_ix {i : Nat} (hi : i < 3) : ix ([1, 2, 1] : List Int) (i : Int) = some (wt i) := by
  rcases (show i = 0 ∨ i = 1 ∨ i = 2 by omega) with rfl | rfl | rfl <;> rfl
def sum4 (base v : Int) (f : Nat → Int) : Nat → Int
  | 0 => base
  | i + 1 => sum4 base v f i + v * wt i * f i
def sum3 (f : Nat → Nat → Int) : Nat → Int
  | 0 => 8
  | j + 1 => sum4 (sum3 f j) (wt j) (f j) 3
def smo (W H : Nat) (g : Nat → Nat → Int) (x y : Nat) : Int := sum3 (fun j i => g (cx W x i) (cx H y j)) 3 / 16

theorem sum4_bd {base v m : Int} {f : Nat → Int} (hv : v = 1 ∨ v = 2) (hf : ∀ i, i < 3 → 0 ≤ f i ∧ f i ≤ m) : ∀ i, i ≤ 3 → base ≤ sum4 base v f i ∧ sum4 base v f i ≤ base + 4 * m * i
  | 0, _ => by simp [sum4]
  | i + 1, hi => by
    obtain ⟨a, b⟩ := sum4_bd (base := base) hv hf i (by omega)
    obtain ⟨c, d⟩ := hf i (by omega)
    simp only [sum4]
    have hw : wt i = 1 ∨ wt i = 2 := by unfold wt; split <;> simp
    have e : 4 * m * ((i + 1 : Nat) : Int) = 4 * m * (i : Int) + 4 * m := by push_cast; rw [Int.mul_add, Int.mul_one]
    rw [e]
    rcases hv with rfl | rfl <;> rcases hw with h | h <;> rw [h] <;> omega
theorem sum4_all (base v : Int) (f : Nat → Int) : sum4 base v f 3 = base + v * 1 * f 0 + v * 2 * f 1 + v * 1 * f 2 := rfl
theorem sum3_all (f : Nat → Nat → Int) : sum3 f 3 = 8 + (1 * 1 * f 0 0 + 1 * 2 * f 0 1 + 1 * 1 * f 0 2) + (2 * 1 * f 1 0 + 2 * 2 * f 1 1 + 2 * 1 * f 1 2) + (1 * 1 * f 2 0 + 1 * 2 * f 2 1 + 1 * 1 * f 2 2) := by
  show sum4 (sum4 (sum4 8 1 (f 0) 3) 2 (f 1) 3) 1 (f 2) 3 = _
  simp only [sum4_all]
  omega
theorem sum3_bd {m : Int} {f : Nat → Nat → Int} (hf : ∀ j i, j < 3 → i < 3 → 0 ≤ f j i ∧ f j i ≤ m) : ∀ j, j ≤ 3 → 8 ≤ sum3 f j ∧ sum3 f j ≤ 8 + 12 * m * j
  | 0, _ => by simp [sum3]
  | j + 1, hj => by
    obtain ⟨a, b⟩ := sum3_bd hf j (by omega)
    have hw : wt j = 1 ∨ wt j = 2 := by unfold wt; split <;> simp
    obtain ⟨c, d⟩ := sum4_bd (base := sum3 f j) (v := wt j) hw (fun i hi => hf j i (by omega) hi) 3 (by omega)
    have e : 12 * m * ((j + 1 : Nat) : Int) = 12 * m * (j : Int) + 12 * m := by push_cast; rw [Int.mul_add, Int.mul_one]
    have e2 : 4 * m * ((3 : Nat) : Int) = 12 * m := by omega
    simp only [sum3]
    omega

theorem smo_bd (hb : Bd W H m g) (x y : Nat) : 0 ≤ smo W H g x y ∧ smo W H g x y ≤ m := by
  obtain ⟨b1, b2, b3, b4, b5, b6, b7⟩ := hb
  have hf := fun j i => b7 (cx W x i) (cx H y j) (cx_lt b1) (cx_lt b3)
  unfold smo
  rw [sum3_all]
  have := hf 0 0
  have := hf 0 1
  have := hf 0 2
  have := hf 1 0
  have := hf 1 1
  have := hf 1 2
  have := hf 2 0
  have := hf 2 1
  have := hf 2 2
  omega

theorem cell_w64' (hW : W ≤ 64) (hH : H ≤ 64) {x y : Nat} (hx : x < W) (hy : y < H) : w64 ((w64 ((y : Int) * (W : Int))) + (x : Int)) = ((y * W + x : Nat) : Int) := by
  have h1 := cell_lt hx hy
  have h2 : H * W ≤ 64 * 64 := Nat.mul_le_mul hH hW
  have h3 : (y : Int) * (W : Int) = ((y * W : Nat) : Int) := by push_cast; rfl
  have h4 : w64 ((y * W : Nat) : Int) = ((y * W : Nat) : Int) := w64_id (by omega) (by omega)
  rw [h3, h4, w64_id (by omega) (by omega)]
  omega

theorem pixel_eq (hb : Bd W H m g) {x y i j : Nat} (hx : x < W) (hy : y < H) (hi : i < 3) (hj : j < 3) : pyramid_Smooth_c1 (w64 ((w64 ((x : Int) + i)) - 1)) (w64 ((w64 ((y : Int) + j)) - 1)) W H m (grid W H g) = some (g (cx W x i) (cx H y j)) := by
  obtain ⟨b1, b2, b3, b4, b5, b6, b7⟩ := hb
  unfold pyramid_Smooth_c1
  have e1 : w64 ((x : Int) + i) = (x : Int) + i := w64_id (by omega) (by omega)
  have e2 : w64 ((x : Int) + i - 1) = (x : Int) + i - 1 := w64_id (by omega) (by omega)
  have e3 : w64 ((y : Int) + j) = (y : Int) + j := w64_id (by omega) (by omega)
  have e4 : w64 ((y : Int) + j - 1) = (y : Int) + j - 1 := w64_id (by omega) (by omega)
  have e5 : w64 ((W : Int) - 1) = (W : Int) - 1 := w64_id (by omega) (by omega)
  have e6 : w64 ((H : Int) - 1) = (H : Int) - 1 := w64_id (by omega) (by omega)
  have c1 : (if (W : Int) - 1 < (if (x : Int) + i - 1 < 0 then 0 else (x : Int) + i - 1) then (W : Int) - 1 else (if (x : Int) + i - 1 < 0 then 0 else (x : Int) + i - 1)) = ((cx W x i : Nat) : Int) := by
    unfold cx
    split <;> split <;> omega
  have c2 : (if (H : Int) - 1 < (if (y : Int) + j - 1 < 0 then 0 else (y : Int) + j - 1) then (H : Int) - 1 else (if (y : Int) + j - 1 < 0 then 0 else (y : Int) + j - 1)) = ((cx H y j : Nat) : Int) := by
    unfold cx
    split <;> split <;> omega
  rw [e1, e2, e3, e4, e5, e6, c1, c2, cell_w64' b2 b4 (cx_lt b1) (cx_lt b3), ix_get rfl (grid_get W g H _ _ (cx_lt b1) (cx_lt b3))]
  rfl

theorem smooth_eq (hb : Bd W H m g) : pyramid_Smooth W H m (grid W H g) = some ((W : Int), (H : Int), m, grid W H (smo W H g), 0) := by
  have hb' := hb
  obtain ⟨b1, b2, b3, b4, b5, b6, b7⟩ := hb'
  have hHW : H * W ≤ 64 * 64 := Nat.mul_le_mul b4 b2
  unfold pyramid_Smooth
  rw [check_good hb.good, Option.bind_some, if_neg (by decide)]
  rw [app_loop (D := W) (N := H) (by omega) (by omega) (by omega) (smo W H g) (fun s => pyramid_Smooth_s1 W H m (grid W H g) s.1 s.2) (fun y s => pyramid_Smooth_s2 W H m (grid W H g) y s.1 s.2)]
  · rfl
  · intro y x l hy hx hl
    show pyramid_Smooth_s2 _ _ _ _ _ _ _ = _
    unfold pyramid_Smooth_s2
    dsimp only
    have hf := fun (j i : Nat) (_ : j < 3) (_ : i < 3) => b7 (cx W x i) (cx H y j) (cx_lt b1) (cx_lt b3)
    have inner : ∀ j : Nat, j < 3 → loopM FUEL (fun s : Int × Int => pyramid_Smooth_s4 W H m (grid W H g) y x j (wt j) s.1 s.2) (sum3 (fun j i => g (cx W x i) (cx H y j)) j, 0) = some (sum3 (fun j i => g (cx W x i) (cx H y j)) (j + 1)) := fun j hj => by
      obtain ⟨s1, s2⟩ := sum3_bd hf j (by omega)
      have hw : wt j = 1 ∨ wt j = 2 := by unfold wt; split <;> simp
      refine loop_go (fun i => (sum4 (sum3 (fun j i => g (cx W x i) (cx H y j)) j) (wt j) (fun i => g (cx W x i) (cx H y j)) i, (i : Int))) 3 (by unfold FUEL; omega) rfl (fun i hi => ?_) ?_
      · show pyramid_Smooth_s4 _ _ _ _ _ _ _ _ _ _ = _
        unfold pyramid_Smooth_s4
        dsimp only
        obtain ⟨t1, t2⟩ := sum4_bd (base := sum3 (fun j i => g (cx W x i) (cx H y j)) j) (v := wt j) hw (fun i hi => hf j i hj hi) i (by omega)
        have hp := hf j i hj hi
        have hw2 : wt i = 1 ∨ wt i = 2 := by unfold wt; split <;> simp
        have q1 : 12 * m * (j : Int) ≤ 12 * m * 3 := Int.mul_le_mul_of_nonneg_left (by omega) (by omega)
        have q2 : 4 * m * (i : Int) ≤ 4 * m * 3 := Int.mul_le_mul_of_nonneg_left (by omega) (by omega)
        have hvw : wt j * wt i = 1 ∨ wt j * wt i = 2 ∨ wt j * wt i = 4 := by
          rcases hw with h | h <;> rcases hw2 with h2 | h2 <;> rw [h, h2] <;> simp
        have e1 : w64 (wt j * wt i) = wt j * wt i := w64_id (by omega) (by omega)
        have hpr : 0 ≤ wt j * wt i * g (cx W x i) (cx H y j) ∧ wt j * wt i * g (cx W x i) (cx H y j) ≤ 4 * m := by
          rcases hvw with h | h | h <;> rw [h] <;> omega
        have e2 : w64 (wt j * wt i * g (cx W x i) (cx H y j)) = wt j * wt i * g (cx W x i) (cx H y j) := w64_id (by omega) (by omega)
        rw [if_pos (decide_eq_true (by omega)), wt_ix hi, Option.bind_some, pixel_eq hb hx hy hi hj, Option.bind_some, e1, e2, w64_id (by omega) (by omega), w64_id (by omega) (by omega)]
        rfl
      · show pyramid_Smooth_s4 _ _ _ _ _ _ _ _ _ _ = _
        unfold pyramid_Smooth_s4
        dsimp only
        rw [if_neg (by simp)]
        rfl
    have outer : loopM FUEL (fun s : Int × Int => pyramid_Smooth_s3 W H m (grid W H g) y x s.1 s.2) (8, 0) = some (sum3 (fun j i => g (cx W x i) (cx H y j)) 3) := by
      refine loop_go (fun j => (sum3 (fun j i => g (cx W x i) (cx H y j)) j, (j : Int))) 3 (by unfold FUEL; omega) rfl (fun j hj => ?_) ?_
      · show pyramid_Smooth_s3 _ _ _ _ _ _ _ _ = _
        unfold pyramid_Smooth_s3
        dsimp only
        rw [if_pos (decide_eq_true (by omega)), wt_ix hj, Option.bind_some, inner j hj, Option.bind_some, w64_id (by omega) (by omega)]
        rfl
      · show pyramid_Smooth_s3 _ _ _ _ _ _ _ _ = _
        unfold pyramid_Smooth_s3
        dsimp only
        rw [if_neg (by simp)]
    obtain ⟨s1, s2⟩ := sum3_bd hf 3 (by omega)
    have hdiv : w64 (Int.tdiv (sum3 (fun j i => g (cx W x i) (cx H y j)) 3) 16) = smo W H g x y := by
      have hq := smo_bd hb x y
      unfold smo at hq ⊢
      rw [Int.tdiv_eq_ediv_of_nonneg (by omega), w64_id (by omega) (by omega)]
    rw [if_pos (decide_eq_true (by omega)), outer, Option.bind_some, chk_pos (by omega), hdiv, w64_id (by omega) (by omega)]
    rfl
  · intro y l hy
    show pyramid_Smooth_s2 _ _ _ _ _ _ _ = _
    unfold pyramid_Smooth_s2
    dsimp only
    rw [if_neg (by simp)]
  · intro y l l' hy hl
    show pyramid_Smooth_s1 _ _ _ _ _ _ = _
    unfold pyramid_Smooth_s1
    dsimp only
    rw [if_pos (decide_eq_true (by omega)), hl, Option.bind_some, w64_id (by omega) (by omega)]
    rfl
  · intro l
    show pyramid_Smooth_s1 _ _ _ _ _ _ = _
    unfold pyramid_Smooth_s1
    dsimp only
    rw [if_neg (by simp)]

/-! ### Reduce -/

def red (W H : Nat) (g : Nat → Nat → Int) (X Y : Nat) : Int := smo W H g (2 * X) (2 * Y)
def hv (n : Nat) : Nat := (n + 1) / 2

theorem red_bd (hb : Bd W H m g) : Bd (hv W) (hv H) m (red W H g) := by
  have hb' := hb
  obtain ⟨b1, b2, b3, b4, b5, b6, b7⟩ := hb'
  exact ⟨by unfold hv; omega, by unfold hv; omega, by unfold hv; omega, by unfold hv; omega, b5, b6, fun x y _ _ => smo_bd hb _ _⟩

theorem reduce_eq (hb : Bd W H m g) : pyramid_Reduce W H m (grid W H g) = some (((hv W : Nat) : Int), ((hv H : Nat) : Int), m, grid (hv W) (hv H) (red W H g), 0) := by
  have hb' := hb
  obtain ⟨b1, b2, b3, b4, b5, b6, b7⟩ := hb'
  have hW2 : hv W ≤ 32 := by unfold hv; omega
  have hH2 : hv H ≤ 32 := by unfold hv; omega
  unfold pyramid_Reduce
  simp only [smooth_eq hb, Option.bind_some]
  rw [if_neg (by decide)]
  have half : ∀ n : Nat, n ≤ 64 → w64 (Int.tdiv (w64 ((n : Int) + 1)) 2) = ((hv n : Nat) : Int) := fun n hn => by
    have e1 : w64 ((n : Int) + 1) = ((n + 1 : Nat) : Int) := by rw [w64_id (by omega) (by omega)]; rfl
    rw [e1, Int.tdiv_eq_ediv_of_nonneg (by omega), w64_id (by omega) (by omega)]
    unfold hv
    omega
  have rowl : ∀ Y, Y < hv H → ∀ l : List Int, l.length ≤ 4096 → loopM FUEL (fun s : List Int × Int => pyramid_Reduce_s2 W (grid W H (smo W H g)) ((2 * Y : Nat) : Int) s.1 s.2) (l, 0) = some (l ++ (List.range (hv W)).map fun X => red W H g X Y) := fun Y hY l hl => by
    refine loop_go (fun X => (l ++ (List.range X).map (fun X => red W H g X Y), ((2 * X : Nat) : Int))) (hv W) (by unfold FUEL; omega) (by simp) (fun X hX => ?_) ?_
    · show pyramid_Reduce_s2 _ _ _ _ _ = _
      unfold pyramid_Reduce_s2
      dsimp only
      have hx : 2 * X < W := by unfold hv at hX; omega
      have hy : 2 * Y < H := by unfold hv at hY; omega
      rw [if_pos (decide_eq_true (by omega)), cell_w64' b2 b4 hx hy, ix_get rfl (grid_get W (smo W H g) H _ _ hx hy), Option.bind_some, chk_pos (by simp; omega), w64_id (by omega) (by omega), List.range_succ, List.map_append, List.append_assoc]
      congr 3
    · show pyramid_Reduce_s2 _ _ _ _ _ = _
      unfold pyramid_Reduce_s2
      dsimp only
      rw [if_neg (by unfold hv; rw [decide_eq_true_eq]; omega)]
  rw [loop_go (s0 := ([], 0)) (step := fun s : List Int × Int => pyramid_Reduce_s1 W H (grid W H (smo W H g)) s.1 s.2) (fun Y => (grid (hv W) Y (red W H g), ((2 * Y : Nat) : Int))) (hv H) (by unfold FUEL; omega) rfl (x := grid (hv W) (hv H) (red W H g)) (fun Y hY => by
    show pyramid_Reduce_s1 _ _ _ _ _ = _
    unfold pyramid_Reduce_s1
    dsimp only
    have hy : 2 * Y < H := by unfold hv at hY; omega
    have hYW : Y * hv W ≤ 32 * 32 := Nat.mul_le_mul (by omega) hW2
    rw [if_pos (decide_eq_true (by omega)), rowl Y hY _ (by rw [grid_len]; omega), Option.bind_some, w64_id (by omega) (by omega), grid_succ]
    congr 3
    skip) (by
    show pyramid_Reduce_s1 _ _ _ _ _ = _
    unfold pyramid_Reduce_s1
    dsimp only
    rw [if_neg (by unfold hv; rw [decide_eq_true_eq]; omega)])]
  rw [Option.bind_some, half W b2, half H b4]

/-! ### The shifted image -/

theorem shifted_top (hb : Bd W H m g) {p1 : Int} {s : Nat} (hs : w64 (2 * (Int.tmod (w64 p1) 4)) = s) (hs3 : s ≤ 6) (border : List Int) (hbd : ∀ v ∈ border, 0 ≤ v ∧ v < 256) :
    ∃ b : Nat → Int, (∀ i, 0 ≤ b i ∧ b i ≤ m) ∧ loopM FUEL (fun q : List Int × Int => fiducialtop_TopCoarse_s1 W m (grid W H g) p1 border q.1 q.2) ([], 0) = some (grid W H (shg W s g b)) := by
  obtain ⟨b1, b2, b3, b4, b5, b6, b7⟩ := hb
  have hN : H * W ≤ 64 * 64 := Nat.mul_le_mul b4 b2
  refine ⟨fun i => if i < border.length then Int.tmod (border.getD i 0) (m + 1) else 0, fun i => ?_, ?_⟩
  · dsimp only
    split
    · rename_i hi
      have hv := hbd _ (List.getElem_mem hi)
      rw [getD_eq hi]
      have h1 := Int.tmod_nonneg (m + 1) hv.1
      have h2 := Int.tmod_lt_of_pos border[i] (by omega : (0 : Int) < m + 1)
      omega
    · omega
  · have key := loop_go (s0 := ([], 0)) (step := fun q : List Int × Int => fiducialtop_TopCoarse_s1 W m (grid W H g) p1 border q.1 q.2) (fun i => ((List.range i).map (fun i => shg W s g (fun i => if i < border.length then Int.tmod (border.getD i 0) (m + 1) else 0) (i % W) (i / W)), (i : Int))) (H * W) (by unfold FUEL; omega) rfl (x := (List.range (H * W)).map (fun i => shg W s g (fun i => if i < border.length then Int.tmod (border.getD i 0) (m + 1) else 0) (i % W) (i / W))) (fun i hi => by
      show fiducialtop_TopCoarse_s1 _ _ _ _ _ _ _ = _
      unfold fiducialtop_TopCoarse_s1
      dsimp only
      have hm : Int.tmod (i : Int) (W : Int) = ((i % W : Nat) : Int) := rfl
      have hmw := Nat.mod_lt i (by omega : W > 0)
      have hm1 : w64 (m + 1) = m + 1 := w64_id (by omega) (by omega)
      have hpd := pos_div (W := W) (i := i) (by omega)
      have hbv : (if (decide ((i : Int) < (border.length : Int))) = true then (ix border (i : Int)).bind fun v_36 => chk ((w64 (m + 1)) ≠ 0) (some (Int.tmod (w64 v_36) (w64 (m + 1)))) else some 0) = some (if i < border.length then Int.tmod (border.getD i 0) (m + 1) else 0) := by
        by_cases hi2 : i < border.length
        · have hv := hbd _ (List.getElem_mem hi2)
          have e1 : w64 border[i] = border[i] := w64_id (by omega) (by omega)
          rw [if_pos (decide_eq_true (by omega)), if_pos hi2, ix_lt border i hi2, Option.bind_some, hm1, chk_pos (by omega), e1, getD_eq hi2]
        · rw [if_neg (by rw [decide_eq_true_eq]; omega), if_neg hi2]
      have e0 : w64 (((i % W : Nat) : Int) + (s : Int)) = ((i % W + s : Nat) : Int) := by rw [w64_id (by omega) (by omega)]; rfl
      rw [if_pos (decide_eq_true (by rw [grid_len]; omega)), hbv, Option.bind_some, chk_pos (by omega), hm, hs, e0]
      have hval : (if (decide (((i % W + s : Nat) : Int) < (W : Int))) = true then (ix (grid W H g) (w64 ((i : Int) + (s : Int)))).bind fun v_35 => some v_35 else some (if i < border.length then Int.tmod (border.getD i 0) (m + 1) else 0)) = some (shg W s g (fun i => if i < border.length then Int.tmod (border.getD i 0) (m + 1) else 0) (i % W) (i / W)) := by
        unfold shg
        by_cases hc : i % W + s < W
        · have h2 := (in_grid (H := H) (by omega : 0 < W) hi).2
          have hin := cell_lt hc h2
          have e1 : w64 ((i : Int) + (s : Int)) = ((i / W * W + (i % W + s) : Nat) : Int) := by rw [w64_id (by omega) (by omega)]; omega
          rw [if_pos (decide_eq_true (by omega)), if_pos hc, e1, ix_get rfl (grid_get W g H (i % W + s) (i / W) hc h2), Option.bind_some]
        · rw [if_neg (by rw [decide_eq_true_eq]; omega), if_neg hc]
          dsimp only
          rw [hpd]
      rw [hval, Option.bind_some, chk_pos (by simp; omega), w64_id (by omega) (by omega), List.range_succ, List.map_append]
      rfl) (by
      show fiducialtop_TopCoarse_s1 _ _ _ _ _ _ _ = _
      unfold fiducialtop_TopCoarse_s1
      dsimp only
      rw [if_neg (by rw [grid_len]; simp)])
    rw [key]
    congr 1
    refine grid_ext (by simp) (fun x y hx hy => ?_)
    have hlt := cell_lt hx hy
    have e1 : (y * W + x) % W = x := by rw [Nat.mul_comm, Nat.mul_add_mod, Nat.mod_eq_of_lt hx]
    have e2 : (y * W + x) / W = y := by rw [Nat.mul_comm, Nat.mul_add_div (by omega), Nat.div_eq_of_lt hx, Nat.add_zero]
    rw [List.getElem?_map, List.getElem?_range hlt]
    show some (shg W s g _ ((y * W + x) % W) ((y * W + x) / W)) = _
    rw [e1, e2]

theorem red_shift {s X Y : Nat} {b : Nat → Int} (h1 : s + 1 ≤ X) (h2 : 2 * X + 1 < W) : red W H (shg W (2 * s) g b) (X - s) Y = red W H g X Y := by
  unfold red smo
  have e : ∀ j i, i < 3 → shg W (2 * s) g b (cx W (2 * (X - s)) i) (cx H (2 * Y) j) = g (cx W (2 * X) i) (cx H (2 * Y) j) := fun j i hi => by
    have e1 : cx W (2 * (X - s)) i = 2 * (X - s) + i - 1 := by unfold cx; omega
    have e2 : cx W (2 * X) i = 2 * X + i - 1 := by unfold cx; omega
    unfold shg
    rw [e1, e2, if_pos (by omega), show 2 * (X - s) + i - 1 + 2 * s = 2 * X + i - 1 by omega]
  rw [sum3_all, sum3_all]
  simp only [e _ 0 (by decide), e _ 1 (by decide), e _ 2 (by decide)]
end

theorem bix_at {D : Nat} (hD : 0 < D) (hD2 : D ≤ 64) {cc : Nat → Nat → Int} {i s : Nat} (hs : s < D) (h0 : cc s i = 0) (h1 : ∀ d, d < D → 0 ≤ cc d i) : ∃ j : Nat, bix (rowi D cc i) = j ∧ j ≤ s ∧ cc j i = 0 := by
  obtain ⟨M, _, _, a3, a4, j, b1, b2, b3, b4⟩ := bix_ok (rowi_ne hD cc i) (by rw [rowi_len]; omega)
  have hM : M = 0 := by
    have e1 := a4 0 (List.mem_of_getElem? (by rw [rowi_get D cc i hs, h0]))
    obtain ⟨k, hk⟩ := List.getElem?_of_mem a3
    have hkl := (List.getElem?_eq_some_iff.1 hk).1
    rw [rowi_len] at hkl
    rw [rowi_get D cc i hkl] at hk
    have := h1 k hkl
    have := Option.some.inj hk
    omega
  rw [rowi_len] at b2
  refine ⟨j, b1, ?_, ?_⟩
  · rcases Nat.lt_or_ge s j with h | h
    · exact absurd (by rw [rowi_get D cc i hs, h0, hM]) (b4 s h)
    · exact h
  · rw [rowi_get D cc i b2] at b3
    rw [← hM]
    exact Option.some.inj b3

theorem coarse_true (w h m : Int) (px : List Int) (p1 : Int) (border : List Int) (hp1 : 0 ≤ p1 ∧ p1 < 256) (hbd : ∀ v ∈ border, 0 ≤ v ∧ v < 256) : fiducialtop_TopCoarse w h m px p1 border = some true := by
  unfold fiducialtop_TopCoarse
  rw [awake, Option.bind_some, if_neg (by decide)]
  by_cases hn : (200 : Int) < px.length
  · rw [if_pos (decide_eq_true hn)]; rfl
  rw [if_neg (by simpa using hn)]
  by_cases hbl : (250 : Int) < border.length
  · rw [if_pos (decide_eq_true hbl)]; rfl
  rw [if_neg (by simpa using hbl)]
  by_cases hg : Good w h m px
  rotate_left
  · rw [refcheck_bad hg]; rfl
  rw [refcheck_good hg]
  obtain ⟨W, H, g, rfl, rfl, rfl, hb⟩ := hg.grid
  simp only [Option.bind_some]
  rw [if_neg (by decide)]
  obtain ⟨s, hs, hs3⟩ : ∃ s : Nat, Int.tmod (w64 p1) 4 = s ∧ s ≤ 3 := by
    obtain ⟨q, rfl⟩ : ∃ q : Nat, p1 = q := ⟨p1.toNat, by omega⟩
    have e1 : w64 (q : Int) = q := w64_id (by omega) (by omega)
    have e2 : Int.tmod (q : Int) 4 = ((q % 4 : Nat) : Int) := rfl
    exact ⟨q % 4, by rw [e1, e2], by omega⟩
  have hs2 : w64 (2 * (Int.tmod (w64 p1) 4)) = ((2 * s : Nat) : Int) := by rw [hs, w64_id (by omega) (by omega)]; omega
  obtain ⟨b, hbb, hloop⟩ := shifted_top hb hs2 (by omega) border hbd
  have hb' := shg_bd (s := 2 * s) hb hbb
  have r1 := reduce_eq hb
  have r2 := reduce_eq hb'
  have v1 := red_bd hb
  have v2 := red_bd hb'
  have pl := Plain_top v1 v2 (D := 5) (by decide) (by decide)
  have pl' : census_Plain ((hv W : Nat) : Int) ((hv H : Nat) : Int) m (grid (hv W) (hv H) (red W H g)) ((hv W : Nat) : Int) ((hv H : Nat) : Int) m (grid (hv W) (hv H) (red W H (shg W (2 * s) g b))) 5 = _ := pl
  have vc := pf_valid v1 v2 (D := 5) (by decide) (by decide)
  have bq := Best_eq vc
  obtain ⟨n1, n2⟩ := vc.n
  have hW2 : 0 < hv W := v1.1
  have hgl : (grid (hv W) (hv H) (red W H g)).length = hv H * hv W := grid_len _ _ _
  have hcl : ∀ cc, (grid 5 (hv H * hv W) cc).length = hv H * hv W * 5 := fun cc => grid_len _ _ _
  have hbll : ∀ cc, (bestL 5 (hv H * hv W) cc).length = hv H * hv W := fun cc => by simp [bestL]
  have h5 : w64 (5 * ((hv H * hv W : Nat) : Int)) = ((hv H * hv W * 5 : Nat) : Int) := by rw [w64_id (by omega) (by omega)]; omega
  have bq' : census_Best ((hv W : Nat) : Int) ((hv H : Nat) : Int) ((5 : Nat) : Int) (grid 5 (hv H * hv W) (cst (hv W) (pf (hv W) (red W H g) (red W H (shg W (2 * s) g b))) (m + 1))) = some (bestL 5 (hv H * hv W) (cst (hv W) (pf (hv W) (red W H g) (red W H (shg W (2 * s) g b))) (m + 1)), 0) := bq
  simp only [hloop, r1, r2, pl', bq', Option.bind_some, hgl, hcl, hbll, h5]
  rw [if_neg (by decide), if_neg (by simp)]
  simp only [Option.bind_some, bne_self_eq_false, Bool.false_eq_true, if_false]
  rw [loop_go (s0 := 0) (step := fun q => fiducialtop_TopCoarse_s2 W p1 ((hv W : Nat) : Int) (grid (hv W) (hv H) (red W H g)) (grid 5 (hv H * hv W) (cst (hv W) (pf (hv W) (red W H g) (red W H (shg W (2 * s) g b))) (m + 1))) (bestL 5 (hv H * hv W) (cst (hv W) (pf (hv W) (red W H g) (red W H (shg W (2 * s) g b))) (m + 1))) q) (fun i => (i : Int)) (hv H * hv W) (by unfold FUEL; omega) rfl (x := .inr ()) (fun i hi => by
    unfold fiducialtop_TopCoarse_s2
    have hm : Int.tmod (i : Int) ((hv W : Nat) : Int) = ((i % hv W : Nat) : Int) := rfl
    have hpd := pos_div (W := hv W) (i := i) hW2
    have hml := mod_le' (i := i) (W := hv W)
    obtain ⟨i1, i2⟩ := in_grid (H := hv H) hW2 hi
    have hWb := hb.2.1
    have hhv : 2 * hv W ≤ W + 1 := by unfold hv; omega
    have e1 : w64 (((i % hv W : Nat) : Int) - (s : Int)) = ((i % hv W : Nat) : Int) - (s : Int) := w64_id (by omega) (by omega)
    have e2 : w64 ((W : Int) - 1) = (W : Int) - 1 := w64_id (by omega) (by omega)
    have e3 : w64 (2 * ((i % hv W : Nat) : Int)) = 2 * ((i % hv W : Nat) : Int) := w64_id (by omega) (by omega)
    have e4 : w64 (2 * ((i % hv W : Nat) : Int) + 1) = 2 * ((i % hv W : Nat) : Int) + 1 := w64_id (by omega) (by omega)
    have e5 : w64 (5 * (i : Int)) = 5 * (i : Int) := w64_id (by omega) (by omega)
    have en : w64 ((i : Int) + 1) = ((i + 1 : Nat) : Int) := by rw [w64_id (by omega) (by omega)]; rfl
    rw [if_pos (decide_eq_true (by rw [hgl]; omega)), chk_pos (by omega), hm, hs, e1, e2, e3, e4, e5, en]
    by_cases hc1 : ((i % hv W : Nat) : Int) - (s : Int) < 1
    · rw [if_pos (decide_eq_true hc1)]; rfl
    rw [if_neg (by simpa using hc1)]
    by_cases hc2 : (W : Int) - 1 < 2 * ((i % hv W : Nat) : Int) + 1
    · rw [decide_eq_true hc2]; rfl
    rw [decide_eq_false hc2, Option.bind_some, if_neg (by decide)]
    have hz : cst (hv W) (pf (hv W) (red W H g) (red W H (shg W (2 * s) g b))) (m + 1) s i = 0 := by
      unfold cst
      rw [if_pos (by omega)]
      unfold pf
      have h4 : i - s = i / hv W * hv W + (i % hv W - s) := by omega
      have h6 : (i - s) % hv W = i % hv W - s := by rw [h4, Nat.mul_comm, Nat.mul_add_mod, Nat.mod_eq_of_lt (by omega)]
      have h7 : (i - s) / hv W = i / hv W := by rw [h4, Nat.mul_comm, Nat.mul_add_div hW2, Nat.div_eq_of_lt (by omega : i % hv W - s < hv W), Nat.add_zero]
      rw [h6, h7, red_shift (by omega) (by omega)]
      have := v1.2.2.2.2.2.2 _ _ i1 i2
      have := v1.2.2.2.2.2.1
      exact df_self (by omega)
    obtain ⟨j, j1, j2, j3⟩ := bix_at (D := 5) (by decide) (by decide) (by omega) hz (fun d hd => (vc_at vc hd hi).1)
    have f1 : w64 (5 * (i : Int) + (s : Int)) = ((i * 5 + s : Nat) : Int) := by rw [w64_id (by omega) (by omega)]; omega
    have f2 : w64 (5 * (i : Int) + (j : Int)) = ((i * 5 + j : Nat) : Int) := by rw [w64_id (by omega) (by omega)]; omega
    have hbg : ix (bestL 5 (hv H * hv W) (cst (hv W) (pf (hv W) (red W H g) (red W H (shg W (2 * s) g b))) (m + 1))) (i : Int) = some (j : Int) := by
      refine ix_get rfl ?_
      unfold bestL
      rw [List.getElem?_map, List.getElem?_range hi]
      exact congrArg some j1
    rw [f1, zero_ix (by omega : s < 5) hi rfl hz, Option.bind_some, if_neg (by decide), hbg, Option.bind_some, f2, zero_ix (by omega : j < 5) hi rfl j3, Option.bind_some, if_neg (by decide), Option.bind_some, decide_eq_false (by omega), Option.bind_some, if_neg (by decide)]) (by
    unfold fiducialtop_TopCoarse_s2
    rw [if_neg (by rw [hgl]; simp)])]
  rfl

end Go.Proofs.Ytbolefkhmfbnlaa
