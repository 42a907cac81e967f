/-
  PLAIN, chapter 50: Costs and Mosaic.
-/
import Derived.Test.YtomlpofoaokmdaaP50h
import Derived.Test.YtomlpofoaokmdaaQRefCheck
set_option linter.unusedSimpArgs false
set_option linter.unusedVariables false
namespace Go.Proofs.Ytomlpofoaokmdaa
open Go.E

/-! ### Tables made from the first row down -/

def dnT (W H : Nat) (F : Nat → Nat → Int) (i : Nat) : List (List Int) := (List.range H).map fun y => if y < i then row W (F y) else []
theorem dnT_len (W H : Nat) (F : Nat → Nat → Int) (i : Nat) : (dnT W H F i).length = H := by simp [dnT]
theorem dnT_get (W H : Nat) (F : Nat → Nat → Int) (i : Nat) {y : Nat} (hy : y < H) : (dnT W H F i)[y]? = some (if y < i then row W (F y) else []) := by simp [dnT, hy]

theorem tab_loop {W H : Nat} (hW : W ≤ 1000) (hH : H ≤ 1000) (F : Nat → Nat → Int) (step1 : List (List Int) × Int → Option (Step (List (List Int) × Int) (List (List Int)))) (step2 : Nat → List (List Int) × Int → Option (Step (List (List Int) × Int) (List (List Int))))
    (h1 : ∀ (y : Nat) l r, y < H → loopM FUEL (step2 y) (l, 0) = some r → step1 (l, (y : Int)) = some (.next (r, ((y + 1 : Nat) : Int))))
    (h1d : ∀ l, step1 (l, (H : Int)) = some (.done l))
    (h2 : ∀ (y x : Nat) l, y < H → x < W → l.length = H → l[y]? = some (row x (F y)) → step2 y (l, (x : Int)) = some (.next (l.set y (row (x + 1) (F y)), ((x + 1 : Nat) : Int))))
    (h2d : ∀ (y : Nat) l, y < H → step2 y (l, (W : Int)) = some (.done l)) :
    loopM FUEL step1 (List.replicate H [], 0) = some (tbl W H F) := by
  refine loop_go (fun i => (dnT W H F i, (i : Int))) H (by unfold FUEL; omega) ?_ (fun i hi => ?_) ?_
  · have e : List.replicate H [] = dnT W H F 0 := by
      apply List.ext_getElem?
      intro y
      by_cases hy : y < H
      · rw [dnT_get _ _ _ _ hy, if_neg (by omega), List.getElem?_replicate, if_pos hy]
      · rw [List.getElem?_eq_none (by simp; omega), List.getElem?_eq_none (by rw [dnT_len]; omega)]
    rw [e]
    rfl
  · have hl : loopM FUEL (step2 i) (dnT W H F i, 0) = some (dnT W H F (i + 1)) := by
      refine loop_go (fun x => ((dnT W H F i).set i (row x (F i)), (x : Int))) W (by unfold FUEL; omega) ?_ (fun x hx => ?_) ?_
      · have e : dnT W H F i = (dnT W H F i).set i (row 0 (F i)) := by
          apply List.ext_getElem?
          intro y
          rw [List.getElem?_set]
          split
          · subst y
            rw [dnT_get _ _ _ _ hi, if_neg (by omega), if_pos (by rw [dnT_len]; omega)]
            rfl
          · rfl
        rw [← e]
        rfl
      · show step2 i (_, (x : Int)) = _
        rw [h2 i x _ hi hx (by rw [List.length_set, dnT_len]) (by rw [List.getElem?_set_self (by rw [dnT_len]; omega)]), List.set_set]
      · show step2 i (_, (W : Int)) = _
        rw [h2d _ _ hi]
        congr 2
        apply List.ext_getElem?
        intro y
        rw [List.getElem?_set]
        split
        · subst y
          rw [if_pos (by rw [dnT_len]; omega), dnT_get _ _ _ _ hi, if_pos (by omega)]
        · by_cases hy : y < H
          · rw [dnT_get _ _ _ _ hy, dnT_get _ _ _ _ hy]
            by_cases hq : y < i
            · rw [if_pos hq, if_pos (by omega)]
            · rw [if_neg hq, if_neg (by omega)]
          · rw [List.getElem?_eq_none (by rw [dnT_len]; omega), List.getElem?_eq_none (by rw [dnT_len]; omega)]
    show step1 (dnT W H F i, (i : Int)) = _
    rw [h1 _ _ _ hi hl]
  · show step1 (dnT W H F H, (H : Int)) = _
    rw [h1d]
    congr 2
    apply List.ext_getElem?
    intro y
    by_cases hy : y < H
    · rw [dnT_get _ _ _ _ hy, if_pos hy, tbl_get _ _ _ hy]
    · rw [List.getElem?_eq_none (by rw [dnT_len]; omega), List.getElem?_eq_none (by rw [tbl_len]; omega)]

/-! ### The code of two rasters -/

theorem good_small {w h m : Int} {px : List Int} (hg : Good w h m px) : px.length ≤ 4096 := by
  obtain ⟨g1, g2, g3, g4, g5, g6, g7, g8⟩ := hg
  have := (mul_le64 (w := w) (h := h) (by omega) g2 (by omega) g4).2
  omega

theorem fit_cases (w h m : Int) (px : List Int) (w' h' m' : Int) (px' : List Int) :
    (Good w h m px ∧ Good w' h' m' px' ∧ w = w' ∧ h = h' ∧ m = m' ∧ seam_matched w h m px w' h' m' px' = some 0 ∧ fiduciallaw50_fits w h m px w' h' m' px' = some 0) ∨
    ∃ k, k ≠ 0 ∧ seam_matched w h m px w' h' m' px' = some k ∧ fiduciallaw50_fits w h m px w' h' m' px' = some k := by
  have i0 : ix ([(w, h, m, px), (w', h', m', px')] : List (Int × Int × Int × List Int)) (0 : Int) = some (w, h, m, px) := ix_get (i := 0) rfl rfl
  have i1 : ix ([(w, h, m, px), (w', h', m', px')] : List (Int × Int × Int × List Int)) (1 : Int) = some (w', h', m', px') := ix_get (i := 1) rfl rfl
  by_cases g1 : Good w h m px
  · by_cases g2 : Good w' h' m' px'
    · have hl : loopM FUEL (fun s : Int => seam_matched_s1 w h m px w' h' m' px' s) 0 = some (.inr ()) := by
        refine loop_go (fun i => (i : Int)) 2 (by unfold FUEL; omega) rfl (fun i hi => ?_) ?_
        · unfold seam_matched_s1
          obtain rfl | rfl : i = 0 ∨ i = 1 := by omega
          · show (if decide ((0 : Int) < 2) = true then (ix _ (0 : Int)).bind _ else _) = _
            rw [if_pos (by decide), i0, Option.bind_some]
            show ((raster_Check w h m px).bind _) = _
            rw [check_good g1, Option.bind_some, if_neg (by decide)]
            rfl
          · show (if decide ((1 : Int) < 2) = true then (ix _ (1 : Int)).bind _ else _) = _
            rw [if_pos (by decide), i1, Option.bind_some]
            show ((raster_Check w' h' m' px').bind _) = _
            rw [check_good g2, Option.bind_some, if_neg (by decide)]
            rfl
        · unfold seam_matched_s1
          rfl
      unfold seam_matched fiduciallaw50_fits
      rw [hl, refcheck_good g1, refcheck_good g2]
      simp only [Option.bind_some]
      by_cases e : w = w' ∧ h = h' ∧ m = m'
      · obtain ⟨rfl, rfl, rfl⟩ := e
        refine .inl ⟨g1, g2, rfl, rfl, rfl, ?_, ?_⟩ <;> simp
      · refine .inr ⟨4, by decide, ?_⟩
        have e2 : (if (w != w') = true then some true else if (h != h') = true then some true else some (m != m')) = some true := by
          by_cases q1 : w = w'
          · rw [if_neg (by simp [q1])]
            by_cases q2 : h = h'
            · rw [if_neg (by simp [q2])]
              have : m ≠ m' := fun q3 => e ⟨q1, q2, q3⟩
              simp [this]
            · rw [if_pos (by simp [q2])]
          · rw [if_pos (by simp [q1])]
        rw [e2]
        exact ⟨rfl, rfl⟩
    · refine .inr ⟨1, by decide, ?_, ?_⟩
      · have hl : loopM FUEL (fun s : Int => seam_matched_s1 w h m px w' h' m' px' s) 0 = some (.inl 1) := by
          refine loop_go (fun i => (i : Int)) 1 (by unfold FUEL; omega) rfl (fun i hi => ?_) ?_
          · unfold seam_matched_s1
            obtain rfl : i = 0 := by omega
            show (if decide ((0 : Int) < 2) = true then (ix _ (0 : Int)).bind _ else _) = _
            rw [if_pos (by decide), i0, Option.bind_some]
            show ((raster_Check w h m px).bind _) = _
            rw [check_good g1, Option.bind_some, if_neg (by decide)]
            rfl
          · unfold seam_matched_s1
            show (if decide ((1 : Int) < 2) = true then (ix _ (1 : Int)).bind _ else _) = _
            rw [if_pos (by decide), i1, Option.bind_some]
            show ((raster_Check w' h' m' px').bind _) = _
            rw [check_bad g2, Option.bind_some, if_pos (by decide)]
        unfold seam_matched
        rw [hl]
        rfl
      · unfold fiduciallaw50_fits
        rw [refcheck_good g1, refcheck_bad g2]
        rfl
  · refine .inr ⟨1, by decide, ?_, ?_⟩
    · have hl : loopM FUEL (fun s : Int => seam_matched_s1 w h m px w' h' m' px' s) 0 = some (.inl 1) := by
        refine loop_go (fun i => (i : Int)) 0 (by unfold FUEL; omega) rfl (fun i hi => by omega) ?_
        unfold seam_matched_s1
        show (if decide ((0 : Int) < 2) = true then (ix _ (0 : Int)).bind _ else _) = _
        rw [if_pos (by decide), i0, Option.bind_some]
        show ((raster_Check w h m px).bind _) = _
        rw [check_bad g1, Option.bind_some, if_pos (by decide)]
      unfold seam_matched
      rw [hl]
      rfl
    · unfold fiduciallaw50_fits
      rw [refcheck_bad g1]
      rfl

/-! ### Costs -/

def dif (ga gb : Nat → Int) (W : Nat) : Nat → Nat → Int := fun y x => if ga (y * W + x) < gb (y * W + x) then gb (y * W + x) - ga (y * W + x) else ga (y * W + x) - gb (y * W + x)
def B16 (g : Nat → Int) : Prop := ∀ i, 0 ≤ g i ∧ g i ≤ 65535

theorem cell_in {W H x y : Nat} (hx : x < W) (hy : y < H) : y * W + x < H * W := by
  have := Nat.mul_le_mul_right W (show y + 1 ≤ H by omega)
  rw [Nat.add_mul] at this
  omega
theorem cell_w64 {W y x : Nat} (hW : W ≤ 64) (hy : y < 64) (hx : x < W) : w64 (w64 ((y : Int) * (W : Int)) + (x : Int)) = ((y * W + x : Nat) : Int) := by
  have h1 : y * W ≤ 64 * 64 := Nat.mul_le_mul (by omega) hW
  rw [show (y : Int) * (W : Int) = ((y * W : Nat) : Int) by push_cast; rfl, w64_id (z := ((y * W : Nat) : Int)) (by omega) (by omega), w64_id (by omega) (by omega)]
  push_cast
  rfl

theorem costs_eq {W H : Nat} {ga gb : Nat → Int} (hW : W ≤ 64) (hH : H ≤ 64) (ba : B16 ga) (bb : B16 gb) {m w' h' m' : Int} (hm : seam_matched W H m (row (H * W) ga) w' h' m' (row (H * W) gb) = some 0) :
    seam_Costs W H m (row (H * W) ga) w' h' m' (row (H * W) gb) = some (tbl W H (dif ga gb W), 0) := by
  unfold seam_Costs
  rw [hm, Option.bind_some, if_neg (by decide), chk_pos (by omega), show ((H : Int)).toNat = H by omega]
  have : loopM FUEL (fun s : List (List Int) × Int => seam_Costs_s1 (W : Int) (H : Int) (row (H * W) ga) (row (H * W) gb) s.1 s.2) (List.replicate H [], 0) = some (tbl W H (dif ga gb W)) := by
    refine tab_loop (by omega) (by omega) _ _ (fun y s => seam_Costs_s2 (W : Int) (row (H * W) ga) (row (H * W) gb) (y : Int) s.1 s.2) (fun y l r hy hr => ?_) (fun l => ?_) (fun y x l hy hx hl h1 => ?_) (fun y l hy => ?_)
    · show seam_Costs_s1 (W : Int) (H : Int) (row (H * W) ga) (row (H * W) gb) l (y : Int) = _
      unfold seam_Costs_s1
      rw [show ((H : Int)).toNat = H by omega, List.length_replicate, if_pos (by simpa using hy), hr, Option.bind_some, w64_id (by omega) (by omega)]
      rfl
    · show seam_Costs_s1 (W : Int) (H : Int) (row (H * W) ga) (row (H * W) gb) l (H : Int) = _
      unfold seam_Costs_s1
      rw [show ((H : Int)).toNat = H by omega, List.length_replicate, if_neg (by simp)]
    · show seam_Costs_s2 (W : Int) (row (H * W) ga) (row (H * W) gb) (y : Int) l (x : Int) = _
      unfold seam_Costs_s2
      have q1 := ba (y * W + x)
      have q2 := bb (y * W + x)
      rw [if_pos (by simpa using hx), cell_w64 hW (by omega) hx, row_ix _ _ rfl (cell_in hx hy), Option.bind_some, row_ix _ _ rfl (cell_in hx hy), Option.bind_some, ix_get rfl h1, Option.bind_some, row_len, chk_pos (by omega), chk_pos (by omega), w64_id (z := ga (y * W + x) - gb (y * W + x)) (by omega) (by omega), w64_id (z := 0 - (ga (y * W + x) - gb (y * W + x))) (by omega) (by omega), w64_id (by omega) (by omega)]
      have e : (if ga (y * W + x) - gb (y * W + x) < 0 - (ga (y * W + x) - gb (y * W + x)) then 0 - (ga (y * W + x) - gb (y * W + x)) else ga (y * W + x) - gb (y * W + x)) = dif ga gb W y x := by
        unfold dif
        split <;> split <;> omega
      rw [e, row_succ]
      rfl
    · show seam_Costs_s2 (W : Int) (row (H * W) ga) (row (H * W) gb) (y : Int) l (W : Int) = _
      unfold seam_Costs_s2
      rw [if_neg (by simp)]
  rw [this]
  rfl

/-! ### Mosaic -/

def mosF (ga gb : Nat → Int) (l : List Int) (W : Nat) : Nat → Int := fun j => if ((j % W : Nat) : Int) < cg l (j / W) then ga j else gb j
def mosI (ga gb : Nat → Int) (l : List Int) (W i : Nat) : Nat → Int := fun j => if j / W < i then mosF ga gb l W j else gb j

theorem cpy_row {N lo n q : Nat} (f g : Nat → Int) (h1 : lo + n ≤ N) (hq : n ≤ q) : cpy (row N f) lo q (((row N g).take (lo + n)).drop lo) = row N (fun j => if lo ≤ j ∧ j < lo + n then g j else f j) := by
  have hl : (((row N g).take (lo + n)).drop lo).length = n := by rw [List.length_drop, List.length_take, row_len]; omega
  unfold cpy
  rw [hl, Nat.min_eq_left hq]
  apply List.ext_getElem?
  intro j
  have t1 : (row N f).take lo = row lo f := by
    apply List.ext_getElem?
    intro i
    rw [List.getElem?_take]
    by_cases hi : i < lo
    · rw [if_pos hi, row_get _ _ (by omega), row_get _ _ hi]
    · rw [if_neg hi, List.getElem?_eq_none (by rw [row_len]; omega)]
  by_cases hj : j < N
  · rw [row_get _ _ hj]
    by_cases a1 : j < lo
    · rw [List.append_assoc, List.getElem?_append_left (by rw [t1, row_len]; exact a1), t1, row_get _ _ a1, if_neg (by omega)]
    · rw [List.append_assoc, List.getElem?_append_right (by rw [t1, row_len]; omega), t1, row_len]
      by_cases a2 : j < lo + n
      · rw [List.getElem?_append_left (by rw [List.length_take, hl]; omega), List.getElem?_take, if_pos (by omega), List.getElem?_drop, List.getElem?_take, if_pos (by omega), show lo + (j - lo) = j by omega, row_get _ _ hj, if_pos (by omega)]
      · rw [List.getElem?_append_right (by rw [List.length_take, hl]; omega), List.length_take, hl, List.getElem?_drop, show lo + n + (j - lo - min n n) = j by omega, row_get _ _ hj, if_neg (by omega)]
  · rw [List.getElem?_eq_none (by simp only [List.length_append, List.length_take, List.length_drop, row_len]; omega), List.getElem?_eq_none (by rw [row_len]; omega)]

def okc (W : Nat) (z : Int) : Bool := decide (z < 0) || decide ((W : Int) < z)

theorem mosaic_loop {W H : Nat} (hW0 : 0 < W) (hW : W ≤ 64) (hH : H ≤ 64) (ga gb : Nat → Int) {l : List Int} (hl : l.length = H) (hc : ∀ y, y < H → 0 ≤ cg l y ∧ cg l y ≤ W) :
    loopM FUEL (fun s : List Int × Int => seam_Mosaic_s1 (W : Int) (row (H * W) ga) l s.1 s.2) (row (H * W) gb, 0) = some (row (H * W) (mosF ga gb l W)) := by
  have hN : H * W ≤ 64 * 64 := Nat.mul_le_mul hH hW
  refine loop_go (fun i => (row (H * W) (mosI ga gb l W i), (i : Int))) H (by unfold FUEL; omega) ?_ (fun i hi => ?_) ?_
  · show (row (H * W) gb, (0 : Int)) = (row (H * W) (mosI ga gb l W 0), ((0 : Nat) : Int))
    rw [show row (H * W) gb = row (H * W) (mosI ga gb l W 0) from row_congr fun z _ => by unfold mosI; rw [if_neg (Nat.not_lt_zero _)]]
    rfl
  · show seam_Mosaic_s1 (W : Int) (row (H * W) ga) l (row (H * W) (mosI ga gb l W i)) (i : Int) = _
    unfold seam_Mosaic_s1
    have hci := hc i hi
    have hiW : i * W + W ≤ H * W := by
      have := Nat.mul_le_mul_right W (show i + 1 ≤ H by omega)
      rw [Nat.add_mul] at this
      omega
    have e0 : w64 ((i : Int) * (W : Int)) = ((i * W : Nat) : Int) := by
      rw [show (i : Int) * (W : Int) = ((i * W : Nat) : Int) by push_cast; rfl, w64_id (by omega) (by omega)]
    obtain ⟨n, hn⟩ : ∃ n : Nat, cg l i = n := ⟨(cg l i).toNat, by omega⟩
    rw [if_pos (by simp; omega), cg_ix rfl (by omega), Option.bind_some, e0, hn, w64_id (z := ((i * W : Nat) : Int) + (n : Int)) (by omega) (by omega), row_len, row_len, chk_pos (by omega), chk_pos (by omega), w64_id (by omega) (by omega)]
    rw [show (((i * W : Nat) : Int)).toNat = i * W by omega, show (((i * W : Nat) : Int) + (n : Int)).toNat = i * W + n by omega]
    have e1 : ((List.take (H * W) (row (H * W) (mosI ga gb l W i))).drop (i * W)).length = H * W - i * W := by rw [List.length_drop, List.length_take, row_len]; omega
    rw [e1, cpy_row _ _ (by omega) (by omega)]
    have e2 : row (H * W) (fun j => if i * W ≤ j ∧ j < i * W + n then ga j else mosI ga gb l W i j) = row (H * W) (mosI ga gb l W (i + 1)) := row_congr fun j hj => by
      have hd := Nat.div_add_mod j W
      have hm := Nat.mod_lt j hW0
      rw [Nat.mul_comm] at hd
      unfold mosI
      rcases Nat.lt_trichotomy (j / W) i with h | h | h
      · have := Nat.mul_le_mul_right W (show j / W + 1 ≤ i by omega)
        rw [Nat.add_mul] at this
        rw [if_neg (by omega), if_pos h, if_pos (by omega)]
      · rw [h] at hd
        rw [if_neg (show ¬ j / W < i by omega), if_pos (show j / W < i + 1 by omega)]
        unfold mosF
        rw [h, hn]
        by_cases hq : j % W < n
        · rw [if_pos (by omega), if_pos (by omega)]
        · rw [if_neg (by omega), if_neg (by omega)]
      · have := Nat.mul_le_mul_right W (show i + 1 ≤ j / W by omega)
        rw [Nat.add_mul] at this
        rw [if_neg (by omega), if_neg (by omega), if_neg (by omega)]
    rw [e2]
    rfl
  · show seam_Mosaic_s1 (W : Int) (row (H * W) ga) l (row (H * W) (mosI ga gb l W H)) (H : Int) = _
    unfold seam_Mosaic_s1
    rw [if_neg (by simp; omega)]
    congr 2
    refine row_congr fun j hj => ?_
    unfold mosI
    rw [if_pos (Nat.div_lt_of_lt_mul (by rw [Nat.mul_comm]; exact hj))]

theorem mosaicked_loop {W H : Nat} (hW0 : 0 < W) (hW : W ≤ 64) (hH : H ≤ 64) (ga gb : Nat → Int) {l : List Int} (hl : l.length = H) :
    loopM FUEL (fun s : List Int × Int => fiduciallaw50_mosaicked_s1 (W : Int) (row (H * W) ga) l (row (H * W) gb) s.1 s.2) (row (H * W) gb, 0) = some (row (H * W) (mosF ga gb l W)) := by
  have hN : H * W ≤ 64 * 64 := Nat.mul_le_mul hH hW
  refine loop_go (fun i => (row (H * W) (mixf gb (mosF ga gb l W) i), (i : Int))) (H * W) (by unfold FUEL; omega) ?_ (fun j hj => ?_) ?_
  · show (row (H * W) gb, (0 : Int)) = (row (H * W) (mixf gb (mosF ga gb l W) 0), ((0 : Nat) : Int))
    rw [show row (H * W) gb = row (H * W) (mixf gb (mosF ga gb l W) 0) from row_congr fun z _ => by unfold mixf; rw [if_neg (by omega)]]
    rfl
  · show fiduciallaw50_mosaicked_s1 (W : Int) (row (H * W) ga) l (row (H * W) gb) (row (H * W) (mixf gb (mosF ga gb l W) j)) (j : Int) = _
    unfold fiduciallaw50_mosaicked_s1
    have hy : j / W < H := Nat.div_lt_of_lt_mul (by rw [Nat.mul_comm]; exact hj)
    have e1 : w64 (Int.tdiv (j : Int) (W : Int)) = ((j / W : Nat) : Int) := by
      rw [Int.tdiv_eq_ediv_of_nonneg (by omega)]
      rw [show (j : Int) / (W : Int) = ((j / W : Nat) : Int) by push_cast; rfl]
      generalize j / W = q at hy
      exact w64_id (by omega) (by omega)
    have e2 : Int.tmod (j : Int) (W : Int) = ((j % W : Nat) : Int) := by
      rw [Int.tmod_eq_emod_of_nonneg (by omega)]
      push_cast; rfl
    rw [row_len, if_pos (by simp only [decide_eq_true_eq]; omega), chk_pos (by omega), chk_pos (by omega), e1, cg_ix rfl (by omega), Option.bind_some, e2, w64_id (by omega) (by omega)]
    by_cases h : ((j % W : Nat) : Int) < cg l (j / W)
    · have e3 : mosF ga gb l W j = ga j := by unfold mosF; rw [if_pos h]
      rw [if_pos (decide_eq_true h), row_ix _ _ rfl hj, Option.bind_some, row_len, chk_pos (by omega), Option.bind_some, ← e3, show ((j : Int)).toNat = j by omega, mixf_set _ _ hj]
      rfl
    · rw [if_neg (by simpa using h), Option.bind_some, mixf_same _ _ (x := j) (by unfold mosF; rw [if_neg h])]
      rfl
  · show fiduciallaw50_mosaicked_s1 (W : Int) (row (H * W) ga) l (row (H * W) gb) (row (H * W) (mixf gb (mosF ga gb l W) (H * W))) ((H * W : Nat) : Int) = _
    unfold fiduciallaw50_mosaicked_s1
    rw [row_len, if_neg (by simp)]
    congr 2
    exact row_congr fun z hz => by unfold mixf; rw [if_pos hz]

theorem refeq_same (w h m : Int) (l : List Int) (hl : l.length ≤ 1000000) : fiducialref13_Equal w h m l w h m l = some true := by
  unfold fiducialref13_Equal
  have e : (if (w != w) = true then some true else if (h != h) = true then some true else if (m != m) = true then some true else some ((l.length : Int) != (l.length : Int))) = some false := by simp
  rw [e, Option.bind_some, if_neg (by decide)]
  rcases eq_loop (step := fun s => fiducialref13_Equal_s1 l l s) (fun a b => a == b) (fun a b => by simp) hl rfl (fun s => rfl) with ⟨_, e⟩ | ⟨hn, _⟩
  · rw [e]; rfl
  · exact absurd rfl hn

theorem small_cases {w h m : Int} {px : List Int} : ∃ b, fiduciallaw50_small w h m px = some b := by
  unfold fiduciallaw50_small
  by_cases hl : (px.length : Int) ≤ 60
  · rw [if_pos (decide_eq_true hl)]
    by_cases hg : Good w h m px
    · rw [refcheck_good hg, Option.bind_some, if_neg (by decide)]
      by_cases hw : w ≤ 7
      · rw [if_pos (decide_eq_true hw)]; exact ⟨_, rfl⟩
      · rw [if_neg (by simpa using hw)]; exact ⟨_, rfl⟩
    · rw [refcheck_bad hg]; exact ⟨true, rfl⟩
  · rw [if_neg (by simpa using hl)]; exact ⟨_, rfl⟩

theorem mc_eq (z W h m : Int) (px : List Int) : seam_Mosaic_c1 z W h m px = some (decide (z < 0) || decide (W < z)) := by
  unfold seam_Mosaic_c1
  by_cases h : z < 0
  · rw [if_pos (decide_eq_true h), decide_eq_true h]; rfl
  · rw [if_neg (by simpa using h), decide_eq_false h]; rfl

theorem good_row {w h m : Int} {px : List Int} (hg : Good w h m px) : ∃ (W H : Nat) (g : Nat → Int), w = W ∧ h = H ∧ 0 < W ∧ W ≤ 64 ∧ 0 < H ∧ H ≤ 64 ∧ px = row (H * W) g ∧ B16 g := by
  obtain ⟨g1, g2, g3, g4, g5, g6, g7, g8⟩ := hg
  obtain ⟨W, rfl⟩ : ∃ W : Nat, w = W := ⟨w.toNat, by omega⟩
  obtain ⟨H, rfl⟩ : ∃ H : Nat, h = H := ⟨h.toNat, by omega⟩
  refine ⟨W, H, fun i => px.getD i 0, rfl, rfl, by omega, by omega, by omega, by omega, ?_, fun i => ?_⟩
  · have e : px.length = H * W := by
      have : (px.length : Int) = ((W * H : Nat) : Int) := by rw [g7]; push_cast; rfl
      rw [Nat.mul_comm]
      exact Int.ofNat.inj this
    rw [← e]
    exact row_of px
  · by_cases hi : i < px.length
    · show 0 ≤ px.getD i 0 ∧ px.getD i 0 ≤ 65535
      rw [getD_eq hi]
      have := g8 _ (List.getElem_mem hi)
      omega
    · show 0 ≤ px.getD i 0 ∧ px.getD i 0 ≤ 65535
      rw [List.getD_eq_getElem?_getD, List.getElem?_eq_none (by omega)]
      decide

theorem mos_tail {W H : Nat} {ga gb : Nat → Int} (hW : W ≤ 64) (hH : H ≤ 64) (ba : B16 ga) (bb : B16 gb) :
    loopM FUEL (fun s : Int => fiduciallaw50_SeamMosaics_s1 (W : Int) (row (H * W) ga) (row (H * W) gb) (tbl W H (dif ga gb W)) s) 0 = some (.inr ()) := by
  refine loop_go (fun i => (i : Int)) H (by unfold FUEL; omega) rfl (fun y hy => ?_) ?_
  · unfold fiduciallaw50_SeamMosaics_s1
    have : loopM FUEL (fun s : Int => fiduciallaw50_SeamMosaics_s2 (W : Int) (row (H * W) ga) (row (H * W) gb) (y : Int) (row W (dif ga gb W y)) s) 0 = some (.inr ()) := by
      refine loop_go (fun i => (i : Int)) W (by unfold FUEL; omega) rfl (fun x hx => ?_) ?_
      · unfold fiduciallaw50_SeamMosaics_s2
        have q1 := ba (y * W + x)
        have q2 := bb (y * W + x)
        rw [row_len, if_pos (by simpa using hx), row_ix _ _ rfl hx, Option.bind_some, cell_w64 hW (by omega) hx, row_ix _ _ rfl (cell_in hx hy), Option.bind_some, row_ix _ _ rfl (cell_in hx hy), Option.bind_some, w64_id (z := ga (y * W + x) - gb (y * W + x)) (by omega) (by omega), w64_id (z := gb (y * W + x) - ga (y * W + x)) (by omega) (by omega), w64_id (by omega) (by omega)]
        have e : (if ga (y * W + x) - gb (y * W + x) < gb (y * W + x) - ga (y * W + x) then gb (y * W + x) - ga (y * W + x) else ga (y * W + x) - gb (y * W + x)) = dif ga gb W y x := by
          unfold dif
          split <;> split <;> omega
        rw [e, if_neg (by simp)]
        rfl
      · unfold fiduciallaw50_SeamMosaics_s2
        rw [row_len, if_neg (by simp)]
    rw [tbl_len, if_pos (by simpa using hy), tbl_ix _ _ _ rfl hy, Option.bind_some, row_len, if_neg (by simp), this, Option.bind_some, w64_id (by omega) (by omega)]
    rfl
  · unfold fiduciallaw50_SeamMosaics_s1
    rw [tbl_len, if_neg (by simp)]

theorem mosaics_true (w h m : Int) (px : List Int) (w' h' m' : Int) (px' l : List Int) : fiduciallaw50_SeamMosaics w h m px w' h' m' px' l = some true := by
  unfold fiduciallaw50_SeamMosaics
  rw [known_true, Option.bind_some, if_neg (by decide)]
  obtain ⟨b1, hb1⟩ := small_cases (w := w) (h := h) (m := m) (px := px)
  obtain ⟨b2, hb2⟩ := small_cases (w := w') (h := h') (m := m') (px := px')
  rw [hb1, Option.bind_some]
  cases b1 with
  | false => rfl
  | true =>
    rw [if_neg (by decide), hb2, Option.bind_some]
    cases b2 with
    | false => rfl
    | true =>
      rw [if_neg (by decide), Option.bind_some]
      by_cases hl : 20 < l.length
      · rw [if_pos (by simp; omega)]
      rw [if_neg (by simp; omega)]
      rcases fit_cases w h m px w' h' m' px' with ⟨g1, g2, rfl, rfl, rfl, hm, hf⟩ | ⟨k, hk, hm, hf⟩
      · obtain ⟨W, H, ga, rfl, rfl, W0, W1, H0, H1, rfl, ba⟩ := good_row g1
        obtain ⟨W', H', gb, eW, eH, _, _, _, _, rfl, bb⟩ := good_row g2
        obtain rfl : W' = W := by omega
        obtain rfl : H' = H := by omega
        have hN : H' * W' ≤ 64 * 64 := Nat.mul_le_mul H1 W1
        rw [costs_eq W1 H1 ba bb hm]
        simp only [Option.bind_some]
        have hcl : slices_ContainsFunc_sint l (fun z => seam_Mosaic_c1 z W' H' m (row (H' * W') ga)) = some (l.any fun z => decide (z < 0) || decide ((W' : Int) < z)) := any_int (fun z => mc_eq z _ _ _ _) (by omega)
        have hcl2 : slices_ContainsFunc_sint l (fun z => fiduciallaw50_mosaicked_c1 z W' H' m (row (H' * W') ga)) = some (l.any fun z => decide (z < 0) || decide ((W' : Int) < z)) := hcl
        have key : ∃ (e : Int) (px2 : List Int), px2.length ≤ 1000000 ∧ seam_Mosaic W' H' m (row (H' * W') ga) W' H' m (row (H' * W') gb) l = some (if e = 0 then (W' : Int) else 0, if e = 0 then (H' : Int) else 0, if e = 0 then m else 0, px2, e) ∧ fiduciallaw50_mosaicked W' H' m (row (H' * W') ga) W' H' m (row (H' * W') gb) l = some (if e = 0 then (W' : Int) else 0, if e = 0 then (H' : Int) else 0, if e = 0 then m else 0, px2, e) := by
          unfold seam_Mosaic fiduciallaw50_mosaicked
          rw [hm, hf, hcl, hcl2]
          simp only [Option.bind_some]
          by_cases q : l.length = H' ∧ (l.any fun z => decide (z < 0) || decide ((W' : Int) < z)) = false
          · refine ⟨0, row (H' * W') (mosF ga gb l W'), by rw [row_len]; omega, ?_⟩
            have e2 : (if ((l.length : Int) != (H' : Int)) = true then some true else some (l.any fun z => decide (z < 0) || decide ((W' : Int) < z))) = some false := by
              rw [if_neg (by simp [q.1]), q.2]
            rw [e2, clone_eq _ (by rw [row_len]; omega)]
            simp only [Option.bind_some]
            have hc : ∀ y, y < H' → 0 ≤ cg l y ∧ cg l y ≤ W' := fun y hy => by
              have hq := List.any_eq_false.1 q.2 (cg l y) (by unfold cg; rw [getD_eq (by omega)]; exact List.getElem_mem _)
              simp only [Bool.or_eq_true, decide_eq_true_eq] at hq
              omega
            rw [mosaic_loop W0 W1 H1 ga gb q.1 hc]
            unfold fiducialref13_Copy
            rw [chk_pos (by rw [row_len]; simp; omega)]
            simp only [Option.bind_some, List.nil_append]
            rw [mosaicked_loop W0 W1 H1 ga gb q.1]
            exact ⟨rfl, rfl⟩
          · refine ⟨11, [], by simp, ?_⟩
            have e2 : (if ((l.length : Int) != (H' : Int)) = true then some true else some (l.any fun z => decide (z < 0) || decide ((W' : Int) < z))) = some true := by
              by_cases q1 : l.length = H'
              · rw [if_neg (by simp [q1])]
                congr 1
                cases hq : (l.any fun z => decide (z < 0) || decide ((W' : Int) < z)) with
                | true => rfl
                | false => exact absurd ⟨q1, hq⟩ q
              · rw [if_pos (by simp only [bne_iff_ne, ne_eq]; omega)]
            rw [e2]
            exact ⟨rfl, rfl⟩
        obtain ⟨e, px2, hp, k1, k2⟩ := key
        rw [k1, k2]
        simp only [Option.bind_some]
        rw [if_neg (by simp), refeq_same _ _ _ _ hp]
        simp only [Option.bind_some]
        rw [if_neg (by decide), hf]
        simp only [Option.bind_some]
        rw [if_neg (by decide), tbl_len]
        have e3 : (if ((0 : Int) != 0) = true then some true else some ((H' : Int) != (H' : Int))) = some false := by simp
        rw [e3]
        simp only [Option.bind_some]
        rw [if_neg (by decide), mos_tail W1 H1 ba bb]
        rfl
      · have c1 : seam_Costs w h m px w' h' m' px' = some ([], k) := by
          unfold seam_Costs
          rw [hm, Option.bind_some, if_pos (by simpa using hk)]
        have c2 : seam_Mosaic w h m px w' h' m' px' l = some (0, 0, 0, [], k) := by
          unfold seam_Mosaic
          rw [hm, Option.bind_some, if_pos (by simpa using hk)]
        have c3 : fiduciallaw50_mosaicked w h m px w' h' m' px' l = some (0, 0, 0, [], k) := by
          unfold fiduciallaw50_mosaicked
          rw [hf, Option.bind_some, if_pos (by simpa using hk)]
        rw [c1, c2, c3, hf]
        simp only [Option.bind_some]
        rw [if_neg (by simp), refeq_same _ _ _ _ (by simp)]
        simp only [Option.bind_some]
        rw [if_neg (by decide), if_pos (by simpa using hk), if_pos (by simp)]
        rfl
end Go.Proofs.Ytomlpofoaokmdaa
