/-
  PLAIN, chapter 13: rescaled rasters, tables of sums.
-/
import Derived.Test.YtoflllddpoonbaaP13g
import Derived.Test.YtoflllddpoonbaaP13e
set_option linter.unusedSimpArgs false
namespace Go.Proofs.Ytoflllddpoonbaa
open Go.E

def Rsc (m p : Int) (v : Int) : Int := w64 (Int.tdiv (w64 ((w64 ((w64 (2 * v)) * p)) + m)) (w64 (2 * m)))

theorem rescale_good {W H : Nat} {m : Int} {g : Nat → Nat → Int} (bd : Bd W H m g) {p : Int} (hp : 1 ≤ p ∧ p ≤ 65535) :
    raster_Rescale W H m (grid W H g) p = some ((W : Int), (H : Int), p, grid W H (fun x y => Rsc m p (g x y)), 0) := by
  have ck := check_good bd.good
  obtain ⟨b1, b2, b3, b4, b5, b6, b7⟩ := bd
  have e1 : w64 (2 * m) = 2 * m := w64_id (by omega) (by omega)
  have mk := made_grid (W := W) (H := H) b2 b4 p (f := fun z12 z13 => raster_Rescale_c1 z12 z13 W H m (grid W H g) p) (g := fun x y => Rsc m p (g x y)) (fun x y hx hy => by
    unfold raster_Rescale_c1
    rw [at_grid b2 b4 g H m _ _ x y hx hy rfl rfl, Option.bind_some, chk_pos (by rw [e1]; omega)]
    rfl)
  have q1 : ¬ p < 1 := by omega
  have q2 : ¬ 65535 < p := by omega
  unfold raster_Rescale
  rw [ck]
  simp only [Option.bind_some, bne_self_eq_false, Bool.false_eq_true, if_false, q1, q2, decide_false, mk]

theorem refrescale_good {W H : Nat} {m : Int} {g : Nat → Nat → Int} (bd : Bd W H m g) (p : Int) :
    fiducialref13_Rescale W H m (grid W H g) p = some ((W : Int), (H : Int), p, grid W H (fun x y => Rsc m p (g x y))) := by
  obtain ⟨b1, b2, b3, b4, b5, b6, b7⟩ := bd
  have hle := grid_le b2 b4 g
  have e1 : w64 (2 * m) = 2 * m := w64_id (by omega) (by omega)
  unfold fiducialref13_Rescale
  rw [refcopy_grid b2 b4]
  have := setall hle (fun s => fiducialref13_Rescale_s1 m (grid W H g) p s.1 s.2) (fun i => Rsc m p ((grid W H g).getD i 0)) (grid W H g) rfl
    (fun i l hi hlen => by
      show (if decide ((i : Int) < ((grid W H g).length : Int)) = true then _ else _) = _
      rw [if_pos (by simpa using hi), ix_lt _ i hi, Option.bind_some, chk_pos (by rw [e1]; omega)]
      show chk (0 ≤ (i : Int) ∧ (i : Int) < (l.length : Int)) (some (Step.next (l.set (i : Int).toNat (Rsc m p (grid W H g)[i]), w64 ((i : Int) + 1)))) = _
      rw [chk_pos (by omega), w64_id (by omega) (by omega), Int.toNat_natCast, getD_of hi]
      simp)
    (fun l => by
      show (if decide (((grid W H g).length : Int) < ((grid W H g).length : Int)) = true then _ else _) = _
      rw [if_neg (by simp)])
  show (loopM FUEL _ _).bind _ = _
  rw [this, map_grid g (Rsc m p)]
  rfl

/-- The sum over the pixels left of x and above y. -/
def Sm (g : Nat → Nat → Int) (x y : Nat) : Int := tot (fun j => tot (fun i => g i j) x) y

theorem tot_bound {f : Nat → Int} {c : Int} : ∀ n : Nat, (∀ i, i < n → 0 ≤ f i ∧ f i ≤ c) → 0 ≤ tot f n ∧ tot f n ≤ n * c
  | 0, _ => by simp [tot]
  | n + 1, h => by
    have ih := tot_bound n (fun i hi => h i (by omega))
    have h1 := h n (by omega)
    have e : ((n + 1 : Nat) : Int) * c = n * c + c := by rw [Int.natCast_add]; rw [Int.add_mul]; simp
    simp only [tot]
    rw [e]
    omega

theorem Sm_bound {W H : Nat} {m : Int} {g : Nat → Nat → Int} (bd : Bd W H m g) {x y : Nat} (hx : x ≤ W) (hy : y ≤ H) : 0 ≤ Sm g x y ∧ Sm g x y ≤ 300000000 := by
  obtain ⟨b1, b2, b3, b4, b5, b6, b7⟩ := bd
  have h1 : ∀ j, j < y → 0 ≤ tot (fun i => g i j) x ∧ tot (fun i => g i j) x ≤ 64 * 65535 := fun j hj => by
    have := tot_bound (f := fun i => g i j) (c := 65535) x (fun i hi => by
      have := b7 i j (by omega) (by omega)
      omega)
    have h2 : (x : Int) * 65535 ≤ 64 * 65535 := Int.mul_le_mul_of_nonneg_right (by omega) (by omega)
    omega
  have := tot_bound (f := fun j => tot (fun i => g i j) x) (c := 64 * 65535) y h1
  have h2 : (y : Int) * (64 * 65535) ≤ 64 * (64 * 65535) := Int.mul_le_mul_of_nonneg_right (by omega) (by omega)
  unfold Sm
  omega

theorem Sm_step (g : Nat → Nat → Int) (x y : Nat) : Sm g (x + 1) (y + 1) = Sm g (x + 1) y + Sm g x (y + 1) - Sm g x y + g x y := by
  unfold Sm
  simp only [tot]
  omega

theorem Sm_zero_x (g : Nat → Nat → Int) (y : Nat) : Sm g 0 y = 0 := by
  unfold Sm
  simp only [tot]
  exact tot_zero y
theorem Sm_zero_y (g : Nat → Nat → Int) (x : Nat) : Sm g x 0 = 0 := rfl

def rowS (g : Nat → Nat → Int) (W y : Nat) : List Int := (List.range (W + 1)).map (fun x => Sm g x y)
def tabS (g : Nat → Nat → Int) (W H : Nat) : List (List Int) := (List.range (H + 1)).map (fun y => rowS g W y)

theorem rowS_get (g : Nat → Nat → Int) (W y : Nat) {x : Nat} (hx : x ≤ W) : (rowS g W y)[x]? = some (Sm g x y) := by
  unfold rowS
  rw [List.getElem?_map, List.getElem?_range (by omega)]; rfl
theorem tabS_get (g : Nat → Nat → Int) (W H : Nat) {y : Nat} (hy : y ≤ H) : (tabS g W H)[y]? = some (rowS g W y) := by
  unfold tabS
  rw [List.getElem?_map, List.getElem?_range (by omega)]; rfl

theorem integral_good {W H : Nat} {m : Int} {g : Nat → Nat → Int} (bd : Bd W H m g) : raster_Integral W H m (grid W H g) = some (tabS g W H, 0) := by
  have ck := check_good bd.good
  have sb := fun {x y : Nat} (hx : x ≤ W) (hy : y ≤ H) => Sm_bound bd hx hy
  obtain ⟨b1, b2, b3, b4, b5, b6, b7⟩ := bd
  have eW : w64 ((W : Int) + 1) = ((W + 1 : Nat) : Int) := by rw [w64_id (by omega) (by omega)]; simp
  have eH : w64 ((H : Int) + 1) = ((H + 1 : Nat) : Int) := by rw [w64_id (by omega) (by omega)]; simp
  -- rows below y stand, row y has its first i sums, the rest is as it was made
  let Q : Nat → Nat → List (List Int) := fun y i => (List.range (H + 1)).map fun y' => if y' < y then rowS g W y' else if y' = y then (List.range (W + 1)).map (fun x => if x < i then Sm g x y else 0) else []
  have Qget : ∀ y i y', y' ≤ H → (Q y i)[y']? = some (if y' < y then rowS g W y' else if y' = y then (List.range (W + 1)).map (fun x => if x < i then Sm g x y else 0) else []) := fun y i y' hy' => by
    show ((List.range (H + 1)).map _)[y']? = _
    rw [List.getElem?_map, List.getElem?_range (by omega)]; rfl
  have Qlen : ∀ y i, (Q y i).length = H + 1 := fun y i => by show ((List.range (H + 1)).map _).length = _; simp
  have inner : ∀ y : Nat, y ≤ H → ∃ l, loopM FUEL (fun s : List (List Int) × Int => raster_Integral_s2 W H m (grid W H g) (y : Int) s.1 s.2) (Q y 1, 1) = some l ∧ l = Q y (W + 1) := by
    intro y hy
    refine loop_inv (fun i s => s = (Q y (i + 1), ((i + 1 : Nat) : Int)) ∧ i ≤ W ∧ (y = 0 → i = 0)) _ W (by unfold FUEL; omega) _ ⟨rfl, by omega, fun _ => rfl⟩ ?_
    rintro i s ⟨rfl, hi, h0⟩
    by_cases hy0 : y = 0
    · subst hy0
      refine .inr ⟨Q 0 (i + 1), ?_, ?_⟩
      · show ((if decide (((i + 1 : Nat) : Int) ≤ (W : Int)) = true then some (decide (0 < ((0 : Nat) : Int))) else some false)).bind _ = _
        have : (if decide (((i + 1 : Nat) : Int) ≤ (W : Int)) = true then some (decide (0 < ((0 : Nat) : Int))) else some false) = some false := by
          by_cases h9 : ((i + 1 : Nat) : Int) ≤ (W : Int) <;> simp [h9]
        rw [this]; rfl
      · show List.map _ _ = List.map _ _
        refine List.map_congr_left fun y' hy' => ?_
        by_cases e1 : y' = 0
        · subst e1
          simp only [Nat.lt_irrefl, if_false, if_true]
          refine List.map_congr_left fun x hx => ?_
          rw [Sm_zero_y]; simp
        · have : ¬ y' < 0 := by omega
          simp [this, e1]
    · by_cases hlt : i < W
      · have hyy : y - 1 + 1 = y := by omega
        refine .inl ⟨(Q y (i + 2), ((i + 2 : Nat) : Int)), ?_, ⟨rfl, by omega, fun h => absurd h hy0⟩, hlt⟩
        show ((if decide (((i + 1 : Nat) : Int) ≤ (W : Int)) = true then some (decide (0 < (y : Int))) else some false)).bind _ = _
        rw [if_pos (by rw [decide_eq_true_iff]; omega), Option.bind_some]
        have hd0 : decide (0 < (y : Int)) = true := by rw [decide_eq_true_iff]; omega
        rw [if_pos hd0]
        have f1 : ix (Q y (i + 1)) (y : Int) = some ((List.range (W + 1)).map (fun x => if x < i + 1 then Sm g x y else 0)) := ix_get rfl (by rw [Qget y (i + 1) y hy]; simp)
        have e1 : w64 ((y : Int) - 1) = ((y - 1 : Nat) : Int) := by rw [w64_id (by omega) (by omega)]; omega
        have f2 : ix (Q y (i + 1)) (w64 ((y : Int) - 1)) = some (rowS g W (y - 1)) := ix_get e1 (by rw [Qget y (i + 1) (y - 1) (by omega), if_pos (by omega)])
        have f3 : ix (rowS g W (y - 1)) ((i + 1 : Nat) : Int) = some (Sm g (i + 1) (y - 1)) := ix_get rfl (rowS_get g W (y - 1) (by omega))
        have e2 : w64 (((i + 1 : Nat) : Int) - 1) = (i : Int) := by rw [w64_id (by omega) (by omega)]; omega
        have f4 : ix ((List.range (W + 1)).map (fun x => if x < i + 1 then Sm g x y else 0)) (w64 (((i + 1 : Nat) : Int) - 1)) = some (Sm g i y) := ix_get e2 (by
          rw [List.getElem?_map, List.getElem?_range (by omega)]; simp)
        have f5 : ix (rowS g W (y - 1)) (w64 (((i + 1 : Nat) : Int) - 1)) = some (Sm g i (y - 1)) := ix_get e2 (rowS_get g W (y - 1) (by omega))
        have f6 : raster_at W H m (grid W H g) (w64 (((i + 1 : Nat) : Int) - 1)) (w64 ((y : Int) - 1)) = some (g i (y - 1)) := at_grid b2 b4 g H m _ _ i (y - 1) hlt (by omega) e2 e1
        show (ix (Q y (i + 1)) (y : Int)).bind _ = _
        rw [f1, Option.bind_some]
        show (ix (Q y (i + 1)) (w64 ((y : Int) - 1))).bind _ = _
        rw [f2, Option.bind_some]
        show (ix (rowS g W (y - 1)) ((i + 1 : Nat) : Int)).bind _ = _
        rw [f3, Option.bind_some]
        rw [Option.bind_some]
        show (ix ((List.range (W + 1)).map (fun x => if x < i + 1 then Sm g x y else 0)) (w64 (((i + 1 : Nat) : Int) - 1))).bind _ = _
        rw [f4, Option.bind_some]
        rw [Option.bind_some]
        show (ix (rowS g W (y - 1)) (w64 (((i + 1 : Nat) : Int) - 1))).bind _ = _
        rw [f5, Option.bind_some]
        show (raster_at W H m (grid W H g) (w64 (((i + 1 : Nat) : Int) - 1)) (w64 ((y : Int) - 1))).bind _ = _
        rw [f6, Option.bind_some]
        have s1 := sb (x := i + 1) (y := y - 1) (by omega) (by omega)
        have s2 := sb (x := i) (y := y) (by omega) hy
        have s3 := sb (x := i) (y := y - 1) (by omega) (by omega)
        have s4 := b7 i (y - 1) hlt (by omega)
        have st := Sm_step g i (y - 1)
        rw [hyy] at st
        have g1 : w64 (Sm g (i + 1) (y - 1) + Sm g i y) = Sm g (i + 1) (y - 1) + Sm g i y := w64_id (by omega) (by omega)
        have g2 : w64 (Sm g (i + 1) (y - 1) + Sm g i y - Sm g i (y - 1)) = Sm g (i + 1) (y - 1) + Sm g i y - Sm g i (y - 1) := w64_id (by omega) (by omega)
        have g3 : w64 (Sm g (i + 1) (y - 1) + Sm g i y - Sm g i (y - 1) + g i (y - 1)) = Sm g (i + 1) y := by rw [w64_id (by omega) (by omega), st]
        show chk (0 ≤ ((i + 1 : Nat) : Int) ∧ ((i + 1 : Nat) : Int) < (((List.range (W + 1)).map (fun x => if x < i + 1 then Sm g x y else 0)).length : Int)) (some (Step.next ((Q y (i + 1)).set (y : Int).toNat (((List.range (W + 1)).map (fun x => if x < i + 1 then Sm g x y else 0)).set ((i + 1 : Nat) : Int).toNat (w64 (w64 (w64 (Sm g (i + 1) (y - 1) + Sm g i y) - Sm g i (y - 1)) + g i (y - 1)))), w64 (((i + 1 : Nat) : Int) + 1)))) = _
        rw [g1, g2, g3, chk_pos (by simp; omega), w64_id (z := ((i + 1 : Nat) : Int) + 1) (by omega) (by omega), Int.toNat_natCast, Int.toNat_natCast]
        congr 2
        refine Prod.ext ?_ (by simp; omega)
        show (Q y (i + 1)).set y _ = Q y (i + 2)
        apply List.ext_getElem?
        intro q
        by_cases hq : q ≤ H
        · rw [Qget y (i + 2) q hq]
          by_cases he : q = y
          · subst he
            rw [List.getElem?_set_self (by rw [Qlen]; omega)]
            simp only [Nat.lt_irrefl, if_false, if_true]
            congr 1
            apply List.ext_getElem?
            intro x
            by_cases hx : x < W + 1
            · rw [List.getElem?_map, List.getElem?_range hx, Option.map_some]
              by_cases he2 : x = i + 1
              · subst he2
                rw [List.getElem?_set_self (by simp; omega), if_pos (by omega)]
              · rw [List.getElem?_set_ne (by omega), List.getElem?_map, List.getElem?_range hx, Option.map_some]
                by_cases h8 : x < i + 1
                · rw [if_pos h8, if_pos (by omega)]
                · rw [if_neg h8, if_neg (by omega)]
            · rw [List.getElem?_eq_none (by simp; omega), List.getElem?_eq_none (by simp; omega)]
          · rw [List.getElem?_set_ne (by omega), Qget y (i + 1) q hq]
            simp [he]
        · rw [List.getElem?_eq_none (by rw [List.length_set, Qlen]; omega), List.getElem?_eq_none (by rw [Qlen]; omega)]
      · obtain rfl : i = W := by omega
        refine .inr ⟨Q y (i + 1), ?_, rfl⟩
        show ((if decide (((i + 1 : Nat) : Int) ≤ (i : Int)) = true then some (decide (0 < (y : Int))) else some false)).bind _ = _
        rw [if_neg (by rw [decide_eq_true_iff]; omega)]
        rfl
  have outer : ∃ l, loopM FUEL (fun s : List (List Int) × Int => raster_Integral_s1 W H m (grid W H g) s.1 s.2) (List.replicate (H + 1) ([] : List Int), 0) = some l ∧ l = tabS g W H := by
    refine loop_inv (fun y s => s = ((List.range (H + 1)).map (fun y' => if y' < y then rowS g W y' else []), (y : Int)) ∧ y ≤ H + 1) _ (H + 1) (by unfold FUEL; omega) _ ⟨?_, by omega⟩ ?_
    · congr 1
      apply List.ext_getElem
      · simp
      · intro q _ _; simp
    · rintro y s ⟨rfl, hy⟩
      unfold raster_Integral_s1
      rw [eH, eW, Int.toNat_natCast]
      by_cases hlt : y < H + 1
      · obtain ⟨l, k1, k2⟩ := inner y (by omega)
        refine .inl ⟨((List.range (H + 1)).map (fun y' => if y' < y + 1 then rowS g W y' else []), ((y + 1 : Nat) : Int)), ?_, ⟨rfl, hlt⟩, hlt⟩
        show (if decide ((y : Int) < ((List.replicate (H + 1) ([] : List Int)).length : Int)) = true then _ else _) = _
        rw [if_pos (by rw [decide_eq_true_iff, List.length_replicate]; omega), chk_pos (by omega), chk_pos (by simp; omega)]
        show (loopM FUEL _ (((List.range (H + 1)).map (fun y' => if y' < y then rowS g W y' else [])).set (y : Int).toNat (List.replicate (((W + 1 : Nat) : Int)).toNat (0 : Int)), 1)).bind _ = _
        have hstart : ((List.range (H + 1)).map (fun y' => if y' < y then rowS g W y' else [])).set (y : Int).toNat (List.replicate (((W + 1 : Nat) : Int)).toNat (0 : Int)) = Q y 1 := by
          rw [Int.toNat_natCast, Int.toNat_natCast]
          apply List.ext_getElem?
          intro q
          by_cases hq : q ≤ H
          · rw [Qget y 1 q hq]
            by_cases he : q = y
            · subst he
              rw [List.getElem?_set_self (by simp; omega)]
              simp only [Nat.lt_irrefl, if_false, if_true]
              congr 1
              apply List.ext_getElem
              · simp
              · intro x h1 h2
                simp only [List.getElem_replicate, List.getElem_map, List.getElem_range]
                by_cases hx : x < 1
                · obtain rfl : x = 0 := by omega
                  rw [if_pos (by omega), Sm_zero_x]
                · rw [if_neg hx]
            · rw [List.getElem?_set_ne (by omega), List.getElem?_map, List.getElem?_range (by omega)]
              simp [he]
          · rw [List.getElem?_eq_none (by simp; omega), List.getElem?_eq_none (by rw [Qlen]; omega)]
        rw [hstart, k1, k2]
        show some (Step.next (_, w64 ((y : Int) + 1))) = _
        rw [w64_id (by omega) (by omega)]
        congr 2
        refine Prod.ext ?_ (by simp)
        show List.map _ _ = List.map _ _
        refine List.map_congr_left fun y' hy' => ?_
        by_cases h1 : y' < y
        · rw [if_pos h1, if_pos (by omega)]
        · by_cases h2 : y' = y
          · subst h2
            rw [if_neg h1, if_pos rfl, if_pos (by omega)]
            unfold rowS
            refine List.map_congr_left fun x hx => ?_
            rw [if_pos (List.mem_range.1 hx)]
          · rw [if_neg h1, if_neg h2, if_neg (by omega)]
      · obtain rfl : y = H + 1 := by omega
        refine .inr ⟨_, by rw [if_neg (by rw [decide_eq_true_iff]; simp)], ?_⟩
        unfold tabS
        refine List.map_congr_left fun y' hy' => ?_
        rw [if_pos (List.mem_range.1 hy')]
  obtain ⟨l, k1, rfl⟩ := outer
  unfold raster_Integral
  rw [ck, eH, Int.toNat_natCast]
  simp only [Option.bind_some, bne_self_eq_false, Bool.false_eq_true, if_false]
  rw [chk_pos (by omega), k1]
  rfl

end Go.Proofs.Ytoflllddpoonbaa
