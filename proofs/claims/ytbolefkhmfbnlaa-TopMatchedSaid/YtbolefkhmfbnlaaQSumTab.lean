/-
  PLAIN: the table of sums.
-/
import Derived.Test.YtbolefkhmfbnlaaQTot
import Derived.Test.YtbolefkhmfbnlaaQCheck
import Derived.Test.YtbolefkhmfbnlaaQAt
import Derived.KernelRfl
set_option linter.unusedSimpArgs false
namespace Go.Proofs.Ytbolefkhmfbnlaa
open Go.E

theorem integral_good {W H : Nat} {m : Int} {g : Nat → Nat → Int} (bd : Bd W H m g) : raster_Integral W H m (grid W H g) = some (tabS g W H, 0) := by
  have ck := check_good bd.good
  have sb := fun {x y : Nat} (hx : x ≤ W) (hy : y ≤ H) => Sm_bound bd hx hy
  obtain ⟨b1, b2, b3, b4, b5, b6, b7⟩ := bd
  have eW : w64 ((W : Int) + 1) = ((W + 1 : Nat) : Int) := by rw [w64_id (by omega) (by omega)]; simp
  have eH : w64 ((H : Int) + 1) = ((H + 1 : Nat) : Int) := by rw [w64_id (by omega) (by omega)]; simp
  -- rows below y stand, row y has its first i sums, the rest is as it was made
  let Q : Nat → Nat → List (List Int) := fun y i => (List.range (H + 1)).map fun y' => if y' < y then rowS g W y' else if y' = y then (List.range (W + 1)).map (fun x => if x < i then Sm g x y else 0) else []
  have Qget : ∀ y i y', y' ≤ H → (Q y i)[y']? = some (if y' < y then rowS g W y' else if y' = y then (List.range (W + 1)).map (fun x => if x < i then Sm g x y else 0) else []) := fun y i y' hy' => by
    show ((List.range (H + 1)).map _)[y']? = _
    rw [List.getElem?_map, List.getElem?_range (by omega)]; rfl
  have Qlen : ∀ y i, (Q y i).length = H + 1 := fun y i => by show ((List.range (H + 1)).map _).length = _; simp
  have inner : ∀ y : Nat, y ≤ H → ∃ l, loopM FUEL (fun s : List (List Int) × Int => raster_Integral_s2 W H m (grid W H g) (y : Int) s.1 s.2) (Q y 1, 1) = some l ∧ l = Q y (W + 1) := by
    intro y hy
    refine loop_inv (fun i s => s = (Q y (i + 1), ((i + 1 : Nat) : Int)) ∧ i ≤ W ∧ (y = 0 → i = 0)) _ W (by unfold FUEL; omega) _ ⟨rfl, by omega, fun _ => rfl⟩ ?_
    rintro i s ⟨rfl, hi, h0⟩
    by_cases hy0 : y = 0
    · subst hy0
      refine .inr ⟨Q 0 (i + 1), ?_, ?_⟩
      · show ((if decide (((i + 1 : Nat) : Int) ≤ (W : Int)) = true then some (decide (0 < ((0 : Nat) : Int))) else some false)).bind _ = _
        have : (if decide (((i + 1 : Nat) : Int) ≤ (W : Int)) = true then some (decide (0 < ((0 : Nat) : Int))) else some false) = some false := by
          by_cases h9 : ((i + 1 : Nat) : Int) ≤ (W : Int) <;> simp [h9]
        rw [this]; rfl
      · show List.map _ _ = List.map _ _
        refine List.map_congr_left fun y' hy' => ?_
        by_cases e1 : y' = 0
        · subst e1
          simp only [Nat.lt_irrefl, if_false, if_true]
          refine List.map_congr_left fun x hx => ?_
          rw [Sm_zero_y]; simp
        · have : ¬ y' < 0 := by omega
          simp [this, e1]
    · by_cases hlt : i < W
      · have hyy : y - 1 + 1 = y := by omega
        refine .inl ⟨(Q y (i + 2), ((i + 2 : Nat) : Int)), ?_, ⟨rfl, by omega, fun h => absurd h hy0⟩, hlt⟩
        show ((if decide (((i + 1 : Nat) : Int) ≤ (W : Int)) = true then some (decide (0 < (y : Int))) else some false)).bind _ = _
        rw [if_pos (by rw [decide_eq_true_iff]; omega), Option.bind_some]
        have hd0 : decide (0 < (y : Int)) = true := by rw [decide_eq_true_iff]; omega
        rw [if_pos hd0]
        have f1 : ix (Q y (i + 1)) (y : Int) = some ((List.range (W + 1)).map (fun x => if x < i + 1 then Sm g x y else 0)) := ix_get rfl (by rw [Qget y (i + 1) y hy]; simp)
        have e1 : w64 ((y : Int) - 1) = ((y - 1 : Nat) : Int) := by rw [w64_id (by omega) (by omega)]; omega
        have f2 : ix (Q y (i + 1)) (w64 ((y : Int) - 1)) = some (rowS g W (y - 1)) := ix_get e1 (by rw [Qget y (i + 1) (y - 1) (by omega), if_pos (by omega)])
        have f3 : ix (rowS g W (y - 1)) ((i + 1 : Nat) : Int) = some (Sm g (i + 1) (y - 1)) := ix_get rfl (rowS_get g W (y - 1) (by omega))
        have e2 : w64 (((i + 1 : Nat) : Int) - 1) = (i : Int) := by rw [w64_id (by omega) (by omega)]; omega
        have f4 : ix ((List.range (W + 1)).map (fun x => if x < i + 1 then Sm g x y else 0)) (w64 (((i + 1 : Nat) : Int) - 1)) = some (Sm g i y) := ix_get e2 (by
          rw [List.getElem?_map, List.getElem?_range (by omega)]; simp)
        have f5 : ix (rowS g W (y - 1)) (w64 (((i + 1 : Nat) : Int) - 1)) = some (Sm g i (y - 1)) := ix_get e2 (rowS_get g W (y - 1) (by omega))
        have f6 : raster_at W H m (grid W H g) (w64 (((i + 1 : Nat) : Int) - 1)) (w64 ((y : Int) - 1)) = some (g i (y - 1)) := at_grid b2 b4 g H m _ _ i (y - 1) hlt (by omega) e2 e1
        show (ix (Q y (i + 1)) (y : Int)).bind _ = _
        rw [f1, Option.bind_some]
        show (ix (Q y (i + 1)) (w64 ((y : Int) - 1))).bind _ = _
        rw [f2, Option.bind_some]
        show (ix (rowS g W (y - 1)) ((i + 1 : Nat) : Int)).bind _ = _
        rw [f3, Option.bind_some]
        rw [Option.bind_some]
        show (ix ((List.range (W + 1)).map (fun x => if x < i + 1 then Sm g x y else 0)) (w64 (((i + 1 : Nat) : Int) - 1))).bind _ = _
        rw [f4, Option.bind_some]
        rw [Option.bind_some]
        show (ix (rowS g W (y - 1)) (w64 (((i + 1 : Nat) : Int) - 1))).bind _ = _
        rw [f5, Option.bind_some]
        show (raster_at W H m (grid W H g) (w64 (((i + 1 : Nat) : Int) - 1)) (w64 ((y : Int) - 1))).bind _ = _
        rw [f6, Option.bind_some]
        have s1 := sb (x := i + 1) (y := y - 1) (by omega) (by omega)
        have s2 := sb (x := i) (y := y) (by omega) hy
        have s3 := sb (x := i) (y := y - 1) (by omega) (by omega)
        have s4 := b7 i (y - 1) hlt (by omega)
        have st := Sm_step g i (y - 1)
        rw [hyy] at st
        have g1 : w64 (Sm g (i + 1) (y - 1) + Sm g i y) = Sm g (i + 1) (y - 1) + Sm g i y := w64_id (by omega) (by omega)
        have g2 : w64 (Sm g (i + 1) (y - 1) + Sm g i y - Sm g i (y - 1)) = Sm g (i + 1) (y - 1) + Sm g i y - Sm g i (y - 1) := w64_id (by omega) (by omega)
        have g3 : w64 (Sm g (i + 1) (y - 1) + Sm g i y - Sm g i (y - 1) + g i (y - 1)) = Sm g (i + 1) y := by rw [w64_id (by omega) (by omega), st]
        show chk (0 ≤ ((i + 1 : Nat) : Int) ∧ ((i + 1 : Nat) : Int) < (((List.range (W + 1)).map (fun x => if x < i + 1 then Sm g x y else 0)).length : Int)) (some (Step.next ((Q y (i + 1)).set (y : Int).toNat (((List.range (W + 1)).map (fun x => if x < i + 1 then Sm g x y else 0)).set ((i + 1 : Nat) : Int).toNat (w64 (w64 (w64 (Sm g (i + 1) (y - 1) + Sm g i y) - Sm g i (y - 1)) + g i (y - 1)))), w64 (((i + 1 : Nat) : Int) + 1)))) = _
        rw [g1, g2, g3, chk_pos (by simp; omega), w64_id (z := ((i + 1 : Nat) : Int) + 1) (by omega) (by omega), Int.toNat_natCast, Int.toNat_natCast]
        congr 2
        refine Prod.ext ?_ (by simp; omega)
        show (Q y (i + 1)).set y _ = Q y (i + 2)
        apply List.ext_getElem?
        intro q
        by_cases hq : q ≤ H
        · rw [Qget y (i + 2) q hq]
          by_cases he : q = y
          · subst he
            rw [List.getElem?_set_self (by rw [Qlen]; omega)]
            simp only [Nat.lt_irrefl, if_false, if_true]
            congr 1
            apply List.ext_getElem?
            intro x
            by_cases hx : x < W + 1
            · rw [List.getElem?_map, List.getElem?_range hx, Option.map_some]
              by_cases he2 : x = i + 1
              · subst he2
                rw [List.getElem?_set_self (by simp; omega), if_pos (by omega)]
              · rw [List.getElem?_set_ne (by omega), List.getElem?_map, List.getElem?_range hx, Option.map_some]
                by_cases h8 : x < i + 1
                · rw [if_pos h8, if_pos (by omega)]
                · rw [if_neg h8, if_neg (by omega)]
            · rw [List.getElem?_eq_none (by simp; omega), List.getElem?_eq_none (by simp; omega)]
          · rw [List.getElem?_set_ne (by omega), Qget y (i + 1) q hq]
            simp [he]
        · rw [List.getElem?_eq_none (by rw [List.length_set, Qlen]; omega), List.getElem?_eq_none (by rw [Qlen]; omega)]
      · obtain rfl : i = W := by omega
        refine .inr ⟨Q y (i + 1), ?_, rfl⟩
        show ((if decide (((i + 1 : Nat) : Int) ≤ (i : Int)) = true then some (decide (0 < (y : Int))) else some false)).bind _ = _
        rw [if_neg (by rw [decide_eq_true_iff]; omega)]
        rfl
  have outer : ∃ l, loopM FUEL (fun s : List (List Int) × Int => raster_Integral_s1 W H m (grid W H g) s.1 s.2) (List.replicate (H + 1) ([] : List Int), 0) = some l ∧ l = tabS g W H := by
    refine loop_inv (fun y s => s = ((List.range (H + 1)).map (fun y' => if y' < y then rowS g W y' else []), (y : Int)) ∧ y ≤ H + 1) _ (H + 1) (by unfold FUEL; omega) _ ⟨?_, by omega⟩ ?_
    · congr 1
      apply List.ext_getElem
      · simp
      · intro q _ _; simp
    · rintro y s ⟨rfl, hy⟩
      unfold raster_Integral_s1
      rw [eH, eW, Int.toNat_natCast]
      by_cases hlt : y < H + 1
      · obtain ⟨l, k1, k2⟩ := inner y (by omega)
        refine .inl ⟨((List.range (H + 1)).map (fun y' => if y' < y + 1 then rowS g W y' else []), ((y + 1 : Nat) : Int)), ?_, ⟨rfl, hlt⟩, hlt⟩
        show (if decide ((y : Int) < ((List.replicate (H + 1) ([] : List Int)).length : Int)) = true then _ else _) = _
        rw [if_pos (by rw [decide_eq_true_iff, List.length_replicate]; omega), chk_pos (by omega), chk_pos (by simp; omega)]
        show (loopM FUEL _ (((List.range (H + 1)).map (fun y' => if y' < y then rowS g W y' else [])).set (y : Int).toNat (List.replicate (((W + 1 : Nat) : Int)).toNat (0 : Int)), 1)).bind _ = _
        have hstart : ((List.range (H + 1)).map (fun y' => if y' < y then rowS g W y' else [])).set (y : Int).toNat (List.replicate (((W + 1 : Nat) : Int)).toNat (0 : Int)) = Q y 1 := by
          rw [Int.toNat_natCast, Int.toNat_natCast]
          apply List.ext_getElem?
          intro q
          by_cases hq : q ≤ H
          · rw [Qget y 1 q hq]
            by_cases he : q = y
            · subst he
              rw [List.getElem?_set_self (by simp; omega)]
              simp only [Nat.lt_irrefl, if_false, if_true]
              congr 1
              apply List.ext_getElem
              · simp
              · intro x h1 h2
                simp only [List.getElem_replicate, List.getElem_map, List.getElem_range]
                by_cases hx : x < 1
                · obtain rfl : x = 0 := by omega
                  rw [if_pos (by omega), Sm_zero_x]
                · rw [if_neg hx]
            · rw [List.getElem?_set_ne (by omega), List.getElem?_map, List.getElem?_range (by omega)]
              simp [he]
          · rw [List.getElem?_eq_none (by simp; omega), List.getElem?_eq_none (by rw [Qlen]; omega)]
        rw [hstart, k1, k2]
        show some (Step.next (_, w64 ((y : Int) + 1))) = _
        rw [w64_id (by omega) (by omega)]
        congr 2
        refine Prod.ext ?_ (by simp)
        show List.map _ _ = List.map _ _
        refine List.map_congr_left fun y' hy' => ?_
        by_cases h1 : y' < y
        · rw [if_pos h1, if_pos (by omega)]
        · by_cases h2 : y' = y
          · subst h2
            rw [if_neg h1, if_pos rfl, if_pos (by omega)]
            unfold rowS
            refine List.map_congr_left fun x hx => ?_
            rw [if_pos (List.mem_range.1 hx)]
          · rw [if_neg h1, if_neg h2, if_neg (by omega)]
      · obtain rfl : y = H + 1 := by omega
        refine .inr ⟨_, by rw [if_neg (by rw [decide_eq_true_iff]; simp)], ?_⟩
        unfold tabS
        refine List.map_congr_left fun y' hy' => ?_
        rw [if_pos (List.mem_range.1 hy')]
  obtain ⟨l, k1, rfl⟩ := outer
  unfold raster_Integral
  rw [ck, eH, Int.toNat_natCast]
  simp only [Option.bind_some, bne_self_eq_false, Bool.false_eq_true, if_false]
  rw [chk_pos (by omega), k1]
  rfl

theorem rows_none {xs : List (List Int)} {f : List Int → Option Bool} (hf : ∀ (i : Nat) r, xs[i]? = some r → f r = some false) (hn : xs.length ≤ 1000000) : slices_ContainsFunc_ssint xs f = some false := by
  have key : ∃ x, loopM FUEL (fun s => slices_IndexFunc_ssint_s1 xs f s) 0 = some x ∧ x = .inr () := by
    refine loop_inv (fun i s => s = (i : Int) ∧ i ≤ xs.length) _ xs.length (by unfold FUEL; omega) 0 ⟨rfl, by omega⟩ ?_
    rintro i s ⟨rfl, hi⟩
    unfold slices_IndexFunc_ssint_s1
    by_cases hlt : i < xs.length
    · refine .inl ⟨((i + 1 : Nat) : Int), ?_, ⟨rfl, hlt⟩, hlt⟩
      rw [if_pos (by simpa using hlt), ix_lt xs i hlt, Option.bind_some, hf i _ (List.getElem?_eq_getElem hlt), Option.bind_some, if_neg (by simp), w64_id (by omega) (by omega)]
      simp
    · exact .inr ⟨_, by rw [if_neg (by simpa using hlt)], rfl⟩
  obtain ⟨x, hx, rfl⟩ := key
  unfold slices_ContainsFunc_ssint slices_IndexFunc_ssint
  rw [hx]
  rfl

theorem tab0 (g : Nat → Nat → Int) (W H : Nat) : ix (tabS g W H) (0 : Int) = some (rowS g W 0) := ix_get (i := 0) rfl (tabS_get g W H (by omega))

theorem rows_eq (g : Nat → Nat → Int) {W H : Nat} (hH : H ≤ 64) : slices_ContainsFunc_ssint (tabS g W H) (fun z => raster_Sum_c1 z (tabS g W H)) = some false := by
  refine rows_none (fun i r hr => ?_) (by rw [tabS_len]; omega)
  have hi := (List.getElem?_eq_some_iff.1 hr).1
  rw [tabS_len] at hi
  rw [tabS_get g W H (by omega)] at hr
  cases hr
  unfold raster_Sum_c1
  rw [tab0, Option.bind_some, rowS_len, rowS_len]
  simp

def SFit (W H : Nat) (x y a b : Int) : Prop := 0 ≤ x ∧ x ≤ W ∧ 0 ≤ y ∧ y ≤ H ∧ 0 ≤ a ∧ a ≤ W - x ∧ 0 ≤ b ∧ b ≤ H - y

theorem tget2 (g : Nat → Nat → Int) {W H x y : Nat} (hx : x ≤ W) (hy : y ≤ H) {zx zy : Int} (ex : zx = x) (ey : zy = y) {α : Type} (k : Int → Option α) : ((ix (tabS g W H) zy).bind fun v => (ix v zx).bind k) = k (Sm g x y) := by
  rw [ix_get ey (tabS_get g W H hy), Option.bind_some, ix_get ex (rowS_get g W y hx), Option.bind_some]

theorem sum_good {W H : Nat} {m : Int} {g : Nat → Nat → Int} (bd : Bd W H m g) (X Y A B : Nat) (hX : X + A ≤ W) (hY : Y + B ≤ H) : raster_Sum (tabS g W H) X Y A B = some (Rc g X Y A B, 0) := by
  have sb := fun {x y : Nat} (hx : x ≤ W) (hy : y ≤ H) => Sm_bound bd hx hy
  obtain ⟨b1, b2, b3, b4, b5, b6, b7⟩ := bd
  have t0 := tab0 g W H
  have hW1 : (((rowS g W 0).length : Int)) = W + 1 := by rw [rowS_len]; simp
  have hH1 : (((tabS g W H).length : Int)) = H + 1 := by rw [tabS_len]; simp
  have c1 : ¬ ((W : Int) + 1 = 0) := by omega
  have c2 : ¬ ((H : Int) + 1 = 0) := by omega
  have d1 : w64 ((W : Int) + 1 - 1) = W := by rw [w64_id (by omega) (by omega)]; omega
  have d2 : w64 ((H : Int) + 1 - 1) = H := by rw [w64_id (by omega) (by omega)]; omega
  have d3 : w64 ((W : Int) - X) = (W : Int) - X := w64_id (by omega) (by omega)
  have d4 : w64 ((H : Int) - Y) = (H : Int) - Y := w64_id (by omega) (by omega)
  have q0 : ¬ (if (B : Int) < (if (A : Int) < (if (Y : Int) < (X : Int) then (Y : Int) else X) then (A : Int) else (if (Y : Int) < (X : Int) then (Y : Int) else X)) then (B : Int) else (if (A : Int) < (if (Y : Int) < (X : Int) then (Y : Int) else X) then (A : Int) else (if (Y : Int) < (X : Int) then (Y : Int) else X))) < 0 := by
    split <;> split <;> (try split) <;> omega
  have q1 : ¬ (W : Int) < X := by omega
  have q2 : ¬ (H : Int) < Y := by omega
  have q3 : ¬ (W : Int) - X < A := by omega
  have q4 : ¬ (H : Int) - Y < B := by omega
  have eX : w64 ((X : Int) + (A : Int)) = ((X + A : Nat) : Int) := by rw [w64_id (by omega) (by omega)]; simp
  have eY : w64 ((Y : Int) + (B : Int)) = ((Y + B : Nat) : Int) := by rw [w64_id (by omega) (by omega)]; simp
  unfold raster_Sum
  rw [hH1, t0]
  simp only [Option.bind_some, hW1, rows_eq g b4, c1, c2, beq_iff_eq, if_false, Bool.false_eq_true, d1, d2, d3, d4, q0, q1, q2, q3, q4, decide_false]
  rw [tget2 g hX hY eX eY, tget2 g hX (by omega : Y ≤ H) eX rfl, tget2 g (by omega : X ≤ W) hY rfl eY, tget2 g (by omega : X ≤ W) (by omega : Y ≤ H) rfl rfl]
  have s1 := sb hX hY
  have s2 := sb hX (by omega : Y ≤ H)
  have s3 := sb (by omega : X ≤ W) hY
  have s4 := sb (by omega : X ≤ W) (by omega : Y ≤ H)
  rw [w64_id (z := Sm g (X + A) (Y + B) - Sm g (X + A) Y) (by omega) (by omega), w64_id (z := Sm g (X + A) (Y + B) - Sm g (X + A) Y - Sm g X (Y + B)) (by omega) (by omega), w64_id (by omega) (by omega), Rc_Sm]

theorem sum_unfit {W H : Nat} (b2 : W ≤ 64) (b4 : H ≤ 64) (g : Nat → Nat → Int) {x y a b : Int} (hf : ¬ SFit W H x y a b) : raster_Sum (tabS g W H) x y a b = some (0, 2) := by
  have t0 := tab0 g W H
  have hW1 : (((rowS g W 0).length : Int)) = W + 1 := by rw [rowS_len]; simp
  have hH1 : (((tabS g W H).length : Int)) = H + 1 := by rw [tabS_len]; simp
  have c1 : ¬ ((W : Int) + 1 = 0) := by omega
  have c2 : ¬ ((H : Int) + 1 = 0) := by omega
  have d1 : w64 ((W : Int) + 1 - 1) = W := by rw [w64_id (by omega) (by omega)]; omega
  have d2 : w64 ((H : Int) + 1 - 1) = H := by rw [w64_id (by omega) (by omega)]; omega
  unfold raster_Sum
  rw [hH1, t0]
  simp only [Option.bind_some, hW1, rows_eq g b4, c1, c2, beq_iff_eq, if_false, Bool.false_eq_true, d1, d2]
  by_cases q0 : (if b < (if a < (if y < x then y else x) then a else (if y < x then y else x)) then b else (if a < (if y < x then y else x) then a else (if y < x then y else x))) < 0
  · simp [q0]
  have nn : 0 ≤ x ∧ 0 ≤ y ∧ 0 ≤ a ∧ 0 ≤ b := by
    split at q0 <;> (split at q0 <;> (try split at q0) <;> omega)
  by_cases q1 : (W : Int) < x
  · simp [q0, q1]
  by_cases q2 : (H : Int) < y
  · simp [q0, q1, q2]
  have d3 : w64 ((W : Int) - x) = (W : Int) - x := w64_id (by omega) (by omega)
  have d4 : w64 ((H : Int) - y) = (H : Int) - y := w64_id (by omega) (by omega)
  by_cases q3 : (W : Int) - x < a
  · simp [q0, q1, q2, d3, q3]
  have q4 : (H : Int) - y < b := by
    by_cases q : (H : Int) - y < b
    · exact q
    · exact absurd ⟨nn.1, by omega, nn.2.1, by omega, nn.2.2.1, by omega, nn.2.2.2, by omega⟩ hf
  simp [q0, q1, q2, d3, d4, q3, q4]

end Go.Proofs.Ytbolefkhmfbnlaa
