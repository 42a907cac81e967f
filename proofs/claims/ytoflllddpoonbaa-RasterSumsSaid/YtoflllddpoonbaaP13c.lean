/-
  PLAIN, chapter 13: turns, mirrors, equality.
-/
import Derived.Test.YtoflllddpoonbaaP13b
namespace Go.Proofs.Ytoflllddpoonbaa
open Go.E

def Bd (W H : Nat) (m : Int) (g : Nat → Nat → Int) : Prop := 1 ≤ W ∧ W ≤ 64 ∧ 1 ≤ H ∧ H ≤ 64 ∧ 1 ≤ m ∧ m ≤ 65535 ∧ ∀ x y, x < W → y < H → 0 ≤ g x y ∧ g x y ≤ m

theorem Bd.good {W H : Nat} {m : Int} {g : Nat → Nat → Int} (h : Bd W H m g) : Good W H m (grid W H g) := by
  obtain ⟨h1, h2, h3, h4, h5, h6, h7⟩ := h
  refine ⟨by omega, by omega, by omega, by omega, h5, h6, ?_, fun v hv => ?_⟩
  · rw [grid_len, Nat.mul_comm]; simp
  · obtain ⟨x, y, hx, hy, rfl⟩ := grid_mem hv
    exact h7 x y hx hy

theorem Good.grid {w h m : Int} {px : List Int} (hg : Good w h m px) : ∃ (W H : Nat) (g : Nat → Nat → Int), w = W ∧ h = H ∧ px = grid W H g ∧ Bd W H m g := by
  obtain ⟨h1, h2, h3, h4, h5, h6, h7, h8⟩ := hg
  obtain ⟨W, rfl⟩ : ∃ W : Nat, w = W := ⟨w.toNat, by omega⟩
  obtain ⟨H, rfl⟩ : ∃ H : Nat, h = H := ⟨h.toNat, by omega⟩
  have hl : px.length = H * W := by
    have : ((px.length : Nat) : Int) = ((H * W : Nat) : Int) := by rw [h7, Nat.mul_comm]; simp
    exact_mod_cast this
  refine ⟨W, H, _, rfl, rfl, grid_of W H px hl, by omega, by omega, by omega, by omega, h5, h6, fun x y hx hy => ?_⟩
  have hlt : y * W + x < px.length := by rw [hl]; exact cell_lt hx hy
  have : px.getD (y * W + x) 0 = px[y * W + x] := by simp [hlt]
  show 0 ≤ px.getD (y * W + x) 0 ∧ px.getD (y * W + x) 0 ≤ m
  rw [this]
  exact h8 _ (List.getElem_mem hlt)

theorem turn_grid {W H : Nat} {m : Int} {g : Nat → Nat → Int} (hb : Bd W H m g) : raster_Turn W H m (grid W H g) = some ((H : Int), (W : Int), m, grid H W (fun x y => g (W - 1 - y) x), 0) := by
  have hg := check_good hb.good
  obtain ⟨h1, h2, h3, h4, h5, h6, h7⟩ := hb
  unfold raster_Turn
  rw [hg]
  have := made_grid (W := H) (H := W) h4 h2 m (f := fun z7 z8 => raster_Turn_c1 z7 z8 W H m (grid W H g)) (g := fun x y => g (W - 1 - y) x) (fun x y hx hy => by
    unfold raster_Turn_c1
    have e1 : w64 ((W : Int) - 1) = (W : Int) - 1 := w64_id (by omega) (by omega)
    rw [e1, w64_id (by omega) (by omega), at_grid h2 h4 g H m _ _ (W - 1 - y) x (by omega) hx (by omega) rfl]
    rfl)
  simp [this]

theorem mirror_grid {W H : Nat} {m : Int} {g : Nat → Nat → Int} (hb : Bd W H m g) : raster_Mirror W H m (grid W H g) = some ((W : Int), (H : Int), m, grid W H (fun x y => g (W - 1 - x) y), 0) := by
  have hg := check_good hb.good
  obtain ⟨h1, h2, h3, h4, h5, h6, h7⟩ := hb
  unfold raster_Mirror
  rw [hg]
  have := made_grid (W := W) (H := H) h2 h4 m (f := fun z7 z8 => raster_Mirror_c1 z7 z8 W H m (grid W H g)) (g := fun x y => g (W - 1 - x) y) (fun x y hx hy => by
    unfold raster_Mirror_c1
    have e1 : w64 ((W : Int) - 1) = (W : Int) - 1 := w64_id (by omega) (by omega)
    rw [e1, w64_id (by omega) (by omega), at_grid h2 h4 g H m _ _ (W - 1 - x) y (by omega) hy (by omega) rfl]
    rfl)
  simp [this]

theorem Bd.turn {W H : Nat} {m : Int} {g : Nat → Nat → Int} (hb : Bd W H m g) : Bd H W m (fun x y => g (W - 1 - y) x) := by
  obtain ⟨h1, h2, h3, h4, h5, h6, h7⟩ := hb
  exact ⟨h3, h4, h1, h2, h5, h6, fun x y hx hy => h7 _ _ (by omega) hx⟩
theorem Bd.mirror {W H : Nat} {m : Int} {g : Nat → Nat → Int} (hb : Bd W H m g) : Bd W H m (fun x y => g (W - 1 - x) y) := by
  obtain ⟨h1, h2, h3, h4, h5, h6, h7⟩ := hb
  exact ⟨h1, h2, h3, h4, h5, h6, fun x y hx hy => h7 _ _ (by omega) hy⟩

theorem turn_bad {w h m : Int} {px : List Int} (hg : ¬ Good w h m px) : raster_Turn w h m px = some (0, 0, 0, [], 1) := by
  unfold raster_Turn; rw [check_bad hg]; rfl
theorem mirror_bad {w h m : Int} {px : List Int} (hg : ¬ Good w h m px) : raster_Mirror w h m px = some (0, 0, 0, [], 1) := by
  unfold raster_Mirror; rw [check_bad hg]; rfl

/-! The document's answers -/

theorem setloop {W H : Nat} (hW : W ≤ 64) (hH : H ≤ 64) (step2 : Int → (List Int × Int) → Option (Step (List Int × Int) (List Int))) (step1 : (List Int × Int) → Option (Step (List Int × Int) (List Int))) (g c0 : Nat → Nat → Int)
    (h2 : ∀ (x y : Nat) c, x < W → y < H → step2 y (grid W H c, (x : Int)) = some (.next (grid W H (fun x' y' => if x' = x ∧ y' = y then g x y else c x' y'), ((x + 1 : Nat) : Int))))
    (h2d : ∀ (y : Nat) c, y < H → step2 y (grid W H c, (W : Int)) = some (.done (grid W H c)))
    (h1 : ∀ (y : Nat) l l', y < H → loopM FUEL (step2 y) (l, 0) = some l' → step1 (l, (y : Int)) = some (.next (l', ((y + 1 : Nat) : Int))))
    (h1d : ∀ l, step1 (l, (H : Int)) = some (.done l)) : loopM FUEL step1 (grid W H c0, 0) = some (grid W H g) := by
  have inner : ∀ (y : Nat) c, y < H → ∃ l, loopM FUEL (step2 y) (grid W H c, 0) = some l ∧ l = grid W H (fun x' y' => if y' = y then g x' y' else c x' y') := by
    intro y c hy
    refine loop_inv (fun i s => s = (grid W H (fun x' y' => if y' = y ∧ x' < i then g x' y' else c x' y'), (i : Int)) ∧ i ≤ W) _ W (by unfold FUEL; omega) _ ⟨?_, by omega⟩ ?_
    · simp
    · rintro i s ⟨rfl, hi⟩
      by_cases hlt : i < W
      · refine .inl ⟨_, h2 i y _ hlt hy, ⟨?_, hlt⟩, hlt⟩
        congr 1
        refine grid_congr fun x' y' hx' hy' => ?_
        by_cases e1 : y' = y
        · subst e1
          by_cases e2 : x' = i
          · subst e2; simp
          · by_cases e3 : x' < i
            · simp [e2, e3]; intro; omega
            · have : ¬ x' < i + 1 := by omega
              simp [e2, e3, this]
        · simp [e1]
      · obtain rfl : i = W := by omega
        refine .inr ⟨_, h2d y _ hy, grid_congr fun x' y' hx' hy' => ?_⟩
        simp [hx']
  have outer : ∃ l, loopM FUEL step1 (grid W H c0, 0) = some l ∧ l = grid W H g := by
    refine loop_inv (fun i s => s = (grid W H (fun x' y' => if y' < i then g x' y' else c0 x' y'), (i : Int)) ∧ i ≤ H) _ H (by unfold FUEL; omega) _ ⟨by simp, by omega⟩ ?_
    rintro i s ⟨rfl, hi⟩
    by_cases hlt : i < H
    · obtain ⟨l, q1, q2⟩ := inner i _ hlt
      refine .inl ⟨_, h1 i _ _ hlt q1, ⟨?_, hlt⟩, hlt⟩
      rw [q2]
      congr 1
      refine grid_congr fun x' y' hx' hy' => ?_
      by_cases e1 : y' = i
      · subst e1; simp
      · by_cases e3 : y' < i
        · simp [e1, e3]; intro; omega
        · have : ¬ y' < i + 1 := by omega
          simp [e1, e3, this]
    · obtain rfl : i = H := by omega
      refine .inr ⟨_, h1d _, grid_congr fun x' y' hx' hy' => ?_⟩
      simp [hy']
  obtain ⟨l, q1, rfl⟩ := outer
  exact q1

theorem refnew_grid {W H : Nat} (hW : W ≤ 64) (hH : H ≤ 64) (m : Int) : fiducialref13_New W H m = some ((W : Int), (H : Int), m, grid W H (fun _ _ => 0)) := by
  have hm : H * W ≤ 64 * 64 := Nat.mul_le_mul hH hW
  have e0 : ((W : Int) * (H : Int)) = ((H * W : Nat) : Int) := by rw [Nat.mul_comm]; simp
  have e1 : w64 ((W : Int) * (H : Int)) = ((H * W : Nat) : Int) := by rw [e0]; exact w64_id (by omega) (by omega)
  have key : ∃ l, loopM FUEL (fun s : List Int × Int => fiducialref13_New_s1 W H s.1 s.2) (([] : List Int), 0) = some l ∧ l = List.replicate (H * W) 0 := by
    refine loop_inv (fun i s => s = (List.replicate i 0, (i : Int)) ∧ i ≤ H * W) _ (H * W) (by unfold FUEL; omega) _ ⟨rfl, by omega⟩ ?_
    rintro i s ⟨rfl, hi⟩
    unfold fiducialref13_New_s1
    rw [e1]
    by_cases hlt : i < H * W
    · refine .inl ⟨(List.replicate (i + 1) 0, ((i + 1 : Nat) : Int)), ?_, ⟨rfl, hlt⟩, hlt⟩
      show (if decide ((i : Int) < ((H * W : Nat) : Int)) = true then _ else _) = _
      rw [if_pos (by rw [decide_eq_true_iff]; omega), chk_pos]
      · show some (Step.next (_, w64 ((i : Int) + 1))) = _
        rw [w64_id (by omega) (by omega), List.replicate_succ']
        simp
      · show (List.replicate i (0 : Int)).length + 1 ≤ _
        simp; omega
    · refine .inr ⟨List.replicate i 0, ?_, ?_⟩
      · show (if decide ((i : Int) < ((H * W : Nat) : Int)) = true then _ else _) = _
        rw [if_neg (by rw [decide_eq_true_iff]; omega)]
      · congr 1; omega
  obtain ⟨l, q1, q2⟩ := key
  unfold fiducialref13_New
  rw [q1, q2]
  have : List.replicate (H * W) (0 : Int) = grid W H (fun _ _ => 0) := grid_ext (by simp) (fun x y hx hy => by
    have := cell_lt hx hy
    simp [this])
  rw [this]
  rfl

theorem refturn_grid {W H : Nat} {m : Int} {g : Nat → Nat → Int} (hb : Bd W H m g) : fiducialref13_Turn W H m (grid W H g) = some ((H : Int), (W : Int), m, grid H W (fun x y => g (W - 1 - y) x)) := by
  obtain ⟨h1, h2, h3, h4, h5, h6, h7⟩ := hb
  unfold fiducialref13_Turn
  rw [refnew_grid h4 h2]
  have := setloop (W := H) (H := W) h4 h2 (fun y s => fiducialref13_Turn_s2 W H m (grid W H g) H y s.1 s.2) (fun s => fiducialref13_Turn_s1 W H m (grid W H g) H W s.1 s.2) (fun x y => g (W - 1 - y) x) (fun _ _ => 0)
    (fun x y c hx hy => by
      have hlt := cell_lt hx hy
      have hm : W * H ≤ 64 * 64 := Nat.mul_le_mul h2 h4
      show (if decide ((x : Int) < (H : Int)) = true then _ else _) = _
      rw [if_pos (by simpa using hx)]
      have e0 : ((y : Int) * (H : Int)) = ((y * H : Nat) : Int) := by simp
      have e1 : w64 ((y : Int) * (H : Int)) = ((y * H : Nat) : Int) := by rw [e0]; exact w64_id (by omega) (by omega)
      have e2 : w64 (w64 ((y : Int) * (H : Int)) + (x : Int)) = ((y * H + x : Nat) : Int) := by rw [e1]; rw [w64_id (by omega) (by omega)]; simp
      have e3 : w64 (w64 ((W : Int) - 1) - (y : Int)) = ((W - 1 - y : Nat) : Int) := by rw [w64_id (z := (W : Int) - 1) (by omega) (by omega), w64_id (by omega) (by omega)]; omega
      rw [refat_grid h2 h4 g H m _ _ (W - 1 - y) x (by omega) hx e3 rfl, Option.bind_some]
      show chk (0 ≤ w64 (w64 ((y : Int) * (H : Int)) + (x : Int)) ∧ w64 (w64 ((y : Int) * (H : Int)) + (x : Int)) < ((grid H W c).length : Int)) (some (Step.next ((grid H W c).set (w64 (w64 ((y : Int) * (H : Int)) + (x : Int))).toNat _, w64 ((x : Int) + 1)))) = _
      rw [e2, chk_pos (by rw [grid_len]; omega), w64_id (by omega) (by omega)]
      rw [show (((y * H + x : Nat) : Int)).toNat = y * H + x by omega, grid_set c hx hy]
      simp)
    (fun y c hy => by
      show (if decide ((H : Int) < (H : Int)) = true then _ else _) = _
      rw [if_neg (by simp)])
    (fun y l l' hy hl => by
      show (if decide ((y : Int) < (W : Int)) = true then _ else _) = _
      rw [if_pos (by simpa using hy)]
      show (loopM FUEL _ (l, 0)).bind _ = _
      rw [hl]
      show some (Step.next (_, w64 ((y : Int) + 1))) = _
      rw [w64_id (by omega) (by omega)]; simp)
    (fun l => by
      show (if decide ((W : Int) < (W : Int)) = true then _ else _) = _
      rw [if_neg (by simp)])
  show (loopM FUEL _ _).bind _ = _
  rw [this]
  rfl

theorem refcopy_grid {W H : Nat} (hW : W ≤ 64) (hH : H ≤ 64) (w h m : Int) (g : Nat → Nat → Int) : fiducialref13_Copy w h m (grid W H g) = some (w, h, m, grid W H g) := by
  have hm : H * W ≤ 64 * 64 := Nat.mul_le_mul hH hW
  unfold fiducialref13_Copy
  rw [chk_pos (by rw [grid_len]; simp; omega)]
  rfl

theorem refmirror_grid {W H : Nat} {m : Int} {g : Nat → Nat → Int} (hb : Bd W H m g) : fiducialref13_Mirror W H m (grid W H g) = some ((W : Int), (H : Int), m, grid W H (fun x y => g (W - 1 - x) y)) := by
  obtain ⟨h1, h2, h3, h4, h5, h6, h7⟩ := hb
  unfold fiducialref13_Mirror
  rw [refcopy_grid h2 h4]
  have := setloop (W := W) (H := H) h2 h4 (fun y s => fiducialref13_Mirror_s2 W H m (grid W H g) y s.1 s.2) (fun s => fiducialref13_Mirror_s1 W H m (grid W H g) s.1 s.2) (fun x y => g (W - 1 - x) y) g
    (fun x y c hx hy => by
      have hlt := cell_lt hx hy
      have hm : H * W ≤ 64 * 64 := Nat.mul_le_mul h4 h2
      show (if decide ((x : Int) < (W : Int)) = true then _ else _) = _
      rw [if_pos (by simpa using hx)]
      have e0 : ((y : Int) * (W : Int)) = ((y * W : Nat) : Int) := by simp
      have e1 : w64 ((y : Int) * (W : Int)) = ((y * W : Nat) : Int) := by rw [e0]; exact w64_id (by omega) (by omega)
      have e2 : w64 (w64 ((y : Int) * (W : Int)) + (x : Int)) = ((y * W + x : Nat) : Int) := by rw [e1]; rw [w64_id (by omega) (by omega)]; simp
      have e3 : w64 (w64 ((W : Int) - 1) - (x : Int)) = ((W - 1 - x : Nat) : Int) := by rw [w64_id (z := (W : Int) - 1) (by omega) (by omega), w64_id (by omega) (by omega)]; omega
      rw [refat_grid h2 h4 g H m _ _ (W - 1 - x) y (by omega) hy e3 rfl, Option.bind_some]
      show chk (0 ≤ w64 (w64 ((y : Int) * (W : Int)) + (x : Int)) ∧ w64 (w64 ((y : Int) * (W : Int)) + (x : Int)) < ((grid W H c).length : Int)) (some (Step.next ((grid W H c).set (w64 (w64 ((y : Int) * (W : Int)) + (x : Int))).toNat _, w64 ((x : Int) + 1)))) = _
      rw [e2, chk_pos (by rw [grid_len]; omega), w64_id (by omega) (by omega)]
      rw [show (((y * W + x : Nat) : Int)).toNat = y * W + x by omega, grid_set c hx hy]
      simp)
    (fun y c hy => by
      show (if decide ((W : Int) < (W : Int)) = true then _ else _) = _
      rw [if_neg (by simp)])
    (fun y l l' hy hl => by
      show (if decide ((y : Int) < (H : Int)) = true then _ else _) = _
      rw [if_pos (by simpa using hy)]
      show (loopM FUEL _ (l, 0)).bind _ = _
      rw [hl]
      show some (Step.next (_, w64 ((y : Int) + 1))) = _
      rw [w64_id (by omega) (by omega)]; simp)
    (fun l => by
      show (if decide ((H : Int) < (H : Int)) = true then _ else _) = _
      rw [if_neg (by simp)])
  show (loopM FUEL _ _).bind _ = _
  rw [this]
  rfl

theorem refeq_same (w h m : Int) (l : List Int) (hl : l.length ≤ 1000000) : fiducialref13_Equal w h m l w h m l = some true := by
  unfold fiducialref13_Equal
  have key : ∃ x, loopM FUEL (fun s => fiducialref13_Equal_s1 l l s) 0 = some x ∧ x = .inr () := by
    refine loop_inv (fun i s => s = (i : Int) ∧ i ≤ l.length) _ l.length (by unfold FUEL; omega) 0 ⟨rfl, by omega⟩ ?_
    rintro i s ⟨rfl, hi⟩
    unfold fiducialref13_Equal_s1
    by_cases hlt : i < l.length
    · refine .inl ⟨((i + 1 : Nat) : Int), ?_, ⟨rfl, hlt⟩, hlt⟩
      rw [if_pos (by simpa using hlt), ix_lt l i hlt]
      simp only [Option.bind_some, bne_self_eq_false, Bool.false_eq_true, if_false]
      rw [w64_id (by omega) (by omega)]; simp
    · exact .inr ⟨_, by rw [if_neg (by simpa using hlt)], rfl⟩
  obtain ⟨x, hx, rfl⟩ := key
  simp [hx]

theorem refcheck_good {w h m : Int} {px : List Int} (hg : Good w h m px) : fiducialref13_Check w h m px = some 0 := by
  obtain ⟨h1, h2, h3, h4, h5, h6, h7, h8⟩ := hg
  have hm := mul_le64 (by omega : 0 ≤ w) h2 (by omega : 0 ≤ h) h4
  have e4 : w64 (w * h) = w * h := w64_id (by omega) (by omega)
  have key : ∃ x, loopM FUEL (fun s => fiducialref13_Check_s1 m px s) 0 = some x ∧ x = .inr () := by
    refine loop_inv (fun i s => s = (i : Int) ∧ i ≤ px.length) _ px.length (by unfold FUEL; omega) 0 ⟨rfl, by omega⟩ ?_
    rintro i s ⟨rfl, hi⟩
    unfold fiducialref13_Check_s1
    by_cases hlt : i < px.length
    · refine .inl ⟨((i + 1 : Nat) : Int), ?_, ⟨rfl, hlt⟩, hlt⟩
      rw [if_pos (by simpa using hlt), ix_lt px i hlt]
      have := h8 px[i] (List.getElem_mem hlt)
      have q1 : ¬ px[i] < 0 := by omega
      have q2 : ¬ m < px[i] := by omega
      simp only [Option.bind_some, q1, q2, decide_false, Bool.false_eq_true, if_false]
      rw [w64_id (by omega) (by omega)]; simp
    · exact .inr ⟨_, by rw [if_neg (by simpa using hlt)], rfl⟩
  obtain ⟨x, hx, rfl⟩ := key
  unfold fiducialref13_Check
  have a1 : ¬ w < 1 := by omega
  have a2 : ¬ 64 < w := by omega
  have a3 : ¬ h < 1 := by omega
  have a4 : ¬ 64 < h := by omega
  have a5 : ¬ m < 1 := by omega
  have a6 : ¬ 65535 < m := by omega
  simp [a1, a2, a3, a4, a5, a6, e4, h7, hx]

theorem refcheck_bad {w h m : Int} {px : List Int} (hg : ¬ Good w h m px) : fiducialref13_Check w h m px = some 1 := by
  unfold fiducialref13_Check
  by_cases a1 : w < 1
  · simp [a1]
  by_cases a2 : 64 < w
  · simp [a1, a2]
  by_cases a3 : h < 1
  · simp [a1, a2, a3]
  by_cases a4 : 64 < h
  · simp [a1, a2, a3, a4]
  by_cases a5 : m < 1
  · simp [a1, a2, a3, a4, a5]
  by_cases a6 : 65535 < m
  · simp [a1, a2, a3, a4, a5, a6]
  have hm := mul_le64 (by omega : 0 ≤ w) (by omega) (by omega : 0 ≤ h) (by omega)
  have e4 : w64 (w * h) = w * h := w64_id (by omega) (by omega)
  by_cases c4 : (px.length : Int) = w * h
  · have key : ∃ x, loopM FUEL (fun s => fiducialref13_Check_s1 m px s) 0 = some x ∧ x = .inl 1 := by
      refine loop_inv (fun i s => s = (i : Int) ∧ i ≤ px.length ∧ ∀ j v, j < i → px[j]? = some v → 0 ≤ v ∧ v ≤ m) _ px.length (by unfold FUEL; omega) 0 ⟨rfl, by omega, fun j v hj => by omega⟩ ?_
      rintro i s ⟨rfl, hi, hall⟩
      unfold fiducialref13_Check_s1
      by_cases hlt : i < px.length
      · rw [if_pos (by simpa using hlt), ix_lt px i hlt]
        by_cases q1 : px[i] < 0
        · exact .inr ⟨_, by simp [q1], rfl⟩
        by_cases q2 : m < px[i]
        · exact .inr ⟨_, by simp [q2], rfl⟩
        refine .inl ⟨((i + 1 : Nat) : Int), ?_, ⟨rfl, hlt, ?_⟩, hlt⟩
        · simp only [Option.bind_some, q1, q2, decide_false, Bool.false_eq_true, if_false]
          rw [w64_id (by omega) (by omega)]; simp
        · intro j v hj hv
          rcases Nat.lt_succ_iff_lt_or_eq.1 hj with h | rfl
          · exact hall j v h hv
          · rw [List.getElem?_eq_getElem hlt] at hv; cases hv; omega
      · exfalso
        apply hg
        refine ⟨by omega, by omega, by omega, by omega, by omega, by omega, c4, fun v hv => ?_⟩
        obtain ⟨j, hj⟩ := List.getElem?_of_mem hv
        have := (List.getElem?_eq_some_iff.1 hj).1
        exact hall j v (by omega) hj
    obtain ⟨x, hx, rfl⟩ := key
    simp [a1, a2, a3, a4, a5, a6, e4, c4, hx]
  · simp [a1, a2, a3, a4, a5, a6, e4, c4]

theorem few_one (w h m : Int) (px : List Int) : fiduciallaw13_few [(w, h, m, px)] = some (!decide (600 < (px.length : Int))) := by
  unfold fiduciallaw13_few slices_ContainsFunc_sapi_Raster slices_IndexFunc_sapi_Raster
  have key : ∃ x, loopM FUEL (fun s => slices_IndexFunc_sapi_Raster_s1 [(w, h, m, px)] (fun z2 z3 z4 z5 => fiduciallaw13_few_c1 z2 z3 z4 z5) s) 0 = some x ∧ x = (if 600 < (px.length : Int) then Sum.inl 0 else Sum.inr ()) := by
    refine loop_inv (fun i s => s = (i : Int) ∧ i ≤ 1 ∧ (i = 1 → ¬ 600 < (px.length : Int))) _ 1 (by unfold FUEL; omega) 0 ⟨rfl, by omega, fun h => by omega⟩ ?_
    rintro i s ⟨rfl, hi, h1⟩
    unfold slices_IndexFunc_sapi_Raster_s1
    by_cases h0 : i = 0
    · subst h0
      by_cases hb : 600 < (px.length : Int)
      · refine .inr ⟨Sum.inl 0, ?_, by rw [if_pos hb]⟩
        simp [ix, fiduciallaw13_few_c1, hb]
      · refine .inl ⟨1, ?_, ⟨rfl, by omega, fun _ => hb⟩, by omega⟩
        rw [if_pos (by simp)]
        show ((some (w, h, m, px)).bind _) = _
        rw [Option.bind_some]
        show ((some (decide (600 < (px.length : Int)))).bind _) = _
        rw [Option.bind_some, if_neg (by simpa using hb)]
        kernel_rfl
    · obtain rfl : i = 1 := by omega
      refine .inr ⟨Sum.inr (), by simp, ?_⟩
      rw [if_neg (h1 rfl)]
  obtain ⟨x, hx, rfl⟩ := key
  rw [hx]
  by_cases hb : 600 < (px.length : Int) <;> simp [hb]

theorem turns_true (w h m : Int) (px : List Int) : fiduciallaw13_RasterTurns w h m px = some true := by
  unfold fiduciallaw13_RasterTurns
  rw [known_ok, Option.bind_some]
  simp only [Bool.not_true, Bool.false_eq_true, if_false]
  rw [few_one, Option.bind_some]
  by_cases hb : 600 < (px.length : Int)
  · simp [hb]
  simp only [hb, decide_false, Bool.not_false, Bool.not_true, Bool.false_eq_true, if_false]
  by_cases hg : Good w h m px
  · obtain ⟨W, H, g, rfl, rfl, rfl, bd⟩ := hg.grid
    have hl : ∀ (A B : Nat) (q : Nat → Nat → Int), A ≤ 64 → B ≤ 64 → (grid A B q).length ≤ 1000000 := fun A B q ha hb' => by
      rw [grid_len]
      have := Nat.mul_le_mul hb' ha
      omega
    have hWH := bd
    obtain ⟨b1, b2, b3, b4, _⟩ := hWH
    rw [turn_grid bd, Option.bind_some, mirror_grid bd, Option.bind_some, refcheck_good hg, Option.bind_some]
    simp only [bne_self_eq_false, Bool.false_eq_true, if_false]
    rw [turn_grid bd.turn, Option.bind_some]
    dsimp only
    rw [turn_grid bd.turn.turn, Option.bind_some]
    dsimp only
    rw [turn_grid bd.turn.turn.turn, Option.bind_some]
    dsimp only
    rw [mirror_grid bd.mirror, Option.bind_some]
    dsimp only
    rw [turn_grid bd.mirror, Option.bind_some]
    dsimp only
    rw [mirror_grid bd.turn.turn.turn, Option.bind_some]
    dsimp only
    have hloop : loopM FUEL (fun s => fiduciallaw13_RasterTurns_s1 0 0 0 0 0 0 0 0 s) 0 = some (.inr ()) := by kernel_rfl
    rw [hloop, Option.bind_some]
    dsimp only
    rw [refturn_grid bd, Option.bind_some]
    dsimp only
    rw [refeq_same _ _ _ _ (hl _ _ _ b4 b2), Option.bind_some]
    simp only [if_true]
    rw [refmirror_grid bd, Option.bind_some]
    dsimp only
    rw [refeq_same _ _ _ _ (hl _ _ _ b2 b4), Option.bind_some]
    simp only [if_true]
    have e4 : grid W H (fun x y => g (W - 1 - (W - 1 - x)) (H - 1 - (H - 1 - y))) = grid W H g := grid_congr fun x y hx hy => by
      rw [show W - 1 - (W - 1 - x) = x by omega, show H - 1 - (H - 1 - y) = y by omega]
    rw [e4, refeq_same _ _ _ _ (hl _ _ _ b2 b4), Option.bind_some]
    simp only [if_true]
    have e5 : grid W H (fun x y => g (W - 1 - (W - 1 - x)) y) = grid W H g := grid_congr fun x y hx hy => by
      rw [show W - 1 - (W - 1 - x) = x by omega]
    rw [e5, refeq_same _ _ _ _ (hl _ _ _ b2 b4), Option.bind_some]
    simp only [if_true]
    have e6 : grid H W (fun x y => g (W - 1 - (W - 1 - y)) x) = grid H W (fun x y => g (W - 1 - (W - 1 - y)) (H - 1 - (H - 1 - x))) := grid_congr fun x y hx hy => by
      rw [show H - 1 - (H - 1 - x) = x by omega]
    first
      | rw [e6, refeq_same _ _ _ _ (hl _ _ _ b4 b2)]; rfl
      | (rw [refeq_same _ _ _ _ (hl _ _ _ b4 b2)]; rfl)
  · rw [turn_bad hg, Option.bind_some, mirror_bad hg, Option.bind_some, refcheck_bad hg]
    have : fiduciallaw13_empty 0 0 0 [] = some true := by kernel_rfl
    simp [this]

end Go.Proofs.Ytoflllddpoonbaa
