/-
  PLAIN, chapter 44: the law Order.
-/
import Derived.Test.YtmeopehknkfnbaaP44c
set_option linter.unusedSimpArgs false
set_option linter.unusedVariables false
namespace Go.Proofs.Ytmeopehknkfnbaa
open Go.E

/-! ### Grey values that are raised -/

/-- The sum of the first n steps. -/
def stp (steps : List Int) : Nat → Int
  | 0 => 0
  | i + 1 => stp steps i + Int.tmod (steps.getD i 0) 200

theorem stp_bd (steps : List Int) (h : ∀ v ∈ steps, 0 ≤ v ∧ v < 256) : ∀ i, 0 ≤ stp steps i ∧ stp steps i ≤ 199 * i
  | 0 => by simp [stp]
  | i + 1 => by
    obtain ⟨a, b⟩ := stp_bd steps h i
    have hv : 0 ≤ steps.getD i 0 ∧ steps.getD i 0 < 256 := by
      by_cases hi : i < steps.length
      · rw [getD_eq hi]; exact h _ (List.getElem_mem hi)
      · simp [List.getD, hi]
    have h1 := Int.tmod_nonneg 200 hv.1
    have h2 := Int.tmod_lt_of_pos (steps.getD i 0) (by decide : (0 : Int) < 200)
    simp only [stp]
    omega
theorem stp_mono (steps : List Int) (h : ∀ v ∈ steps, 0 ≤ v ∧ v < 256) : ∀ (d i : Nat), stp steps i ≤ stp steps (i + d)
  | 0, _ => Int.le_refl _
  | d + 1, i => by
    have ih := stp_mono steps h d i
    have hv : 0 ≤ steps.getD (i + d) 0 ∧ steps.getD (i + d) 0 < 256 := by
      by_cases hi : i + d < steps.length
      · rw [getD_eq hi]; exact h _ (List.getElem_mem hi)
      · simp [List.getD, hi]
    have h1 := Int.tmod_nonneg 200 hv.1
    show _ ≤ stp steps (i + d + 1)
    simp only [stp]
    omega

/-- The value n becomes n and the steps up to it. -/
def rai (steps : List Int) (n : Int) : Int := n + stp steps (min (n.toNat + 1) steps.length)

theorem rai_lt (steps : List Int) (h : ∀ v ∈ steps, 0 ≤ v ∧ v < 256) {a b : Int} (ha : 0 ≤ a) (hab : a < b) : rai steps a < rai steps b := by
  unfold rai
  obtain ⟨d, hd⟩ : ∃ d, min (b.toNat + 1) steps.length = min (a.toNat + 1) steps.length + d := ⟨min (b.toNat + 1) steps.length - min (a.toNat + 1) steps.length, by omega⟩
  rw [hd]
  have := stp_mono steps h d (min (a.toNat + 1) steps.length)
  omega
theorem rai_iff (steps : List Int) (h : ∀ v ∈ steps, 0 ≤ v ∧ v < 256) {a b : Int} (ha : 0 ≤ a) (hb : 0 ≤ b) : rai steps a < rai steps b ↔ a < b := by
  constructor
  · intro hl
    rcases Int.lt_trichotomy a b with h1 | h1 | h1
    · exact h1
    · subst h1; omega
    · have := rai_lt steps h hb h1; omega
  · exact rai_lt steps h ha

theorem raise_one (steps : List Int) (h : ∀ v ∈ steps, 0 ≤ v ∧ v < 256) (hl : steps.length ≤ 300) {n : Int} (hn : 0 ≤ n ∧ n ≤ 200) :
    loopM FUEL (fun s : Int × Int => fiduciallaw44_CensusOrder_c1_s2 steps n s.1 s.2) (n, 0) = some (rai steps n) := by
  refine loop_go (fun i => (n + stp steps i, (i : Int))) (min (n.toNat + 1) steps.length) (by unfold FUEL; omega) (by simp [stp]) (fun i hi => ?_) ?_
  · show fiduciallaw44_CensusOrder_c1_s2 _ _ _ _ = _
    unfold fiduciallaw44_CensusOrder_c1_s2
    dsimp only
    have hil : i < steps.length := by omega
    have hv := h _ (List.getElem_mem hil)
    have hb := stp_bd steps h i
    have h1 := Int.tmod_nonneg 200 hv.1
    have h2 := Int.tmod_lt_of_pos steps[i] (by decide : (0 : Int) < 200)
    rw [if_pos (decide_eq_true (by omega)), decide_eq_true (by omega), Option.bind_some, if_pos rfl, ix_lt steps i hil, Option.bind_some]
    have e1 : w64 steps[i] = steps[i] := w64_id (by omega) (by omega)
    rw [e1, w64_id (by omega) (by omega), w64_id (by omega) (by omega)]
    simp only [stp, getD_eq hil]
    congr 3
    omega
  · show fiduciallaw44_CensusOrder_c1_s2 _ _ _ _ = _
    unfold fiduciallaw44_CensusOrder_c1_s2
    dsimp only
    have : (if decide (((min (n.toNat + 1) steps.length : Nat) : Int) ≤ n) = true then some (decide (((min (n.toNat + 1) steps.length : Nat) : Int) < (steps.length : Int))) else some false) = some false := by
      by_cases h1 : ((min (n.toNat + 1) steps.length : Nat) : Int) ≤ n
      · rw [if_pos (decide_eq_true h1)]
        congr 1
        exact decide_eq_false (by omega)
      · rw [if_neg (by simpa using h1)]
    rw [this, Option.bind_some, if_neg (by decide)]
    rfl

section
variable {W H : Nat} {m : Int} {g g' : Nat → Nat → Int}

theorem raised_eq (hb : Bd W H m g) (hm : m ≤ 200) (steps : List Int) (h : ∀ v ∈ steps, 0 ≤ v ∧ v < 256) (hl : steps.length ≤ 300) :
    fiduciallaw44_CensusOrder_c1 W H m (grid W H g) steps = some ((W : Int), (H : Int), 65535, grid W H (fun x y => rai steps (g x y))) := by
  obtain ⟨b1, b2, b3, b4, b5, b6, b7⟩ := hb
  have hN : H * W ≤ 64 * 64 := Nat.mul_le_mul b4 b2
  unfold fiduciallaw44_CensusOrder_c1
  have key := map_loop (step := fun s : List Int × Int => fiduciallaw44_CensusOrder_c1_s1 (grid W H g) steps s.1 s.2) (grid W H g) (rai steps) (by rw [grid_len]; omega)
    (fun i hi l hll => by
      show fiduciallaw44_CensusOrder_c1_s1 _ _ _ _ = _
      unfold fiduciallaw44_CensusOrder_c1_s1
      have hi' := hi
      rw [grid_len] at hi'
      have hv : 0 ≤ (grid W H g)[i] ∧ (grid W H g)[i] ≤ m := by
        obtain ⟨x, y, hx, hy, e⟩ := grid_mem (List.getElem_mem hi)
        rw [e]; exact b7 x y hx hy
      dsimp only
      rw [if_pos (decide_eq_true (by omega)), ix_lt _ i hi, Option.bind_some, raise_one steps h hl (by omega), Option.bind_some, chk_pos (by omega), w64_id (by omega) (by omega)]
      rfl)
    (fun l => by
      show fiduciallaw44_CensusOrder_c1_s1 _ _ _ _ = _
      unfold fiduciallaw44_CensusOrder_c1_s1
      dsimp only
      rw [if_neg (by simp)])
  rw [key, Option.bind_some]
  have : (grid W H g).map (rai steps) = grid W H (fun x y => rai steps (g x y)) := by
    refine grid_ext (by rw [List.length_map, grid_len]) (fun x y hx hy => ?_)
    rw [List.getElem?_map, grid_get W g H x y hx hy]
    rfl
  rw [this]

theorem raised_bd (hb : Bd W H m g) (hm : m ≤ 200) (steps : List Int) (h : ∀ v ∈ steps, 0 ≤ v ∧ v < 256) (hl : steps.length ≤ 300) : Bd W H 65535 (fun x y => rai steps (g x y)) := by
  obtain ⟨b1, b2, b3, b4, b5, b6, b7⟩ := hb
  refine ⟨b1, b2, b3, b4, by decide, by decide, fun x y hx hy => ?_⟩
  have hv := b7 x y hx hy
  have hs := stp_bd steps h (min ((g x y).toNat + 1) steps.length)
  show 0 ≤ rai steps (g x y) ∧ rai steps (g x y) ≤ 65535
  unfold rai
  omega

theorem cen_raised (hb : Bd W H m g) (steps : List Int) (h : ∀ v ∈ steps, 0 ≤ v ∧ v < 256) (r : Nat) {x y : Nat} (hx : x < W) (hy : y < H) : cen W H (fun x y => rai steps (g x y)) r x y = cen W H g r x y := by
  obtain ⟨b1, b2, b3, b4, b5, b6, b7⟩ := hb
  unfold cen
  rw [allf_congr (cmp := cmpb W H (fun x y => rai steps (g x y)) r x y) (cmp' := cmpb W H g r x y)]
  intro j i hj hi _
  unfold cmpb
  cases hin : inb W H x y r j i with
  | false => rfl
  | true =>
    have hh := of_decide_eq_true hin
    rw [Bool.true_and, Bool.true_and]
    have e := rai_iff steps h (b7 _ _ (by omega : x + i - r < W) (by omega : y + j - r < H)).1 (b7 x y hx hy).1
    by_cases hl : g (x + i - r) (y + j - r) < g x y
    · rw [decide_eq_true hl, decide_eq_true (e.2 hl)]
    · rw [decide_eq_false hl, decide_eq_false (fun h9 => hl (e.1 h9))]
theorem cenL_raised (hb : Bd W H m g) (steps : List Int) (h : ∀ v ∈ steps, 0 ≤ v ∧ v < 256) (r : Nat) : cenL W H r (fun x y => rai steps (g x y)) = cenL W H r g :=
  grid_congr fun x y hx hy => by rw [cen_raised hb steps h r hx hy]
end

theorem order_true (w h m : Int) (px : List Int) (w' h' m' : Int) (px' : List Int) (r : Int) (steps : List Int) (hs : ∀ v ∈ steps, 0 ≤ v ∧ v < 256) : fiduciallaw44_CensusOrder w h m px w' h' m' px' r steps = some true := by
  unfold fiduciallaw44_CensusOrder
  rw [known44, Option.bind_some, if_neg (by decide)]
  by_cases hn : (120 : Int) < px.length
  · rw [if_pos (decide_eq_true hn)]; rfl
  rw [if_neg (by simpa using hn)]
  rcases pair_cases w h m px w' h' m' px' with ⟨c, hc, h1, h2⟩ | ⟨W, H, g, g', rfl, rfl, rfl, e1, e2, e3, rfl, hb, hb'⟩
  · rw [h2, Option.bind_some, if_pos (by simpa using hc)]; rfl
  subst e1; subst e2; subst e3
  rw [(both_ok hb hb').2, Option.bind_some, if_neg (by decide)]
  by_cases hm : 200 < m'
  · rw [if_pos (decide_eq_true hm)]; rfl
  rw [if_neg (by simpa using hm)]
  by_cases hl : (300 : Int) < steps.length
  · rw [decide_eq_true hl]; rfl
  rw [decide_eq_false hl, Option.bind_some, if_neg (by decide)]
  have hl' : steps.length ≤ 300 := by omega
  have hm' : m' ≤ 200 := by omega
  have hr1 := raised_eq hb hm' steps hs hl'
  have hbr := raised_bd hb hm' steps hs hl'
  have hb2 : Bd W H 65535 g' := ⟨hb'.1, hb'.2.1, hb'.2.2.1, hb'.2.2.2.1, by decide, by decide, fun x y hx hy => by have := hb'.2.2.2.2.2.2 x y hx hy; omega⟩
  simp only [hr1, Option.bind_some]
  rcases rad_cases r with hr | hr
  · obtain ⟨R, rfl⟩ : ∃ R : Nat, r = R := ⟨r.toNat, by omega⟩
    have t1 := (Transform_good hb hr).1
    have t2 := (Transform_good hbr hr).1
    have hcl := cenL_raised hb steps hs R
    have c1 := (Census_good hb hb' hr (D := 4) (by decide) (by decide)).1
    have c2 := (Census_good hbr hb2 hr (D := 4) (by decide) (by decide)).1
    have hlen : (cenL W H R g).length ≤ 1000000 := by
      unfold cenL
      rw [grid_len]
      have := Nat.mul_le_mul hb.2.2.2.1 hb.2.1
      omega
    have hcost : grid 4 (H * W) (cst W (hf W H R (fun x y => rai steps (g x y)) g') (nv R)) = grid 4 (H * W) (cst W (hf W H R g g') (nv R)) := by
      refine grid_congr fun d i hd hi => ?_
      unfold cst hf
      split
      · obtain ⟨i1, i2⟩ := in_grid (by have := hb.1; omega : 0 < W) hi
        unfold ci
        rw [cen_raised hb steps hs R i1 i2]
      · rfl
    have c1' : census_Census (↑W) (↑H) m' (grid W H g) (↑W) (↑H) m' (grid W H g') ↑R 4 = some ((W : Int), (H : Int), 4, grid 4 (H * W) (cst W (hf W H R g g') (nv R)), 0) := c1
    have c2' : census_Census (↑W) (↑H) 65535 (grid W H fun x y => rai steps (g x y)) (↑W) (↑H) 65535 (grid W H g') ↑R 4 = some ((W : Int), (H : Int), 4, grid 4 (H * W) (cst W (hf W H R (fun x y => rai steps (g x y)) g') (nv R)), 0) := c2
    have v := hf_valid (g' := g') hb hr (D := 4) (by decide) (by decide)
    simp only [t1, t2, hcl, c1', c2', hcost, Option.bind_some]
    rw [if_neg (by decide), equal_self _ hlen]
    simp only [Option.bind_some, Bool.not_true, Bool.false_eq_true, if_false]
    rw [if_pos (by decide), same_self _ _ _ _ (by rw [v.len]; have := v.n; omega)]
    rfl
  · have ht : ∀ (m : Int) q, Bd W H m q → census_Transform W H m (grid W H q) r = some ([], 2) := fun m q hq => by
      unfold census_Transform
      rw [check_good hq.good, Option.bind_some, if_neg (by decide), rad_bad hr]; rfl
    have hc : ∀ (m : Int) q q', Bd W H m q → Bd W H m q' → census_Census W H m (grid W H q) W H m (grid W H q') r 4 = some (0, 0, 0, [], 2) := fun m q q' hq hq' => by
      unfold census_Census
      rw [(both_ok hq hq').1, Option.bind_some, if_neg (by decide), if_pos (by simpa using hr.1), if_pos (by simpa using hr.2)]; rfl
    simp only [ht m' g hb, ht 65535 _ hbr, hc m' g g' hb hb', hc 65535 _ g' hbr hb2, Option.bind_some]
    rw [if_neg (by decide), equal_self [] (by simp)]
    simp only [Option.bind_some, Bool.not_true, Bool.false_eq_true, if_false]
    rw [if_pos (by decide), same_self 0 0 0 [] (by simp)]
    rfl

end Go.Proofs.Ytmeopehknkfnbaa
