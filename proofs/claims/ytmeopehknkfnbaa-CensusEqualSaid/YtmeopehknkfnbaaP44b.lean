/-
  PLAIN, chapter 44: costs as a table; both images; the laws Transforms, Plain and Costs.
-/
import Derived.Test.YtmeopehknkfnbaaP44a
set_option linter.unusedSimpArgs false
set_option linter.unusedVariables false
namespace Go.Proofs.Ytmeopehknkfnbaa
open Go.E

theorem known44 : fiduciallaw44_known = some true := by kernel_rfl

theorem equal_self (xs : List Int) (h : xs.length ≤ 1000000) : slices_Equal_sint xs xs = some true := by
  unfold slices_Equal_sint
  rw [if_neg (by simp)]
  rcases eq_loop (step := fun s => slices_Equal_sint_s1 xs xs s) (fun a b => a == b) (fun a b => by simp) (xs := xs) (ys := xs) h rfl (fun s => rfl) with ⟨_, h2⟩ | ⟨h1, _⟩
  · rw [h2]; rfl
  · exact absurd rfl h1

theorem wu_range (z : Int) : 0 ≤ wu64 z ∧ wu64 z < 18446744073709551616 := by
  unfold wu64 IntKind.wrap
  simp only [IntKind.bits, IntKind.signed]
  simp
  omega
theorem ones_some (z : Int) : ∃ v, bits_OnesCount64 (wu64 z) = some v ∧ 0 ≤ v ∧ v ≤ 64 := by
  have h := wu_range z
  obtain ⟨x, hx⟩ : ∃ x : Nat, wu64 z = x := ⟨(wu64 z).toNat, by omega⟩
  have := pc_bd x
  exact ⟨_, by rw [hx]; exact ones_ok x (by omega), by omega, by omega⟩

/-! ### Transforms -/

theorem gcases (w h m : Int) (px : List Int) : (∃ W H g, w = ((W : Nat) : Int) ∧ h = ((H : Nat) : Int) ∧ px = grid W H g ∧ Bd W H m g ∧ raster_Check w h m px = some 0 ∧ fiducialref13_Check w h m px = some 0) ∨ (¬ Good w h m px ∧ raster_Check w h m px = some 1 ∧ fiducialref13_Check w h m px = some 1) := by
  by_cases hg : Good w h m px
  · obtain ⟨W, H, g, h1, h2, h3, h4⟩ := hg.grid
    exact .inl ⟨W, H, g, h1, h2, h3, h4, check_good hg, refcheck_good hg⟩
  · exact .inr ⟨hg, check_bad hg, refcheck_bad hg⟩

theorem rad_cases (r : Int) : (r = 1 ∨ r = 2) ∨ (r ≠ 1 ∧ r ≠ 2) := by omega
theorem rad_ok {r : Int} (h : r = 1 ∨ r = 2) : (if (r != 1) = true then some (r != 2) else some false) = some false := by
  rcases h with rfl | rfl <;> rfl
theorem rad_bad {r : Int} (h : r ≠ 1 ∧ r ≠ 2) : (if (r != 1) = true then some (r != 2) else some false) = some true := by
  rw [if_pos (by simpa using h.1)]
  congr 1
  simpa using h.2

/-- The census as both tell it. -/
def cenL (W H r : Nat) (g : Nat → Nat → Int) : List Int := grid W H fun x y => ((cen W H g r x y : Nat) : Int)

theorem Transform_good {W H : Nat} {m : Int} {g : Nat → Nat → Int} (hb : Bd W H m g) {r : Nat} (hr : (r : Int) = 1 ∨ (r : Int) = 2) :
    census_Transform W H m (grid W H g) r = some (cenL W H r g, 0) ∧ fiduciallaw44_transformed W H m (grid W H g) r = some (cenL W H r g, 0) := by
  have hr2 : r ≤ 2 := by omega
  have hb' := hb
  obtain ⟨b1, b2, b3, b4, b5, b6, b7⟩ := hb'
  have hHW : H * W ≤ 64 * 64 := Nat.mul_le_mul b4 b2
  constructor
  · unfold census_Transform
    rw [check_good hb.good, Option.bind_some, if_neg (by decide), rad_ok hr, Option.bind_some, if_neg (by decide), transform_eq hb hr2]
    rfl
  · unfold fiduciallaw44_transformed
    rw [refcheck_good hb.good, Option.bind_some, if_neg (by decide), rad_ok hr, Option.bind_some, if_neg (by decide)]
    rw [app_loop (D := W) (N := H) (by omega) (by omega) (by omega) (fun x y => ((cen W H g r x y : Nat) : Int)) (fun s => fiduciallaw44_transformed_s1 W H m (grid W H g) r s.1 s.2) (fun y s => fiduciallaw44_transformed_s2 W H m (grid W H g) r y s.1 s.2)]
    · rfl
    · intro y x l hy hx hl
      show fiduciallaw44_transformed_s2 _ _ _ _ _ _ _ _ = _
      unfold fiduciallaw44_transformed_s2
      dsimp only
      rw [if_pos (decide_eq_true (by omega)), doc_pixel hb hr2 hx hy, Option.bind_some, chk_pos (by omega), w64_id (by omega) (by omega)]
      rfl
    · intro y l hy
      show fiduciallaw44_transformed_s2 _ _ _ _ _ _ _ _ = _
      unfold fiduciallaw44_transformed_s2
      dsimp only
      rw [if_neg (by simp)]
    · intro y l l' hy hl
      show fiduciallaw44_transformed_s1 _ _ _ _ _ _ _ = _
      unfold fiduciallaw44_transformed_s1
      dsimp only
      rw [if_pos (decide_eq_true (by omega)), hl, Option.bind_some, w64_id (by omega) (by omega)]
      rfl
    · intro l
      show fiduciallaw44_transformed_s1 _ _ _ _ _ _ _ = _
      unfold fiduciallaw44_transformed_s1
      dsimp only
      rw [if_neg (by simp)]

/-- What Transform gives: the same as the document. -/
theorem Transform_same (w h m : Int) (px : List Int) (r : Int) : ∃ l c, census_Transform w h m px r = some (l, c) ∧ fiduciallaw44_transformed w h m px r = some (l, c) ∧ l.length ≤ 4096 := by
  rcases gcases w h m px with ⟨W, H, g, rfl, rfl, rfl, hb, _, _⟩ | ⟨_, h1, h2⟩
  · rcases rad_cases r with hr | hr
    · obtain ⟨R, rfl⟩ : ∃ R : Nat, r = R := ⟨r.toNat, by omega⟩
      obtain ⟨h1, h2⟩ := Transform_good hb hr
      refine ⟨_, _, h1, h2, ?_⟩
      unfold cenL
      rw [grid_len]
      exact Nat.mul_le_mul hb.2.2.2.1 hb.2.1
    · refine ⟨[], 2, ?_, ?_, by simp⟩
      · unfold census_Transform
        rw [check_good hb.good, Option.bind_some, if_neg (by decide), rad_bad hr]; rfl
      · unfold fiduciallaw44_transformed
        rw [refcheck_good hb.good, Option.bind_some, if_neg (by decide), rad_bad hr]; rfl
  · refine ⟨[], 1, ?_, ?_, by simp⟩
    · unfold census_Transform
      rw [h1]; rfl
    · unfold fiduciallaw44_transformed
      rw [h2]; rfl

theorem transforms_true (w h m : Int) (px : List Int) (r a b : Int) : fiduciallaw44_CensusTransforms w h m px r a b = some true := by
  unfold fiduciallaw44_CensusTransforms
  rw [known44, Option.bind_some, if_neg (by decide)]
  unfold fiduciallaw44_few
  rw [Option.bind_some]
  by_cases hl : (px.length : Int) ≤ 200
  · rw [decide_eq_true hl, if_neg (by decide)]
    obtain ⟨l, c, h1, h2, h3⟩ := Transform_same w h m px r
    simp only [h1, h2, Option.bind_some]
    rw [if_pos (by simp), equal_self l (by omega), Option.bind_some, if_pos rfl]
    unfold census_Hamming
    obtain ⟨v, hv, _, _⟩ := ones_some (((BitVec.ofInt 64 (wu64 a) ^^^ BitVec.ofInt 64 (wu64 b)).toNat : Int))
    rw [hv]
    simp
  · rw [decide_eq_false hl]; rfl

/-! ### Both images -/

theorem both_cases (w h m : Int) (px : List Int) (w' h' m' : Int) (px' : List Int) :
    (∃ c, c ≠ 0 ∧ census_both w h m px w' h' m' px' = some c ∧ fiduciallaw44_both w h m px w' h' m' px' = some c) ∨
    (Good w h m px ∧ Good w h m px' ∧ w' = w ∧ h' = h ∧ m' = m ∧ census_both w h m px w' h' m' px' = some 0 ∧ fiduciallaw44_both w h m px w' h' m' px' = some 0) := by
  have hs0 : ∀ c, raster_Check w h m px = some c → c ≠ 0 → census_both w h m px w' h' m' px' = some c := fun c hc hn => by
    unfold census_both
    rw [loop_go (s0 := 0) (step := fun s => census_both_s1 w h m px w' h' m' px' s) (fun i => (i : Int)) 0 (by unfold FUEL; omega) rfl (fun i hi => by omega) (x := .inl c) (by
      unfold census_both_s1
      rw [if_pos (by decide), ix_get (i := 0) (y := (w, h, m, px)) rfl rfl, Option.bind_some, hc, Option.bind_some, if_pos (by simpa using hn)])]
    rfl
  have hs1 : ∀ c, raster_Check w h m px = some 0 → raster_Check w' h' m' px' = some c → c ≠ 0 → census_both w h m px w' h' m' px' = some c := fun c h0 hc hn => by
    unfold census_both
    rw [loop_go (s0 := 0) (step := fun s => census_both_s1 w h m px w' h' m' px' s) (fun i => (i : Int)) 1 (by unfold FUEL; omega) rfl (fun i hi => by
      obtain rfl : i = 0 := by omega
      unfold census_both_s1
      rw [if_pos (by decide), ix_get (i := 0) (y := (w, h, m, px)) rfl rfl, Option.bind_some, h0, Option.bind_some, if_neg (by decide)]
      rfl) (x := .inl c) (by
      unfold census_both_s1
      rw [if_pos (by decide), ix_get (i := 1) (y := (w', h', m', px')) rfl rfl, Option.bind_some, hc, Option.bind_some, if_pos (by simpa using hn)])]
    rfl
  have hs2 : raster_Check w h m px = some 0 → raster_Check w' h' m' px' = some 0 → census_both w h m px w' h' m' px' = ((if (w != w') = true then some true else (if (h != h') = true then some true else some (m != m')))).bind fun s_2 => (if s_2 = true then some 4 else some 0) := fun h0 h1 => by
    unfold census_both
    rw [loop_go (s0 := 0) (step := fun s => census_both_s1 w h m px w' h' m' px' s) (fun i => (i : Int)) 2 (by unfold FUEL; omega) rfl (fun i hi => by
      unfold census_both_s1
      rcases (show i = 0 ∨ i = 1 by omega) with rfl | rfl
      · rw [if_pos (by decide), ix_get (i := 0) (y := (w, h, m, px)) rfl rfl, Option.bind_some, h0, Option.bind_some, if_neg (by decide)]
        rfl
      · rw [if_pos (by decide), ix_get (i := 1) (y := (w', h', m', px')) rfl rfl, Option.bind_some, h1, Option.bind_some, if_neg (by decide)]
        rfl) (x := .inr ()) (by
      unfold census_both_s1
      rw [if_neg (by decide)])]
    rfl
  by_cases hg : Good w h m px
  · by_cases hg' : Good w' h' m' px'
    · have e1 := hs2 (check_good hg) (check_good hg')
      have e2 : fiduciallaw44_both w h m px w' h' m' px' = ((if (w != w') = true then some true else (if (h != h') = true then some true else some (m != m')))).bind fun s_2 => (if s_2 = true then some 4 else some 0) := by
        unfold fiduciallaw44_both
        rw [refcheck_good hg, Option.bind_some, if_neg (by decide), refcheck_good hg', Option.bind_some, if_neg (by decide)]
      by_cases hw : w = w'
      · subst hw
        by_cases hh : h = h'
        · subst hh
          by_cases hm : m = m'
          · subst hm
            exact .inr ⟨hg, hg', rfl, rfl, rfl, by rw [e1]; simp, by rw [e2]; simp⟩
          · exact .inl ⟨4, by decide, by rw [e1]; simp [hm], by rw [e2]; simp [hm]⟩
        · exact .inl ⟨4, by decide, by rw [e1]; simp [hh], by rw [e2]; simp [hh]⟩
      · exact .inl ⟨4, by decide, by rw [e1]; simp [hw], by rw [e2]; simp [hw]⟩
    · refine .inl ⟨1, by decide, hs1 1 (check_good hg) (check_bad hg') (by decide), ?_⟩
      unfold fiduciallaw44_both
      rw [refcheck_good hg, Option.bind_some, if_neg (by decide), refcheck_bad hg']; rfl
  · refine .inl ⟨1, by decide, hs0 1 (check_bad hg) (by decide), ?_⟩
    unfold fiduciallaw44_both
    rw [refcheck_bad hg]; rfl

/-! ### Costs -/

def cst (W : Nat) (f : Nat → Nat → Int) (z : Int) (d i : Nat) : Int := if d ≤ i % W then f i (i - d) else z

theorem mod_le' {i W : Nat} : i % W ≤ i := Nat.mod_le _ _

theorem costs_eq {W D N : Nat} (hW : 0 < W) (hD : D ≤ 64) (hN : N ≤ 4096) (h m : Int) (px l r : List Int) (z : Int) (hl : l.length = N) (hr : r.length = N) (F : Int → Int → Option Int) (f : Nat → Nat → Int)
    (hF : ∀ i k, i < N → k < N → F (l.getD i 0) (r.getD k 0) = some (f i k)) : census_costs W h m px l r D z F = some ((W : Int), h, (D : Int), grid D N (cst W f z)) := by
  have hND : N * D ≤ 4096 * 64 := Nat.mul_le_mul hN hD
  unfold census_costs
  rw [app_loop (D := D) (N := N) (by omega) (by omega) (by omega) (cst W f z) (fun s => census_costs_s1 W l r D z F s.1 s.2) (fun i s => census_costs_s2 W r D z F i (l.getD i 0) s.1 s.2)]
  · rfl
  · intro i d q hi hd hq
    show census_costs_s2 _ _ _ _ _ _ _ _ _ = _
    unfold census_costs_s2
    dsimp only
    have hm : Int.tmod (i : Int) (W : Int) = ((i % W : Nat) : Int) := rfl
    rw [if_pos (decide_eq_true (by omega)), chk_pos (by omega), hm]
    have hmi := mod_le' (i := i) (W := W)
    unfold cst
    by_cases hc : d ≤ i % W
    · rw [if_pos (decide_eq_true (by omega)), if_pos hc, w64_id (by omega) (by omega), ix_getD (i := i - d) (by omega) (by omega) 0, Option.bind_some, hF i (i - d) hi (by omega), Option.bind_some, Option.bind_some, chk_pos (by omega), w64_id (by omega) (by omega)]
      rfl
    · rw [if_neg (by rw [decide_eq_true_eq]; omega), if_neg hc, Option.bind_some, chk_pos (by omega), w64_id (by omega) (by omega)]
      rfl
  · intro i q hi
    show census_costs_s2 _ _ _ _ _ _ _ _ _ = _
    unfold census_costs_s2
    dsimp only
    rw [if_neg (by simp)]
  · intro i q q' hi hq
    show census_costs_s1 _ _ _ _ _ _ _ _ = _
    unfold census_costs_s1
    dsimp only
    rw [if_pos (decide_eq_true (by omega)), ix_getD (i := i) rfl (by omega) 0, Option.bind_some, hq, Option.bind_some, w64_id (by omega) (by omega)]
    rfl
  · intro q
    show census_costs_s1 _ _ _ _ _ _ _ _ = _
    unfold census_costs_s1
    dsimp only
    rw [if_neg (by simp [hl])]

theorem filled_eq {W D N : Nat} (hW : 0 < W) (hD : D ≤ 64) (hN : N ≤ 4096) (h m : Int) (px : List Int) (z : Int) (hl : px.length = N) (F : Int → Int → Option Int) (f : Nat → Nat → Int)
    (hF : ∀ i k : Nat, i < N → k < N → F (i : Int) (k : Int) = some (f i k)) : fiduciallaw44_filled W h m px D z F = some ((W : Int), h, (D : Int), grid D N (cst W f z)) := by
  have hND : N * D ≤ 4096 * 64 := Nat.mul_le_mul hN hD
  unfold fiduciallaw44_filled
  rw [app_loop (D := D) (N := N) (by omega) (by omega) (by omega) (cst W f z) (fun s => fiduciallaw44_filled_s1 W px D z F s.1 s.2) (fun i s => fiduciallaw44_filled_s2 W D z F i s.1 s.2)]
  · rfl
  · intro i d q hi hd hq
    show fiduciallaw44_filled_s2 _ _ _ _ _ _ _ = _
    unfold fiduciallaw44_filled_s2
    dsimp only
    have hm : Int.tmod (i : Int) (W : Int) = ((i % W : Nat) : Int) := rfl
    rw [if_pos (decide_eq_true (by omega)), chk_pos (by omega), hm]
    have hmi := mod_le' (i := i) (W := W)
    unfold cst
    by_cases hc : d ≤ i % W
    · have e : w64 ((i : Int) - (d : Int)) = ((i - d : Nat) : Int) := by rw [w64_id (by omega) (by omega)]; omega
      rw [if_pos (decide_eq_true (by omega)), if_pos hc, e, hF i (i - d) hi (by omega), Option.bind_some, Option.bind_some, chk_pos (by omega), w64_id (by omega) (by omega)]
      rfl
    · rw [if_neg (by rw [decide_eq_true_eq]; omega), if_neg hc, Option.bind_some, chk_pos (by omega), w64_id (by omega) (by omega)]
      rfl
  · intro i q hi
    show fiduciallaw44_filled_s2 _ _ _ _ _ _ _ = _
    unfold fiduciallaw44_filled_s2
    dsimp only
    rw [if_neg (by simp)]
  · intro i q q' hi hq
    show fiduciallaw44_filled_s1 _ _ _ _ _ _ _ = _
    unfold fiduciallaw44_filled_s1
    dsimp only
    rw [if_pos (decide_eq_true (by omega)), hq, Option.bind_some, w64_id (by omega) (by omega)]
    rfl
  · intro q
    show fiduciallaw44_filled_s1 _ _ _ _ _ _ _ = _
    unfold fiduciallaw44_filled_s1
    dsimp only
    rw [if_neg (by simp [hl])]

/-! ### Valid costs -/

structure VC (W H D : Nat) (c : List Int) : Prop where
  w1 : 1 ≤ W
  w2 : W ≤ 64
  h1 : 1 ≤ H
  h2 : H ≤ 64
  d1 : 1 ≤ D
  d2 : D ≤ 64
  len : c.length = H * W * D
  ok : ∀ v ∈ c, 0 ≤ v ∧ v ≤ 1048576

def badc (v : Int) : Bool := decide (v < 0) || decide (1048576 < v)

theorem VC.n {W H D : Nat} {c : List Int} (v : VC W H D c) : H * W ≤ 4096 ∧ H * W * D ≤ 262144 := by
  have h1 : H * W ≤ 64 * 64 := Nat.mul_le_mul v.h2 v.w2
  have h2 : H * W * D ≤ (64 * 64) * 64 := Nat.mul_le_mul h1 v.d2
  omega
theorem VC.bad {W H D : Nat} {c : List Int} (v : VC W H D c) : c.any badc = false := by
  rw [List.any_eq_false]
  intro x hx
  have := v.ok x hx
  unfold badc
  simp
  omega
theorem mul3 (W H D : Nat) (hn : H * W ≤ 4096) (hd : H * W * D ≤ 262144) : w64 ((w64 ((W : Int) * (H : Int))) * (D : Int)) = ((H * W * D : Nat) : Int) := by
  have e1 : (W : Int) * (H : Int) = ((H * W : Nat) : Int) := by rw [Nat.mul_comm]; push_cast; rfl
  have e2 : w64 ((H * W : Nat) : Int) = ((H * W : Nat) : Int) := w64_id (by omega) (by omega)
  have e3 : ((H * W : Nat) : Int) * (D : Int) = ((H * W * D : Nat) : Int) := by push_cast; rfl
  rw [e1, e2, e3, w64_id (by omega) (by omega)]

theorem ccheck_good {W H D : Nat} {c : List Int} (v : VC W H D c) : census_Check W H D c = some 0 := by
  obtain ⟨n1, n2⟩ := v.n
  unfold census_Check
  have := v.len
  obtain ⟨w1, w2, h1, h2, d1, d2, _, _⟩ := v
  rw [if_neg (by simp; omega), if_neg (by simp; omega), if_neg (by simp; omega), if_neg (by simp; omega), if_neg (by simp; omega), if_neg (by simp; omega), mul3 W H D n1 n2, this, Option.bind_some, if_neg (by simp),
    any_int (g := badc) (fun z => by unfold census_Check_c1 badc; by_cases hz : z < 0 <;> simp [hz]) (by omega), Option.bind_some, VC.bad ⟨w1, w2, h1, h2, d1, d2, this, by assumption⟩]
  rfl

theorem valid_good {W H D : Nat} {c : List Int} (v : VC W H D c) : fiduciallaw44_valid W H D c = some true := by
  obtain ⟨n1, n2⟩ := v.n
  unfold fiduciallaw44_valid
  have := v.len
  obtain ⟨w1, w2, h1, h2, d1, d2, _, _⟩ := v
  rw [if_pos (by simp; omega), if_pos (by simp; omega), if_pos (by simp; omega), if_pos (by simp; omega), if_pos (by simp; omega), if_pos (by simp; omega), mul3 W H D n1 n2, this, if_pos (by simp),
    any_int (g := badc) (fun z => by unfold fiduciallaw44_valid_c1 badc; by_cases hz : z < 0 <;> simp [hz]) (by omega), Option.bind_some, VC.bad ⟨w1, w2, h1, h2, d1, d2, this, by assumption⟩]
  rfl

theorem vcases (w h d : Int) (c : List Int) (hn : c.length ≤ 1000000) : (∃ W H D : Nat, w = W ∧ h = H ∧ d = D ∧ VC W H D c) ∨ (census_Check w h d c = some 1 ∧ fiduciallaw44_valid w h d c = some false) := by
  by_cases h1 : 1 ≤ w
  · by_cases h2 : w ≤ 64
    · by_cases h3 : 1 ≤ h
      · by_cases h4 : h ≤ 64
        · by_cases h5 : 1 ≤ d
          · by_cases h6 : d ≤ 64
            · obtain ⟨W, rfl⟩ : ∃ W : Nat, w = W := ⟨w.toNat, by omega⟩
              obtain ⟨H, rfl⟩ : ∃ H : Nat, h = H := ⟨h.toNat, by omega⟩
              obtain ⟨D, rfl⟩ : ∃ D : Nat, d = D := ⟨d.toNat, by omega⟩
              have n1 : H * W ≤ 64 * 64 := Nat.mul_le_mul (by omega) (by omega)
              have n2 : H * W * D ≤ (64 * 64) * 64 := Nat.mul_le_mul n1 (by omega)
              by_cases hl : c.length = H * W * D
              · by_cases hb : c.any badc = true
                · right
                  constructor
                  · unfold census_Check
                    rw [if_neg (by simp; omega), if_neg (by simp; omega), if_neg (by simp; omega), if_neg (by simp; omega), if_neg (by simp; omega), if_neg (by simp; omega), mul3 W H D (by omega) (by omega), hl, Option.bind_some, if_neg (by simp),
                      any_int (g := badc) (fun z => by unfold census_Check_c1 badc; by_cases hz : z < 0 <;> simp [hz]) (by omega), Option.bind_some, hb]
                    rfl
                  · unfold fiduciallaw44_valid
                    rw [if_pos (by simp; omega), if_pos (by simp; omega), if_pos (by simp; omega), if_pos (by simp; omega), if_pos (by simp; omega), if_pos (by simp; omega), mul3 W H D (by omega) (by omega), hl, if_pos (by simp),
                      any_int (g := badc) (fun z => by unfold fiduciallaw44_valid_c1 badc; by_cases hz : z < 0 <;> simp [hz]) (by omega), Option.bind_some, hb]
                    rfl
                · refine .inl ⟨W, H, D, rfl, rfl, rfl, ⟨by omega, by omega, by omega, by omega, by omega, by omega, hl, fun v hv => ?_⟩⟩
                  have := List.any_eq_false.1 (Bool.eq_false_iff.2 hb) v hv
                  unfold badc at this
                  simp at this
                  omega
              · right
                constructor
                · unfold census_Check
                  rw [if_neg (by simp; omega), if_neg (by simp; omega), if_neg (by simp; omega), if_neg (by simp; omega), if_neg (by simp; omega), if_neg (by simp; omega), mul3 W H D (by omega) (by omega), Option.bind_some, if_pos (by rw [bne_iff_ne]; omega)]
                · unfold fiduciallaw44_valid
                  rw [if_pos (by simp; omega), if_pos (by simp; omega), if_pos (by simp; omega), if_pos (by simp; omega), if_pos (by simp; omega), if_pos (by simp; omega), mul3 W H D (by omega) (by omega), if_neg (by rw [beq_iff_eq]; omega)]
            · exact .inr ⟨by unfold census_Check; simp [h1, h2, h3, h4, h5, h6, show ¬ w < 1 by omega, show ¬ 64 < w by omega, show ¬ h < 1 by omega, show ¬ 64 < h by omega, show ¬ d < 1 by omega, show 64 < d by omega], by unfold fiduciallaw44_valid; simp [h1, h2, h3, h4, h5, h6]⟩
          · exact .inr ⟨by unfold census_Check; simp [show ¬ w < 1 by omega, show ¬ 64 < w by omega, show ¬ h < 1 by omega, show ¬ 64 < h by omega, show d < 1 by omega], by unfold fiduciallaw44_valid; simp [h1, h2, h3, h4, h5]⟩
        · exact .inr ⟨by unfold census_Check; simp [show ¬ w < 1 by omega, show ¬ 64 < w by omega, show ¬ h < 1 by omega, show 64 < h by omega], by unfold fiduciallaw44_valid; simp [h1, h2, h3, h4]⟩
      · exact .inr ⟨by unfold census_Check; simp [show ¬ w < 1 by omega, show ¬ 64 < w by omega, show h < 1 by omega], by unfold fiduciallaw44_valid; simp [h1, h2, h3]⟩
    · exact .inr ⟨by unfold census_Check; simp [show ¬ w < 1 by omega, show 64 < w by omega], by unfold fiduciallaw44_valid; simp [h1, h2]⟩
  · exact .inr ⟨by unfold census_Check; simp [show w < 1 by omega], by unfold fiduciallaw44_valid; simp [h1]⟩

theorem cst_valid {W H D : Nat} (hw1 : 1 ≤ W) (hw : W ≤ 64) (hh1 : 1 ≤ H) (hh : H ≤ 64) (hd1 : 1 ≤ D) (hd : D ≤ 64) {f : Nat → Nat → Int} {z : Int} (hz : 0 ≤ z ∧ z ≤ 1048576) (hf : ∀ i k, i < H * W → k < H * W → 0 ≤ f i k ∧ f i k ≤ 1048576) : VC W H D (grid D (H * W) (cst W f z)) := by
  refine ⟨hw1, hw, hh1, hh, hd1, hd, grid_len _ _ _, fun v hv => ?_⟩
  obtain ⟨d, i, h1, h2, rfl⟩ := grid_mem hv
  unfold cst
  have := mod_le' (i := i) (W := W)
  split
  · exact hf i (i - d) h2 (by omega)
  · exact hz

theorem same_self (w h d : Int) (l : List Int) (hl : l.length ≤ 1000000) : fiduciallaw44_same w h d l w h d l = some true := by
  unfold fiduciallaw44_same
  rw [if_pos (by simp), if_pos (by simp), if_pos (by simp), equal_self l hl]
  rfl

end Go.Proofs.Ytmeopehknkfnbaa
