/-
  PLAIN, chapter 44: the laws Plain and Costs.
-/
import Derived.Test.YtmeopehknkfnbaaP44b
set_option linter.unusedSimpArgs false
set_option linter.unusedVariables false
namespace Go.Proofs.Ytmeopehknkfnbaa
open Go.E

theorem pos_div {W i : Nat} (hW : 0 < W) : i / W * W + i % W = i := by rw [Nat.mul_comm]; exact Nat.div_add_mod i W
theorem grid_getD {W H : Nat} (g : Nat → Nat → Int) {i : Nat} (hi : i < H * W) : (grid W H g).getD i 0 = g (i % W) (i / W) := by
  have hW : 0 < W := by
    rcases Nat.eq_zero_or_pos W with h0 | h0
    · subst h0; simp at hi
    · exact h0
  have h1 : i % W < W := Nat.mod_lt _ hW
  have h2 : i / W < H := Nat.div_lt_of_lt_mul (by rw [Nat.mul_comm]; exact hi)
  have := grid_get W g H (i % W) (i / W) h1 h2
  rw [pos_div hW] at this
  rw [List.getD_eq_getElem?_getD, this]
  rfl

/-- The difference of two grey values. -/
def df (a b : Int) : Int := if w64 (a - b) < w64 (b - a) then w64 (b - a) else w64 (a - b)
theorem df_range {a b : Int} (ha : 0 ≤ a ∧ a ≤ 65535) (hb : 0 ≤ b ∧ b ≤ 65535) : 0 ≤ df a b ∧ df a b ≤ 65535 := by
  unfold df
  have e1 : w64 (a - b) = a - b := w64_id (by omega) (by omega)
  have e2 : w64 (b - a) = b - a := w64_id (by omega) (by omega)
  rw [e1, e2]
  split <;> omega
theorem df_self {a : Int} (ha : 0 ≤ a ∧ a ≤ 65535) : df a a = 0 := by
  unfold df
  have e1 : w64 (a - a) = 0 := by rw [w64_id (by omega) (by omega)]; omega
  rw [e1]
  rfl

def pf (W : Nat) (g g' : Nat → Nat → Int) (i k : Nat) : Int := df (g (i % W) (i / W)) (g' (k % W) (k / W))

section
variable {W H : Nat} {m : Int} {g g' : Nat → Nat → Int}
theorem in_grid (hW : 0 < W) {i : Nat} (hi : i < H * W) : i % W < W ∧ i / W < H := ⟨Nat.mod_lt _ hW, Nat.div_lt_of_lt_mul (by rw [Nat.mul_comm]; exact hi)⟩

theorem depth_ok {D : Nat} (h1 : 1 ≤ D) (h2 : D ≤ 64) : (if (decide ((D : Int) < 1)) = true then some true else some (decide (64 < (D : Int)))) = some false := by
  rw [if_neg (by simp; omega)]
  congr 1
  simp; omega

theorem both_ok (hb : Bd W H m g) (hb' : Bd W H m g') : census_both W H m (grid W H g) W H m (grid W H g') = some 0 ∧ fiduciallaw44_both W H m (grid W H g) W H m (grid W H g') = some 0 := by
  rcases both_cases W H m (grid W H g) W H m (grid W H g') with ⟨c, hc, h1, h2⟩ | ⟨_, _, _, _, _, h1, h2⟩
  · exfalso
    have : fiduciallaw44_both W H m (grid W H g) W H m (grid W H g') = some 0 := by
      unfold fiduciallaw44_both
      rw [refcheck_good hb.good, Option.bind_some, if_neg (by decide), refcheck_good hb'.good, Option.bind_some, if_neg (by decide)]
      simp
    rw [this] at h2
    exact hc (Option.some.inj h2).symm
  · exact ⟨h1, h2⟩

theorem Plain_good (hb : Bd W H m g) (hb' : Bd W H m g') {D : Nat} (h1 : 1 ≤ D) (h2 : D ≤ 64) :
    census_Plain W H m (grid W H g) W H m (grid W H g') D = some ((W : Int), (H : Int), (D : Int), grid D (H * W) (cst W (pf W g g') (m + 1)), 0) ∧
    fiduciallaw44_byGrey W H m (grid W H g) W H m (grid W H g') D = some ((W : Int), (H : Int), (D : Int), grid D (H * W) (cst W (pf W g g') (m + 1)), 0) := by
  obtain ⟨e1, e2⟩ := both_ok hb hb'
  obtain ⟨b1, b2, b3, b4, b5, b6, b7⟩ := hb
  have hN : H * W ≤ 64 * 64 := Nat.mul_le_mul b4 b2
  have hm : w64 (m + 1) = m + 1 := w64_id (by omega) (by omega)
  constructor
  · unfold census_Plain
    rw [e1, Option.bind_some, if_neg (by decide), depth_ok h1 h2, Option.bind_some, if_neg (by decide), hm,
      costs_eq (N := H * W) (by omega) h2 (by omega) (H : Int) m (grid W H g) (grid W H g) (grid W H g') (m + 1) (grid_len _ _ _) (grid_len _ _ _) _ (pf W g g') (fun i k hi hk => by
        rw [grid_getD g hi, grid_getD g' hk]; rfl)]
    rfl
  · unfold fiduciallaw44_byGrey
    rw [e2, Option.bind_some, if_neg (by decide), depth_ok h1 h2, Option.bind_some, if_neg (by decide), hm,
      filled_eq (N := H * W) (by omega) h2 (by omega) (H : Int) m (grid W H g) (m + 1) (grid_len _ _ _) _ (pf W g g') (fun i k hi hk => by
        unfold fiduciallaw44_byGrey_c1
        rw [ix_getD (i := i) rfl (by rw [grid_len]; exact hi) 0, Option.bind_some, ix_getD (i := k) rfl (by rw [grid_len]; exact hk) 0, Option.bind_some, Option.bind_some, Option.bind_some, grid_getD g hi, grid_getD g' hk]; rfl)]
    rfl

theorem pf_valid (hb : Bd W H m g) (hb' : Bd W H m g') {D : Nat} (h1 : 1 ≤ D) (h2 : D ≤ 64) : VC W H D (grid D (H * W) (cst W (pf W g g') (m + 1))) := by
  obtain ⟨b1, b2, b3, b4, b5, b6, b7⟩ := hb
  obtain ⟨_, _, _, _, _, _, c7⟩ := hb'
  refine cst_valid b1 b2 b3 b4 h1 h2 (by omega) (fun i k hi hk => ?_)
  obtain ⟨i1, i2⟩ := in_grid (H := H) (by omega) hi
  obtain ⟨k1, k2⟩ := in_grid (H := H) (by omega) hk
  have a1 := b7 _ _ i1 i2
  have a2 := c7 _ _ k1 k2
  have := df_range (a := g (i % W) (i / W)) (b := g' (k % W) (k / W)) (by omega) (by omega)
  unfold pf
  omega
end

theorem pair_cases (w h m : Int) (px : List Int) (w' h' m' : Int) (px' : List Int) :
    (∃ c, c ≠ 0 ∧ census_both w h m px w' h' m' px' = some c ∧ fiduciallaw44_both w h m px w' h' m' px' = some c) ∨
    (∃ W H g g', w = ((W : Nat) : Int) ∧ h = ((H : Nat) : Int) ∧ px = grid W H g ∧ w' = W ∧ h' = H ∧ m' = m ∧ px' = grid W H g' ∧ Bd W H m g ∧ Bd W H m g') := by
  rcases both_cases w h m px w' h' m' px' with h1 | ⟨hg, hg', rfl, rfl, rfl, _, _⟩
  · exact .inl h1
  · obtain ⟨W, H, g, rfl, rfl, rfl, hb⟩ := hg.grid
    obtain ⟨W', H', g', e1, e2, e3, hb'⟩ := hg'.grid
    obtain rfl : W = W' := by omega
    obtain rfl : H = H' := by omega
    exact .inr ⟨W, H, g, g', rfl, rfl, rfl, rfl, rfl, rfl, e3, hb, hb'⟩

theorem depth_cases (d : Int) : (∃ D : Nat, d = D ∧ 1 ≤ D ∧ D ≤ 64) ∨ (if (decide (d < 1)) = true then some true else some (decide (64 < d))) = some true := by
  by_cases h1 : d < 1
  · exact .inr (by rw [if_pos (decide_eq_true h1)])
  · by_cases h2 : 64 < d
    · exact .inr (by rw [if_neg (by simpa using h1), decide_eq_true h2])
    · exact .inl ⟨d.toNat, by omega, by omega, by omega⟩

theorem Plain_same (w h m : Int) (px : List Int) (w' h' m' : Int) (px' : List Int) (d : Int) : ∃ a b e l c, census_Plain w h m px w' h' m' px' d = some (a, b, e, l, c) ∧ fiduciallaw44_byGrey w h m px w' h' m' px' d = some (a, b, e, l, c) ∧ l.length ≤ 1000000 ∧ (c = 0 → census_Check a b e l = some 0) := by
  rcases pair_cases w h m px w' h' m' px' with ⟨c, hc, h1, h2⟩ | ⟨W, H, g, g', rfl, rfl, rfl, rfl, rfl, rfl, rfl, hb, hb'⟩
  · refine ⟨0, 0, 0, [], c, ?_, ?_, by simp, fun h => absurd h hc⟩
    · unfold census_Plain
      rw [h1, Option.bind_some, if_pos (by simpa using hc)]
    · unfold fiduciallaw44_byGrey
      rw [h2, Option.bind_some, if_pos (by simpa using hc)]
  · rcases depth_cases d with ⟨D, rfl, d1, d2⟩ | hd
    · obtain ⟨e1, e2⟩ := Plain_good hb hb' d1 d2
      have v := pf_valid hb hb' d1 d2
      exact ⟨_, _, _, _, _, e1, e2, by rw [v.len]; have := v.n; omega, fun _ => ccheck_good v⟩
    · obtain ⟨e1, e2⟩ := both_ok hb hb'
      refine ⟨0, 0, 0, [], 2, ?_, ?_, by simp, fun h => by omega⟩
      · unfold census_Plain
        rw [e1, Option.bind_some, if_neg (by decide), hd]; rfl
      · unfold fiduciallaw44_byGrey
        rw [e2, Option.bind_some, if_neg (by decide), hd]; rfl

theorem plain_true (w h m : Int) (px : List Int) (w' h' m' : Int) (px' : List Int) (d : Int) : fiduciallaw44_CensusPlain w h m px w' h' m' px' d = some true := by
  unfold fiduciallaw44_CensusPlain
  rw [known44, Option.bind_some, if_neg (by decide)]
  have hguard : ∃ b, (if (decide (120 < (px.length : Int))) = true then some true else some (decide (120 < (px'.length : Int)))) = some b := by
    split <;> exact ⟨_, rfl⟩
  obtain ⟨b, hb⟩ := hguard
  rw [hb, Option.bind_some]
  cases b with
  | true => rfl
  | false =>
    rw [if_neg (by decide)]
    obtain ⟨a, b, e, l, c, h1, h2, h3, h4⟩ := Plain_same w h m px w' h' m' px' d
    simp only [h1, h2, Option.bind_some]
    rw [if_pos (by simp), same_self a b e l h3, Option.bind_some, if_pos rfl]
    by_cases hc : c = 0
    · rw [if_neg (by simpa using hc), h4 hc]; rfl
    · rw [if_pos (by simpa using hc)]

/-! ### Costs by census -/

theorem bvnat (k : Nat) (hk : k < 2 ^ 64) : (BitVec.ofInt 64 (k : Int)).toNat = k := by
  rw [BitVec.toNat_ofInt]
  have : ((k : Int) % ((2 ^ 64 : Nat) : Int)).toNat = k := by
    rw [Int.emod_eq_of_lt (by omega) (by simp; omega)]
    omega
  exact this
theorem hamming_ok (a b : Nat) (ha : a < 33554432) (hb : b < 33554432) : census_Hamming (a : Int) (b : Int) = some ((pc (a ^^^ b) : Nat) : Int) := by
  unfold census_Hamming
  have h : a ^^^ b < 2 ^ 64 := Nat.xor_lt_two_pow (by omega) (by omega)
  have ea : wu64 (a : Int) = a := wu_id (by omega) (by omega)
  have eb : wu64 (b : Int) = b := wu_id (by omega) (by omega)
  rw [ea, eb, xor64 a b (by omega) (by omega), ones_ok _ h]
  rfl
theorem docham_ok (a b : Nat) (ha : a < 33554432) (hb : b < 33554432) : bits_OnesCount64 (wu64 (w64 (((BitVec.ofInt 64 (a : Int) ^^^ BitVec.ofInt 64 (b : Int)).toNat : Int)))) = some ((pc (a ^^^ b) : Nat) : Int) := by
  have h : a ^^^ b < 2 ^ 25 := Nat.xor_lt_two_pow (by omega) (by omega)
  rw [BitVec.toNat_xor, bvnat a (by omega), bvnat b (by omega)]
  have e1 : w64 ((a ^^^ b : Nat) : Int) = ((a ^^^ b : Nat) : Int) := w64_id (by omega) (by omega)
  rw [e1, wu_id (by omega) (by omega), ones_ok _ (by omega)]

def nv (r : Nat) : Int := (2 * r + 1) * (2 * r + 1)
theorem nv_ok {r : Nat} (hr : (r : Int) = 1 ∨ (r : Int) = 2) : w64 ((w64 ((w64 (2 * (r : Int))) + 1)) * (w64 ((w64 (2 * (r : Int))) + 1))) = nv r ∧ 0 ≤ nv r ∧ nv r ≤ 25 := by
  rcases hr with hr | hr
  · obtain rfl : r = 1 := by omega
    exact ⟨by decide, by decide, by decide⟩
  · obtain rfl : r = 2 := by omega
    exact ⟨by decide, by decide, by decide⟩

def ci (W H r : Nat) (g : Nat → Nat → Int) (i : Nat) : Nat := cen W H g r (i % W) (i / W)
def hf (W H r : Nat) (g g' : Nat → Nat → Int) (i k : Nat) : Int := ((pc (ci W H r g i ^^^ ci W H r g' k) : Nat) : Int)
theorem ci_lt {W H r : Nat} (hr : r ≤ 2) (g : Nat → Nat → Int) (i : Nat) : ci W H r g i < 33554432 := cen_lt _ _ _ hr _ _
theorem cenL_getD {W H r : Nat} {g : Nat → Nat → Int} {i : Nat} (hi : i < H * W) : (cenL W H r g).getD i 0 = ((ci W H r g i : Nat) : Int) := grid_getD (fun x y => ((cen W H g r x y : Nat) : Int)) hi

section
variable {W H : Nat} {m : Int} {g g' : Nat → Nat → Int}
theorem Census_good (hb : Bd W H m g) (hb' : Bd W H m g') {r : Nat} (hr : (r : Int) = 1 ∨ (r : Int) = 2) {D : Nat} (h1 : 1 ≤ D) (h2 : D ≤ 64) :
    census_Census W H m (grid W H g) W H m (grid W H g') r D = some ((W : Int), (H : Int), (D : Int), grid D (H * W) (cst W (hf W H r g g') (nv r)), 0) ∧
    fiduciallaw44_byCensus W H m (grid W H g) W H m (grid W H g') r D = some ((W : Int), (H : Int), (D : Int), grid D (H * W) (cst W (hf W H r g g') (nv r)), 0) := by
  obtain ⟨e1, e2⟩ := both_ok hb hb'
  have hr2 : r ≤ 2 := by omega
  obtain ⟨_, t1⟩ := Transform_good hb hr
  obtain ⟨_, t2⟩ := Transform_good hb' hr
  have p1 := transform_eq hb hr2
  have p2 := transform_eq hb' hr2
  obtain ⟨n1, n2, n3⟩ := nv_ok hr
  obtain ⟨b1, b2, b3, b4, b5, b6, b7⟩ := hb
  have hN : H * W ≤ 64 * 64 := Nat.mul_le_mul b4 b2
  have hl : ∀ q, (cenL W H r q).length = H * W := fun q => grid_len _ _ _
  constructor
  · unfold census_Census
    have hguard : (if ((r : Int) != 1) = true then (if ((r : Int) != 2) = true then some true else (if (decide ((D : Int) < 1)) = true then some true else some (decide (64 < (D : Int))))) else (if (decide ((D : Int) < 1)) = true then some true else some (decide (64 < (D : Int))))) = some false := by
      rw [depth_ok h1 h2]
      rcases hr with hr | hr
      · rw [if_neg (by simp [hr])]
      · rw [if_pos (by rw [hr]; decide), if_neg (by simp [hr])]
    rw [e1, Option.bind_some, if_neg (by decide), hguard, Option.bind_some, if_neg (by decide), p1, Option.bind_some, p2, Option.bind_some, n1]
    show ((census_costs W H m (grid W H g) (cenL W H r g) (cenL W H r g') D (nv r) _).bind _) = _
    rw [costs_eq (N := H * W) (by omega) h2 (by omega) (H : Int) m (grid W H g) (cenL W H r g) (cenL W H r g') (nv r) (hl g) (hl g') _ (hf W H r g g') (fun i k hi hk => by
        rw [cenL_getD hi, cenL_getD hk, hamming_ok _ _ (ci_lt hr2 _ _) (ci_lt hr2 _ _)]; rfl)]
    rfl
  · unfold fiduciallaw44_byCensus
    rw [e2, Option.bind_some, if_neg (by decide)]
    simp only [t1, t2, Option.bind_some]
    rw [if_neg (by decide), depth_ok h1 h2, Option.bind_some, if_neg (by decide), n1,
      filled_eq (N := H * W) (by omega) h2 (by omega) (H : Int) m (grid W H g) (nv r) (grid_len _ _ _) _ (hf W H r g g') (fun i k hi hk => by
        unfold fiduciallaw44_byCensus_c1
        rw [ix_getD (i := i) rfl (by rw [hl]; exact hi) 0, Option.bind_some, ix_getD (i := k) rfl (by rw [hl]; exact hk) 0, Option.bind_some, cenL_getD hi, cenL_getD hk, docham_ok _ _ (ci_lt hr2 _ _) (ci_lt hr2 _ _)]; rfl)]
    rfl

theorem hf_valid (hb : Bd W H m g) {r : Nat} (hr : (r : Int) = 1 ∨ (r : Int) = 2) {D : Nat} (h1 : 1 ≤ D) (h2 : D ≤ 64) : VC W H D (grid D (H * W) (cst W (hf W H r g g') (nv r))) := by
  obtain ⟨n1, n2, n3⟩ := nv_ok hr
  obtain ⟨b1, b2, b3, b4, b5, b6, b7⟩ := hb
  refine cst_valid b1 b2 b3 b4 h1 h2 (by omega) (fun i k hi hk => ?_)
  unfold hf
  have := pc_bd (ci W H r g i ^^^ ci W H r g' k)
  omega
end

theorem Census_same (w h m : Int) (px : List Int) (w' h' m' : Int) (px' : List Int) (r d : Int) : ∃ a b e l c, census_Census w h m px w' h' m' px' r d = some (a, b, e, l, c) ∧ fiduciallaw44_byCensus w h m px w' h' m' px' r d = some (a, b, e, l, c) ∧ l.length ≤ 1000000 ∧ (c = 0 → census_Check a b e l = some 0) := by
  rcases pair_cases w h m px w' h' m' px' with ⟨c, hc, h1, h2⟩ | ⟨W, H, g, g', rfl, rfl, rfl, rfl, rfl, rfl, rfl, hb, hb'⟩
  · refine ⟨0, 0, 0, [], c, ?_, ?_, by simp, fun h => absurd h hc⟩
    · unfold census_Census
      rw [h1, Option.bind_some, if_pos (by simpa using hc)]
    · unfold fiduciallaw44_byCensus
      rw [h2, Option.bind_some, if_pos (by simpa using hc)]
  · obtain ⟨e1, e2⟩ := both_ok hb hb'
    rcases rad_cases r with hr | hr
    · obtain ⟨R, rfl⟩ : ∃ R : Nat, r = R := ⟨r.toNat, by omega⟩
      rcases depth_cases d with ⟨D, rfl, d1, d2⟩ | hd
      · obtain ⟨e1, e2⟩ := Census_good hb hb' hr d1 d2
        have v := hf_valid (g' := g') hb hr d1 d2
        exact ⟨_, _, _, _, _, e1, e2, by rw [v.len]; have := v.n; omega, fun _ => ccheck_good v⟩
      · refine ⟨0, 0, 0, [], 2, ?_, ?_, by simp, fun h => by omega⟩
        · unfold census_Census
          have hguard : (if ((R : Int) != 1) = true then (if ((R : Int) != 2) = true then some true else (if (decide (d < 1)) = true then some true else some (decide (64 < d)))) else (if (decide (d < 1)) = true then some true else some (decide (64 < d)))) = some true := by
            rw [hd]
            split
            · split <;> rfl
            · rfl
          rw [e1, Option.bind_some, if_neg (by decide), hguard]; rfl
        · obtain ⟨_, t1⟩ := Transform_good hb hr
          obtain ⟨_, t2⟩ := Transform_good hb' hr
          unfold fiduciallaw44_byCensus
          rw [e2, Option.bind_some, if_neg (by decide)]
          simp only [t1, t2, Option.bind_some]
          rw [if_neg (by decide), hd]; rfl
    · refine ⟨0, 0, 0, [], 2, ?_, ?_, by simp, fun h => by omega⟩
      · unfold census_Census
        rw [e1, Option.bind_some, if_neg (by decide), if_pos (by simpa using hr.1), if_pos (by simpa using hr.2)]; rfl
      · have ht : ∀ q, Bd W H m' q → fiduciallaw44_transformed W H m' (grid W H q) r = some ([], 2) := fun q hq => by
          unfold fiduciallaw44_transformed
          rw [refcheck_good hq.good, Option.bind_some, if_neg (by decide), rad_bad hr]; rfl
        unfold fiduciallaw44_byCensus
        rw [e2, Option.bind_some, if_neg (by decide)]
        simp only [ht g hb, ht g' hb', Option.bind_some]
        rfl

theorem costs_true (w h m : Int) (px : List Int) (w' h' m' : Int) (px' : List Int) (r d : Int) : fiduciallaw44_CensusCosts w h m px w' h' m' px' r d = some true := by
  unfold fiduciallaw44_CensusCosts
  rw [known44, Option.bind_some, if_neg (by decide)]
  have hguard : ∃ b, (if (decide (120 < (px.length : Int))) = true then some true else some (decide (120 < (px'.length : Int)))) = some b := by
    split <;> exact ⟨_, rfl⟩
  obtain ⟨b, hb⟩ := hguard
  rw [hb, Option.bind_some]
  cases b with
  | true => rfl
  | false =>
    rw [if_neg (by decide)]
    obtain ⟨a, b, e, l, c, h1, h2, h3, h4⟩ := Census_same w h m px w' h' m' px' r d
    simp only [h1, h2, Option.bind_some]
    rw [if_pos (by simp), same_self a b e l h3, Option.bind_some, if_pos rfl]
    by_cases hc : c = 0
    · rw [if_neg (by simpa using hc), h4 hc]; rfl
    · rw [if_pos (by simpa using hc)]

end Go.Proofs.Ytmeopehknkfnbaa
