/-
  PLAIN, chapter 44: the laws Equal and Shifted.
-/
import Derived.Test.YtmeopehknkfnbaaP44e
set_option linter.unusedSimpArgs false
set_option linter.unusedVariables false
namespace Go.Proofs.Ytmeopehknkfnbaa
open Go.E

theorem pc_self (a : Nat) : pc (a ^^^ a) = 0 := by rw [Nat.xor_self]; exact bits_of_zero 64

/-- Where the first of a row is 0 and none is less, the least is at 0. -/
theorem bix_zero {D : Nat} (hD : 0 < D) (hD2 : D ≤ 64) {cc : Nat → Nat → Int} {i : Nat} (h0 : cc 0 i = 0) (h1 : ∀ d, d < D → 0 ≤ cc d i) : bix (rowi D cc i) = 0 := by
  obtain ⟨M, _, _, a3, a4, j, b1, b2, b3, b4⟩ := bix_ok (rowi_ne hD cc i) (by rw [rowi_len]; omega)
  have hM : M = 0 := by
    have e1 := a4 0 (List.mem_of_getElem? (by rw [rowi_get D cc i hD, h0]))
    obtain ⟨k, hk⟩ := List.getElem?_of_mem a3
    have hkl := (List.getElem?_eq_some_iff.1 hk).1
    rw [rowi_len] at hkl
    rw [rowi_get D cc i hkl] at hk
    have := h1 k hkl
    have := Option.some.inj hk
    omega
  rw [b1]
  rcases Nat.eq_zero_or_pos j with h | h
  · rw [h]; rfl
  · exact absurd (by rw [rowi_get D cc i hD, h0, hM]) (b4 0 h)

theorem equal_step {W H D : Nat} {cc : Nat → Nat → Int} (v : VC W H D (grid D (H * W) cc)) (h0 : ∀ i, i < H * W → cc 0 i = 0) (p2 : Int) (hD : w64 (1 + Int.tmod (w64 p2) 5) = D) (q : Int × Int × Int × List Int) (hq : q.2.2.2 = grid D (H * W) cc) :
    loopM FUEL (fun s => fiduciallaw44_CensusEqual_s2 p2 q (bestL D (H * W) cc) s) 0 = some (.inr ()) := by
  obtain ⟨n1, n2⟩ := v.n
  have d1 := v.d1
  have d2 := v.d2
  have hlen : (bestL D (H * W) cc).length = H * W := by simp [bestL]
  refine loop_go (fun i => (i : Int)) (H * W) (by unfold FUEL; omega) rfl (fun i hi => ?_) ?_
  · unfold fiduciallaw44_CensusEqual_s2
    have hg : (bestL D (H * W) cc)[i]? = some (0 : Int) := by
      unfold bestL
      rw [List.getElem?_map, List.getElem?_range hi]
      exact congrArg some (bix_zero d1 d2 (h0 i hi) (fun d hd => (vc_at v hd hi).1))
    have hc := cell_lt (W := D) (x := 0) d1 hi
    have e1 := nmul i D (by omega)
    have hg2 : (grid D (H * W) cc)[i * D]? = some (0 : Int) := by
      have := grid_get D cc (H * W) 0 i d1 hi
      rw [Nat.add_zero, h0 i hi] at this
      exact this
    rw [if_pos (decide_eq_true (by rw [hlen]; omega)), ix_get rfl hg, Option.bind_some, if_neg (by decide), hD, hq, e1, ix_get rfl hg2, Option.bind_some]
    show ((some ((0 : Int) != 0)).bind _) = _
    rw [Option.bind_some, if_neg (by decide), w64_id (by omega) (by omega)]
    rfl
  · unfold fiduciallaw44_CensusEqual_s2
    rw [if_neg (by rw [hlen]; simp)]

theorem u8mod {p : Int} (hp : 0 ≤ p ∧ p < 256) (k : Nat) (hk : 0 < k) (hk2 : k ≤ 10) : ∃ D : Nat, w64 (1 + Int.tmod (w64 p) (k : Int)) = (D : Int) ∧ 1 ≤ D ∧ D ≤ k := by
  obtain ⟨q, rfl⟩ : ∃ q : Nat, p = q := ⟨p.toNat, by omega⟩
  have e1 : w64 (q : Int) = q := w64_id (by omega) (by omega)
  have e2 : Int.tmod (q : Int) (k : Int) = ((q % k : Nat) : Int) := rfl
  have := Nat.mod_lt q hk
  refine ⟨q % k + 1, ?_, by omega, by omega⟩
  rw [e1, e2, w64_id (by omega) (by omega)]
  omega

theorem equal_true (w h m : Int) (px : List Int) (p1 p2 : Int) (hp1 : 0 ≤ p1 ∧ p1 < 256) (hp2 : 0 ≤ p2 ∧ p2 < 256) : fiduciallaw44_CensusEqual w h m px p1 p2 = some true := by
  unfold fiduciallaw44_CensusEqual
  rw [known44, Option.bind_some, if_neg (by decide)]
  by_cases hn : (120 : Int) < px.length
  · rw [if_pos (decide_eq_true hn)]; rfl
  rw [if_neg (by simpa using hn)]
  rcases gcases w h m px with ⟨W, H, g, rfl, rfl, rfl, hb, _, hc⟩ | ⟨_, _, hc⟩
  · rw [hc, Option.bind_some, Option.bind_some, if_neg (by decide)]
    obtain ⟨R, hR, r1, r2⟩ := u8mod hp1 2 (by decide) (by decide)
    obtain ⟨D, hD, d1, d2⟩ := u8mod hp2 5 (by decide) (by decide)
    have hR' : w64 (1 + Int.tmod (w64 p1) 2) = (R : Int) := hR
    have hD' : w64 (1 + Int.tmod (w64 p2) 5) = (D : Int) := hD
    have hr : (R : Int) = 1 ∨ (R : Int) = 2 := by omega
    have hd64 : D ≤ 64 := by omega
    obtain ⟨c1, _⟩ := Census_good hb hb hr d1 hd64
    obtain ⟨c2, _⟩ := Plain_good hb hb d1 hd64
    have v1 := hf_valid (g' := g) hb hr d1 hd64
    have v2 := pf_valid hb hb d1 hd64
    obtain ⟨n1, n2⟩ := v1.n
    have hl1 := v1.len
    have hl2 := v2.len
    have hW : 0 < W := hb.1
    have z1 : ∀ i, i < H * W → cst W (hf W H R g g) (nv R) 0 i = 0 := fun i hi => by
      unfold cst
      rw [if_pos (by omega), Nat.sub_zero]
      unfold hf
      rw [pc_self]; rfl
    have z2 : ∀ i, i < H * W → cst W (pf W g g) (m + 1) 0 i = 0 := fun i hi => by
      unfold cst
      rw [if_pos (by omega), Nat.sub_zero]
      unfold pf
      obtain ⟨i1, i2⟩ := in_grid (H := H) hW hi
      have := hb.2.2.2.2.2.2 _ _ i1 i2
      have := hb.2.2.2.2.2.1
      exact df_self (by omega)
    have hlg : (grid W H g).length = H * W := grid_len _ _ _
    have hmul := nmul (H * W) D (by omega)
    have hbl : ∀ cc, (bestL D (H * W) cc).length = H * W := fun cc => by simp [bestL]
    simp only [hR', hD', c1, c2, Option.bind_some]
    rw [if_neg (by decide), Option.bind_some, if_neg (by decide)]
    have hstep : ∀ cc, VC W H D (grid D (H * W) cc) → (∀ i, i < H * W → cc 0 i = 0) → ∀ k : Nat, k < 2 → ([((W : Int), (H : Int), (D : Int), grid D (H * W) (cst W (hf W H R g g) (nv R))), ((W : Int), (H : Int), (D : Int), grid D (H * W) (cst W (pf W g g) (m + 1)))] : List (Int × Int × Int × List Int))[k]? = some ((W : Int), (H : Int), (D : Int), grid D (H * W) cc) →
        fiduciallaw44_CensusEqual_s1 (grid W H g) p2 W H D (grid D (H * W) (cst W (hf W H R g g) (nv R))) W H D (grid D (H * W) (cst W (pf W g g) (m + 1))) (k : Int) = some (.next ((k + 1 : Nat) : Int)) := fun cc vc hz k hk hget => by
      unfold fiduciallaw44_CensusEqual_s1
      rw [if_pos (decide_eq_true (by omega)), ix_get rfl hget, Option.bind_some, Best_eq vc, Option.bind_some]
      dsimp only
      rw [if_neg (by decide), hbl, hlg, if_neg (by simp), hD', hmul, vc.len, Option.bind_some, if_neg (by simp), equal_step vc hz p2 hD' _ rfl]
      show some (Step.next (w64 ((k : Int) + 1))) = _
      rw [w64_id (by omega) (by omega)]
      rfl
    rw [loop_go (s0 := 0) (step := fun s => fiduciallaw44_CensusEqual_s1 (grid W H g) p2 W H D (grid D (H * W) (cst W (hf W H R g g) (nv R))) W H D (grid D (H * W) (cst W (pf W g g) (m + 1))) s) (fun i => (i : Int)) 2 (by unfold FUEL; omega) rfl (x := .inr ()) (fun k hk => by
      rcases (show k = 0 ∨ k = 1 by omega) with rfl | rfl
      · exact hstep _ v1 z1 0 hk rfl
      · exact hstep _ v2 z2 1 hk rfl) (by
      unfold fiduciallaw44_CensusEqual_s1
      rw [if_neg (by decide)])]
    rfl
  · rw [hc]; rfl

/-! ### Shifted -/

section
variable {W H : Nat} {m : Int} {g : Nat → Nat → Int}

/-- The shifted image. -/
def shg (W s : Nat) (g : Nat → Nat → Int) (b : Nat → Int) (x y : Nat) : Int := if x + s < W then g (x + s) y else b (y * W + x)

theorem shifted_eq (hb : Bd W H m g) {p1 : Int} {s : Nat} (hs : Int.tmod (w64 p1) 4 = s) (hs3 : s ≤ 3) (border : List Int) (hbd : ∀ v ∈ border, 0 ≤ v ∧ v < 256) :
    ∃ b : Nat → Int, (∀ i, 0 ≤ b i ∧ b i ≤ m) ∧ loopM FUEL (fun q : List Int × Int => fiduciallaw44_CensusShifted_s1 W m (grid W H g) p1 border q.1 q.2) ([], 0) = some (grid W H (shg W s g b)) := by
  obtain ⟨b1, b2, b3, b4, b5, b6, b7⟩ := hb
  have hN : H * W ≤ 64 * 64 := Nat.mul_le_mul b4 b2
  refine ⟨fun i => if i < border.length then Int.tmod (border.getD i 0) (m + 1) else 0, fun i => ?_, ?_⟩
  · dsimp only
    split
    · rename_i hi
      have hv := hbd _ (List.getElem_mem hi)
      rw [getD_eq hi]
      have h1 := Int.tmod_nonneg (m + 1) hv.1
      have h2 := Int.tmod_lt_of_pos border[i] (by omega : (0 : Int) < m + 1)
      omega
    · omega
  · have key := loop_go (s0 := ([], 0)) (step := fun q : List Int × Int => fiduciallaw44_CensusShifted_s1 W m (grid W H g) p1 border q.1 q.2) (fun i => ((List.range i).map (fun i => shg W s g (fun i => if i < border.length then Int.tmod (border.getD i 0) (m + 1) else 0) (i % W) (i / W)), (i : Int))) (H * W) (by unfold FUEL; omega) rfl (x := (List.range (H * W)).map (fun i => shg W s g (fun i => if i < border.length then Int.tmod (border.getD i 0) (m + 1) else 0) (i % W) (i / W))) (fun i hi => by
      show fiduciallaw44_CensusShifted_s1 _ _ _ _ _ _ _ = _
      unfold fiduciallaw44_CensusShifted_s1
      dsimp only
      have hm : Int.tmod (i : Int) (W : Int) = ((i % W : Nat) : Int) := rfl
      have hmw := Nat.mod_lt i (by omega : W > 0)
      have hm1 : w64 (m + 1) = m + 1 := w64_id (by omega) (by omega)
      have hpd := pos_div (W := W) (i := i) (by omega)
      have hbv : (if (decide ((i : Int) < (border.length : Int))) = true then (ix border (i : Int)).bind fun v_36 => chk ((w64 (m + 1)) ≠ 0) (some (Int.tmod (w64 v_36) (w64 (m + 1)))) else some 0) = some (if i < border.length then Int.tmod (border.getD i 0) (m + 1) else 0) := by
        by_cases hi2 : i < border.length
        · have hv := hbd _ (List.getElem_mem hi2)
          have e1 : w64 border[i] = border[i] := w64_id (by omega) (by omega)
          rw [if_pos (decide_eq_true (by omega)), if_pos hi2, ix_lt border i hi2, Option.bind_some, hm1, chk_pos (by omega), e1, getD_eq hi2]
        · rw [if_neg (by rw [decide_eq_true_eq]; omega), if_neg hi2]
      have e0 : w64 (((i % W : Nat) : Int) + (s : Int)) = ((i % W + s : Nat) : Int) := by rw [w64_id (by omega) (by omega)]; rfl
      rw [if_pos (decide_eq_true (by rw [grid_len]; omega)), hbv, Option.bind_some, chk_pos (by omega), hm, hs, e0]
      have hval : (if (decide (((i % W + s : Nat) : Int) < (W : Int))) = true then (ix (grid W H g) (w64 ((i : Int) + (s : Int)))).bind fun v_35 => some v_35 else some (if i < border.length then Int.tmod (border.getD i 0) (m + 1) else 0)) = some (shg W s g (fun i => if i < border.length then Int.tmod (border.getD i 0) (m + 1) else 0) (i % W) (i / W)) := by
        unfold shg
        by_cases hc : i % W + s < W
        · have hin := rgt_in (H := H) (by omega : 0 < W) hi hc
          have h2 := (in_grid (H := H) (by omega : 0 < W) hi).2
          have e1 : w64 ((i : Int) + (s : Int)) = ((i / W * W + (i % W + s) : Nat) : Int) := by rw [w64_id (by omega) (by omega)]; omega
          rw [if_pos (decide_eq_true (by omega)), if_pos hc, e1, ix_get rfl (grid_get W g H (i % W + s) (i / W) hc h2), Option.bind_some]
        · rw [if_neg (by rw [decide_eq_true_eq]; omega), if_neg hc]
          dsimp only
          rw [hpd]
      rw [hval, Option.bind_some, chk_pos (by simp; omega), w64_id (by omega) (by omega), List.range_succ, List.map_append]
      rfl) (by
      show fiduciallaw44_CensusShifted_s1 _ _ _ _ _ _ _ = _
      unfold fiduciallaw44_CensusShifted_s1
      dsimp only
      rw [if_neg (by rw [grid_len]; simp)])
    rw [key]
    congr 1
    refine grid_ext (by simp) (fun x y hx hy => ?_)
    have hlt := cell_lt hx hy
    have e1 : (y * W + x) % W = x := by rw [Nat.mul_comm, Nat.mul_add_mod, Nat.mod_eq_of_lt hx]
    have e2 : (y * W + x) / W = y := by rw [Nat.mul_comm, Nat.mul_add_div (by omega), Nat.div_eq_of_lt hx, Nat.add_zero]
    rw [List.getElem?_map, List.getElem?_range hlt]
    show some (shg W s g _ ((y * W + x) % W) ((y * W + x) / W)) = _
    rw [e1, e2]

theorem shg_bd (hb : Bd W H m g) {s : Nat} {b : Nat → Int} (hbb : ∀ i, 0 ≤ b i ∧ b i ≤ m) : Bd W H m (shg W s g b) := by
  obtain ⟨b1, b2, b3, b4, b5, b6, b7⟩ := hb
  refine ⟨b1, b2, b3, b4, b5, b6, fun x y hx hy => ?_⟩
  unfold shg
  split
  · exact b7 _ _ (by assumption) hy
  · exact hbb _

theorem cen_shift {s R : Nat} {b : Nat → Int} {x y : Nat} (hx : x < W) (hy : y < H) (h1 : s + R ≤ x) (h2 : x + R < W) : cen W H (shg W s g b) R (x - s) y = cen W H g R x y := by
  unfold cen
  rw [allf_congr (cmp := cmpb W H (shg W s g b) R (x - s) y) (cmp' := cmpb W H g R x y)]
  intro j i hj hi _
  unfold cmpb
  have e : inb W H (x - s) y R j i = inb W H x y R j i := by
    unfold inb
    by_cases hv : R ≤ y + j ∧ y + j < H + R
    · rw [decide_eq_true (by omega), decide_eq_true (by omega)]
    · rw [decide_eq_false (by omega), decide_eq_false (by omega)]
  rw [e]
  cases hin : inb W H x y R j i with
  | false => rfl
  | true =>
    unfold shg
    rw [if_pos (by omega), if_pos (by omega), show x - s + i - R + s = x + i - R by omega, show x - s + s = x by omega]
end

theorem zero_ix {W H D : Nat} {cc : Nat → Nat → Int} {i d : Nat} (hd : d < D) (hi : i < H * W) {z : Int} (hz : z = ((i * D + d : Nat) : Int)) (h : cc d i = 0) : ix (grid D (H * W) cc) z = some 0 := by
  rw [← h]; exact ix_get hz (grid_get D cc (H * W) d i hd hi)

theorem shifted_true (w h m : Int) (px : List Int) (p1 : Int) (border : List Int) (hp1 : 0 ≤ p1 ∧ p1 < 256) (hbd : ∀ v ∈ border, 0 ≤ v ∧ v < 256) : fiduciallaw44_CensusShifted w h m px p1 border = some true := by
  unfold fiduciallaw44_CensusShifted
  rw [known44, Option.bind_some, if_neg (by decide)]
  by_cases hn : (120 : Int) < px.length
  · rw [if_pos (decide_eq_true hn)]; rfl
  rw [if_neg (by simpa using hn)]
  rcases gcases w h m px with ⟨W, H, g, rfl, rfl, rfl, hb, _, hc⟩ | ⟨_, _, hc⟩
  rotate_left
  · rw [hc]; rfl
  rw [hc, Option.bind_some, if_neg (by decide)]
  by_cases hbl : (200 : Int) < border.length
  · rw [decide_eq_true hbl]; rfl
  rw [decide_eq_false hbl, Option.bind_some, if_neg (by decide)]
  obtain ⟨s, hs, hs3⟩ : ∃ s : Nat, Int.tmod (w64 p1) 4 = s ∧ s ≤ 3 := by
    obtain ⟨q, rfl⟩ : ∃ q : Nat, p1 = q := ⟨p1.toNat, by omega⟩
    have e1 : w64 (q : Int) = q := w64_id (by omega) (by omega)
    have e2 : Int.tmod (q : Int) 4 = ((q % 4 : Nat) : Int) := rfl
    exact ⟨q % 4, by rw [e1, e2], by omega⟩
  obtain ⟨b, hbb, hloop⟩ := shifted_eq hb hs hs3 border hbd
  have hb' := shg_bd (s := s) hb hbb
  have hD : w64 (((s : Nat) : Int) + 1) = ((s + 1 : Nat) : Int) := by rw [w64_id (by omega) (by omega)]; rfl
  obtain ⟨c0, _⟩ := Plain_good hb hb' (D := s + 1) (by omega) (by omega)
  obtain ⟨c1, _⟩ := Census_good hb hb' (r := 1) (.inl rfl) (D := s + 1) (by omega) (by omega)
  obtain ⟨c2, _⟩ := Census_good hb hb' (r := 2) (.inr rfl) (D := s + 1) (by omega) (by omega)
  have c1' : census_Census W H m (grid W H g) W H m (grid W H (shg W s g b)) 1 ((s + 1 : Nat) : Int) = _ := c1
  have c2' : census_Census W H m (grid W H g) W H m (grid W H (shg W s g b)) 2 ((s + 1 : Nat) : Int) = _ := c2
  have hlg : (grid W H g).length = H * W := grid_len _ _ _
  have hN : H * W ≤ 64 * 64 := Nat.mul_le_mul hb.2.2.2.1 hb.2.1
  have hN2 : H * W * (s + 1) ≤ 64 * 64 * 4 := Nat.mul_le_mul hN (by omega)
  have hmul := nmul (H * W) (s + 1) (by omega)
  have hgl : ∀ cc, (grid (s + 1) (H * W) cc).length = H * W * (s + 1) := fun cc => grid_len _ _ _
  simp only [hloop, hs, hD, c0, c1', c2', Option.bind_some, hlg, hmul, hgl]
  rw [if_neg (by decide), if_neg (by simp), if_neg (by simp)]
  simp only [Option.bind_some, bne_self_eq_false, Bool.false_eq_true, if_false]
  have hW : 0 < W := hb.1
  rw [loop_go (s0 := 0) (step := fun q => fiduciallaw44_CensusShifted_s2 W (grid W H g) p1 (grid (s + 1) (H * W) (cst W (pf W g (shg W s g b)) (m + 1))) (grid (s + 1) (H * W) (cst W (hf W H 1 g (shg W s g b)) (nv 1))) (grid (s + 1) (H * W) (cst W (hf W H 2 g (shg W s g b)) (nv 2))) q) (fun i => (i : Int)) (H * W) (by unfold FUEL; omega) rfl (x := .inr ()) (fun i hi => by
    unfold fiduciallaw44_CensusShifted_s2
    have hm : Int.tmod (i : Int) (W : Int) = ((i % W : Nat) : Int) := rfl
    have hpd := pos_div (W := W) (i := i) hW
    have hml := mod_le' (i := i) (W := W)
    obtain ⟨i1, i2⟩ := in_grid (H := H) hW hi
    have hcl := cell_lt (W := s + 1) (x := s) (by omega) hi
    have e1 := nmul i (s + 1) (by have : i * (s + 1) ≤ H * W * (s + 1) := Nat.mul_le_mul_right _ (by omega); omega)
    have e2 : w64 (((i * (s + 1) : Nat) : Int) + (s : Int)) = ((i * (s + 1) + s : Nat) : Int) := by rw [w64_id (by omega) (by omega)]; rfl
    have e3 : w64 ((W : Int) - 1) = (W : Int) - 1 := w64_id (by have := hb.2.1; omega) (by have := hb.2.1; omega)
    have e4 : w64 ((W : Int) - 2) = (W : Int) - 2 := w64_id (by have := hb.2.1; omega) (by have := hb.2.1; omega)
    have e5 : w64 (((s : Nat) : Int) + 2) = ((s + 2 : Nat) : Int) := by rw [w64_id (by omega) (by omega)]; rfl
    have hsub : ∀ (hx : s ≤ i % W), (i - s) % W = i % W - s ∧ (i - s) / W = i / W := fun hx => by
      have h4 : i - s = i / W * W + (i % W - s) := by omega
      exact ⟨by rw [h4, Nat.mul_comm, Nat.mul_add_mod, Nat.mod_eq_of_lt (by omega)], by rw [h4, Nat.mul_comm, Nat.mul_add_div hW, Nat.div_eq_of_lt (by omega : i % W - s < W), Nat.add_zero]⟩
    have q0 : s ≤ i % W → ix (grid (s + 1) (H * W) (cst W (pf W g (shg W s g b)) (m + 1))) ((i * (s + 1) + s : Nat) : Int) = some 0 := fun hx => zero_ix (by omega) hi rfl (by
      unfold cst
      rw [if_pos hx]
      unfold pf
      rw [(hsub hx).1, (hsub hx).2]
      unfold shg
      rw [if_pos (by omega), show i % W - s + s = i % W by omega]
      have := hb.2.2.2.2.2.2 _ _ i1 i2
      have := hb.2.2.2.2.2.1
      exact df_self (by omega))
    have qc : ∀ R : Nat, s + R ≤ i % W → i % W + R < W → ix (grid (s + 1) (H * W) (cst W (hf W H R g (shg W s g b)) (nv R))) ((i * (s + 1) + s : Nat) : Int) = some 0 := fun R hx hx2 => zero_ix (by omega) hi rfl (by
      unfold cst
      rw [if_pos (by omega)]
      unfold hf ci
      rw [(hsub (by omega)).1, (hsub (by omega)).2, cen_shift i1 i2 hx hx2, pc_self]
      rfl)
    rw [if_pos (decide_eq_true (by rw [hlg]; omega)), chk_pos (by omega)]
    simp only [hm, hs, hD, e1, e2, e3, e4, e5]
    have n0 : ((0 : Int) != 0) = false := rfl
    by_cases a0 : s ≤ i % W
    · have A0 : decide (((s : Nat) : Int) ≤ ((i % W : Nat) : Int)) = true := decide_eq_true (by omega)
      by_cases a1 : s + 1 ≤ i % W
      · have A1 : decide (((s + 1 : Nat) : Int) ≤ ((i % W : Nat) : Int)) = true := decide_eq_true (by omega)
        by_cases a2 : i % W + 1 < W
        · have A2 : decide (((i % W : Nat) : Int) < (W : Int) - 1) = true := decide_eq_true (by omega)
          by_cases a3 : s + 2 ≤ i % W
          · have A3 : decide (((s + 2 : Nat) : Int) ≤ ((i % W : Nat) : Int)) = true := decide_eq_true (by omega)
            by_cases a4 : i % W + 2 < W
            · have A4 : decide (((i % W : Nat) : Int) < (W : Int) - 2) = true := decide_eq_true (by omega)
              simp only [A0, A1, A2, A3, A4, q0 a0, qc 1 a1 a2, qc 2 a3 a4, n0, if_true, Option.bind_some, Bool.false_eq_true, if_false]
              rw [w64_id (by omega) (by omega)]; rfl
            · have A4 : decide (((i % W : Nat) : Int) < (W : Int) - 2) = false := decide_eq_false (by omega)
              simp only [A0, A1, A2, A3, A4, q0 a0, qc 1 a1 a2, n0, if_true, Option.bind_some, Bool.false_eq_true, if_false]
              rw [w64_id (by omega) (by omega)]; rfl
          · have A3 : decide (((s + 2 : Nat) : Int) ≤ ((i % W : Nat) : Int)) = false := decide_eq_false (by omega)
            simp only [A0, A1, A2, A3, q0 a0, qc 1 a1 a2, n0, if_true, Option.bind_some, Bool.false_eq_true, if_false]
            rw [w64_id (by omega) (by omega)]; rfl
        · have A2 : decide (((i % W : Nat) : Int) < (W : Int) - 1) = false := decide_eq_false (by omega)
          have A4 : decide (((i % W : Nat) : Int) < (W : Int) - 2) = false := decide_eq_false (by omega)
          simp only [A0, A1, A2, A4, q0 a0, n0, if_true, Option.bind_some, Bool.false_eq_true, if_false, ite_self]
          rw [w64_id (by omega) (by omega)]; rfl
      · have A1 : decide (((s + 1 : Nat) : Int) ≤ ((i % W : Nat) : Int)) = false := decide_eq_false (by omega)
        have A3 : decide (((s + 2 : Nat) : Int) ≤ ((i % W : Nat) : Int)) = false := decide_eq_false (by omega)
        simp only [A0, A1, A3, q0 a0, n0, if_true, Option.bind_some, Bool.false_eq_true, if_false]
        rw [w64_id (by omega) (by omega)]; rfl
    · have A0 : decide (((s : Nat) : Int) ≤ ((i % W : Nat) : Int)) = false := decide_eq_false (by omega)
      have A1 : decide (((s + 1 : Nat) : Int) ≤ ((i % W : Nat) : Int)) = false := decide_eq_false (by omega)
      have A3 : decide (((s + 2 : Nat) : Int) ≤ ((i % W : Nat) : Int)) = false := decide_eq_false (by omega)
      simp only [A0, A1, A3, n0, if_true, Option.bind_some, Bool.false_eq_true, if_false]
      rw [w64_id (by omega) (by omega)]; rfl) (by
    unfold fiduciallaw44_CensusShifted_s2
    rw [if_neg (by rw [hlg]; simp)])]
  rfl

end Go.Proofs.Ytmeopehknkfnbaa
