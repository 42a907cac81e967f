/-
  PLAIN, chapter 13: maps.
-/
import Derived.Test.YtoflllddpoonbaaP13d
set_option linter.unusedSimpArgs false
namespace Go.Proofs.Ytoflllddpoonbaa
open Go.E

theorem setall {n : Nat} (hn : n ≤ 1000000) (step : (List Int × Int) → Option (Step (List Int × Int) (List Int))) (f : Nat → Int) (l0 : List Int) (hl : l0.length = n)
    (h2 : ∀ (i : Nat) l, i < n → l.length = n → step (l, (i : Int)) = some (.next (l.set i (f i), ((i + 1 : Nat) : Int))))
    (hd : ∀ l, step (l, (n : Int)) = some (.done l)) : loopM FUEL step (l0, 0) = some ((List.range n).map f) := by
  have key : ∃ l, loopM FUEL step (l0, 0) = some l ∧ l = (List.range n).map f := by
    refine loop_inv (fun i s => ∃ l, s = (l, (i : Int)) ∧ i ≤ n ∧ l.length = n ∧ ∀ j, j < i → l[j]? = some (f j)) _ n (by unfold FUEL; omega) _ ⟨l0, rfl, by omega, hl, fun j hj => by omega⟩ ?_
    rintro i s ⟨l, rfl, hi, hlen, hall⟩
    by_cases hlt : i < n
    · refine .inl ⟨_, h2 i l hlt hlen, ⟨_, rfl, hlt, by rw [List.length_set, hlen], fun j hj => ?_⟩, hlt⟩
      rcases Nat.lt_succ_iff_lt_or_eq.1 hj with h | rfl
      · rw [List.getElem?_set_ne (by omega)]
        exact hall j h
      · rw [List.getElem?_set_self (by omega)]
    · obtain rfl : i = n := by omega
      refine .inr ⟨_, hd l, ?_⟩
      apply List.ext_getElem?
      intro j
      by_cases hj : j < i
      · rw [hall j hj]; simp [hj]
      · rw [List.getElem?_eq_none (by omega), List.getElem?_eq_none (by simp; omega)]
  obtain ⟨l, h1, rfl⟩ := key
  exact h1

theorem map_grid {W H : Nat} (g : Nat → Nat → Int) (F : Int → Int) : (List.range (grid W H g).length).map (fun i => F ((grid W H g).getD i 0)) = grid W H (fun x y => F (g x y)) := by
  apply grid_ext
  · simp [grid_len]
  · intro x y hx hy
    have hlt := cell_lt hx hy
    have := grid_get W g H x y hx hy
    rw [List.getElem?_map, List.getElem?_range (by rw [grid_len]; exact hlt)]
    simp only [Option.map_some]
    rw [List.getD_eq_getElem?_getD, this]
    rfl

theorem getD_of {l : List Int} {i : Nat} (h : i < l.length) : l[i] = l.getD i 0 := by simp [h]

theorem map_good {W H : Nat} {m : Int} {g : Nat → Nat → Int} (bd : Bd W H m g) {tb : List Int} (hl : (tb.length : Int) = m + 1) (hb : ∀ v ∈ tb, 0 ≤ v ∧ v ≤ m) :
    raster_Map W H m (grid W H g) tb = some ((W : Int), (H : Int), m, grid W H (fun x y => tb.getD (g x y).toNat 0), 0) := by
  have ck := check_good bd.good
  obtain ⟨b1, b2, b3, b4, b5, b6, b7⟩ := bd
  unfold raster_Map
  rw [ck]
  have e1 : w64 (m + 1) = m + 1 := w64_id (by omega) (by omega)
  have an : slices_ContainsFunc_sint tb (fun z10 => raster_Map_c1 z10 W H m (grid W H g)) = some (tb.any (fun z => decide (z < 0) || decide (m < z))) :=
    any_int (g := fun z => decide (z < 0) || decide (m < z)) (fun z => by unfold raster_Map_c1; by_cases hz : z < 0 <;> simp [hz]) (by omega)
  have e5 : tb.any (fun z => decide (z < 0) || decide (m < z)) = false := by
    rw [List.any_eq_false]
    intro v hv
    have := hb v hv
    simp; omega
  rw [e5] at an
  have := made_grid (W := W) (H := H) b2 b4 m (f := fun z14 z15 => raster_Map_c2 z14 z15 tb W H m (grid W H g)) (g := fun x y => tb.getD (g x y).toNat 0) (fun x y hx hy => by
    unfold raster_Map_c2
    have hgb := b7 x y hx hy
    rw [at_grid b2 b4 g H m _ _ x y hx hy rfl rfl, Option.bind_some]
    have hlt : (g x y).toNat < tb.length := by omega
    rw [ix_get (i := (g x y).toNat) (by omega) (List.getElem?_eq_getElem hlt), getD_of hlt]
    rfl)
  simp [e1, hl, an, this]

theorem refmap_good {W H : Nat} {m : Int} {g : Nat → Nat → Int} (bd : Bd W H m g) {tb : List Int} (hl : (tb.length : Int) = m + 1) :
    fiducialref13_Map W H m (grid W H g) tb = some ((W : Int), (H : Int), m, grid W H (fun x y => tb.getD (g x y).toNat 0)) := by
  obtain ⟨b1, b2, b3, b4, b5, b6, b7⟩ := bd
  have hle := grid_le b2 b4 g
  unfold fiducialref13_Map
  rw [refcopy_grid b2 b4]
  have := setall hle (fun s => fiducialref13_Map_s1 (grid W H g) tb s.1 s.2) (fun i => tb.getD ((grid W H g).getD i 0).toNat 0) (grid W H g) rfl
    (fun i l hi hlen => by
      show (if decide ((i : Int) < ((grid W H g).length : Int)) = true then _ else _) = _
      rw [if_pos (by simpa using hi), ix_lt _ i hi, Option.bind_some]
      obtain ⟨x, y, hx, hy, hv⟩ := grid_mem (List.getElem_mem hi)
      have hgb := b7 x y hx hy
      rw [← hv] at hgb
      have hlt : ((grid W H g)[i]).toNat < tb.length := by omega
      rw [ix_get (i := ((grid W H g)[i]).toNat) (by omega) (List.getElem?_eq_getElem hlt), Option.bind_some]
      show chk (0 ≤ (i : Int) ∧ (i : Int) < (l.length : Int)) (some (Step.next (l.set (i : Int).toNat _, w64 ((i : Int) + 1)))) = _
      rw [chk_pos (by omega), w64_id (by omega) (by omega), Int.toNat_natCast, getD_of hlt, getD_of hi]
      simp)
    (fun l => by
      show (if decide (((grid W H g).length : Int) < ((grid W H g).length : Int)) = true then _ else _) = _
      rw [if_neg (by simp)])
  show (loopM FUEL _ _).bind _ = _
  rw [this, map_grid g (fun v => tb.getD v.toNat 0)]
  rfl

theorem maps_true (w h m : Int) (px tb : List Int) : fiduciallaw13_RasterMaps w h m px tb = some true := by
  unfold fiduciallaw13_RasterMaps
  rw [known_ok, Option.bind_some]
  simp only [Bool.not_true, Bool.false_eq_true, if_false]
  rw [few_one, Option.bind_some]
  by_cases hb : 600 < (px.length : Int)
  · simp [hb]
  by_cases ht : 600 < (tb.length : Int)
  · simp [hb, ht]
  simp only [hb, ht, decide_false, Bool.not_false, Bool.not_true, Bool.false_eq_true, if_false, Option.bind_some]
  by_cases hg : Good w h m px
  · obtain ⟨W, H, g, rfl, rfl, rfl, bd⟩ := hg.grid
    have hWH := bd
    obtain ⟨b1, b2, b3, b4, b5, b6, _⟩ := hWH
    have e1 : w64 (m + 1) = m + 1 := w64_id (by omega) (by omega)
    rw [refcheck_good hg]
    have an1 : slices_ContainsFunc_sint tb (fun z10 => raster_Map_c1 z10 W H m (grid W H g)) = some (tb.any (fun z => decide (z < 0) || decide (m < z))) :=
      any_int (g := fun z => decide (z < 0) || decide (m < z)) (fun z => by unfold raster_Map_c1; by_cases hz : z < 0 <;> simp [hz]) (by omega)
    have an2 : slices_ContainsFunc_sint tb (fun z10 => fiduciallaw13_RasterMaps_c1 z10 W H m (grid W H g)) = some (tb.any (fun z => decide (z < 0) || decide (m < z))) :=
      any_int (g := fun z => decide (z < 0) || decide (m < z)) (fun z => by unfold fiduciallaw13_RasterMaps_c1; by_cases hz : z < 0 <;> simp [hz]) (by omega)
    by_cases hl : (tb.length : Int) = m + 1
    · by_cases hbd : ∀ v ∈ tb, 0 ≤ v ∧ v ≤ m
      · have e5 : tb.any (fun z => decide (z < 0) || decide (m < z)) = false := by
          rw [List.any_eq_false]
          intro v hv
          have := hbd v hv
          simp; omega
        rw [e5] at an2
        have eqs := refeq_same (W : Int) (H : Int) m _ (grid_le b2 b4 (fun x y => tb.getD (g x y).toNat 0))
        rw [map_good bd hl hbd]
        simp only [Option.bind_some, beq_self_eq_true, if_true, hl, e1, an2, refmap_good bd hl, eqs, bne_self_eq_false, Bool.false_eq_true, if_false]
      · have e5 : tb.any (fun z => decide (z < 0) || decide (m < z)) = true := by
          by_cases h9 : tb.any (fun z => decide (z < 0) || decide (m < z)) = true
          · exact h9
          · exfalso
            apply hbd
            intro v hv
            rw [Bool.not_eq_true] at h9
            have := List.any_eq_false.1 h9 v hv
            simp at this
            omega
        rw [e5] at an1 an2
        have e6 : raster_Map W H m (grid W H g) tb = some (0, 0, 0, [], 2) := by
          unfold raster_Map
          rw [check_good hg]
          simp [e1, hl, an1]
        rw [e6]
        simp [e1, hl, an2, empty_ok]
    · have e6 : raster_Map W H m (grid W H g) tb = some (0, 0, 0, [], 4) := by
        unfold raster_Map
        rw [check_good hg]
        simp [e1, hl]
      rw [e6]
      simp [e1, hl, empty_ok]
  · have e6 : raster_Map w h m px tb = some (0, 0, 0, [], 1) := by
      unfold raster_Map
      rw [check_bad hg]
      simp
    rw [e6, refcheck_bad hg]
    simp [empty_ok]

end Go.Proofs.Ytoflllddpoonbaa
