/-
  PLAIN, chapter 13: histograms.
-/
import Derived.Test.YtoflllddpoonbaaP13f
set_option linter.unusedSimpArgs false
namespace Go.Proofs.Ytoflllddpoonbaa
open Go.E

/-- How often k stands in a list. -/
def cnt (l : List Int) (k : Nat) : Int := ((l.filter (fun v => v == (k : Int))).length : Int)

theorem cnt_snoc (l : List Int) (v : Int) (k : Nat) : cnt (l ++ [v]) k = cnt l k + (if v = (k : Int) then 1 else 0) := by
  unfold cnt
  rw [List.filter_append, List.length_append]
  by_cases h : v = (k : Int)
  · simp [h]
  · simp [h]

theorem cnt_le (l : List Int) (k : Nat) : 0 ≤ cnt l k ∧ cnt l k ≤ l.length := by
  unfold cnt
  have := List.length_filter_le (fun v => v == (k : Int)) l
  omega

theorem hist_good {w h m : Int} {px : List Int} (hg : Good w h m px) : raster_Histogram w h m px = some ((List.range (m + 1).toNat).map (fun k => cnt px k), 0) := by
  have ck := check_good hg
  obtain ⟨h1, h2, h3, h4, h5, h6, h7, h8⟩ := hg
  have hm := mul_le64 (by omega : 0 ≤ w) h2 (by omega : 0 ≤ h) h4
  unfold raster_Histogram
  rw [ck]
  have e1 : w64 (m + 1) = m + 1 := w64_id (by omega) (by omega)
  have key : ∃ l, loopM FUEL (fun s : List Int × Int => raster_Histogram_s1 px s.1 s.2) (List.replicate (m + 1).toNat (0 : Int), 0) = some l ∧ l = (List.range (m + 1).toNat).map (fun k => cnt px k) := by
    refine loop_inv (fun i s => s = ((List.range (m + 1).toNat).map (fun k => cnt (px.take i) k), (i : Int)) ∧ i ≤ px.length) _ px.length (by unfold FUEL; omega) _ ⟨?_, by omega⟩ ?_
    · congr 1
      apply List.ext_getElem
      · simp
      · intro j _ _; simp [cnt]
    · rintro i s ⟨rfl, hi⟩
      unfold raster_Histogram_s1
      by_cases hlt : i < px.length
      · have hb := h8 px[i] (List.getElem_mem hlt)
        refine .inl ⟨((List.range (m + 1).toNat).map (fun k => cnt (px.take (i + 1)) k), ((i + 1 : Nat) : Int)), ?_, ⟨rfl, hlt⟩, hlt⟩
        show (if decide ((i : Int) < (px.length : Int)) = true then _ else _) = _
        rw [if_pos (by simpa using hlt), ix_lt px i hlt, Option.bind_some]
        have hk : (px[i]).toNat < (m + 1).toNat := by omega
        have hget : ((List.range (m + 1).toNat).map (fun k => cnt (px.take i) k))[(px[i]).toNat]? = some (cnt (px.take i) (px[i]).toNat) := by
          rw [List.getElem?_map, List.getElem?_range hk]; rfl
        rw [ix_get (i := (px[i]).toNat) (by omega) hget, Option.bind_some, chk_pos (by simp; omega)]
        have hc := cnt_le (px.take i) (px[i]).toNat
        have hlen : (px.take i).length ≤ i := by simp; omega
        show some (Step.next (_, w64 ((i : Int) + 1))) = _
        rw [w64_id (z := (i : Int) + 1) (by omega) (by omega), w64_id (by omega) (by omega)]
        congr 2
        refine Prod.ext ?_ (by simp)
        apply List.ext_getElem?
        intro j
        by_cases hj : j < (m + 1).toNat
        · have e3 : px.take (i + 1) = px.take i ++ [px[i]] := by rw [List.take_add_one, List.getElem?_eq_getElem hlt]; rfl
          rw [List.getElem?_map, List.getElem?_range hj, Option.map_some, e3, cnt_snoc]
          by_cases he : j = (px[i]).toNat
          · subst he
            rw [List.getElem?_set_self (by simp; omega), if_pos (by omega)]
          · rw [List.getElem?_set_ne (by omega), List.getElem?_map, List.getElem?_range hj, if_neg (by omega)]
            simp
        · rw [List.getElem?_eq_none (by simp; omega), List.getElem?_eq_none (by simp; omega)]
      · obtain rfl : i = px.length := by omega
        refine .inr ⟨_, by rw [if_neg (by simp)], ?_⟩
        simp
  obtain ⟨l, k1, rfl⟩ := key
  rw [e1, chk_pos (by omega), k1]
  rfl

theorem count_good {w h m : Int} {px : List Int} (hl : px.length ≤ 1000000) (k : Nat) : fiducialref13_Count w h m px k = some (cnt px k) := by
  have key : ∃ c, loopM FUEL (fun s : Int × Int => fiducialref13_Count_s1 px k s.1 s.2) (0, 0) = some c ∧ c = cnt px k := by
    refine loop_inv (fun i s => s = (cnt (px.take i) k, (i : Int)) ∧ i ≤ px.length) _ px.length (by unfold FUEL; omega) _ ⟨by simp [cnt], by omega⟩ ?_
    rintro i s ⟨rfl, hi⟩
    unfold fiducialref13_Count_s1
    by_cases hlt : i < px.length
    · refine .inl ⟨(cnt (px.take (i + 1)) k, ((i + 1 : Nat) : Int)), ?_, ⟨rfl, hlt⟩, hlt⟩
      show (if decide ((i : Int) < (px.length : Int)) = true then _ else _) = _
      rw [if_pos (by simpa using hlt), ix_lt px i hlt, Option.bind_some]
      have hc := cnt_le (px.take i) k
      have hlen : (px.take i).length ≤ i := by simp; omega
      have e3 : px.take (i + 1) = px.take i ++ [px[i]] := by rw [List.take_add_one, List.getElem?_eq_getElem hlt]; rfl
      rw [e3, cnt_snoc]
      by_cases he : px[i] = (k : Int)
      · rw [if_pos (by simpa using he), if_pos he]
        show some (Step.next (w64 (cnt (px.take i) k + 1), w64 ((i : Int) + 1))) = _
        rw [w64_id (by omega) (by omega), w64_id (by omega) (by omega)]; simp
      · rw [if_neg (by simpa using he), if_neg he]
        show some (Step.next (cnt (px.take i) k, w64 ((i : Int) + 1))) = _
        rw [w64_id (by omega) (by omega)]; simp
    · obtain rfl : i = px.length := by omega
      refine .inr ⟨cnt (px.take px.length) k, ?_, by simp⟩
      show (if decide ((px.length : Int) < (px.length : Int)) = true then _ else _) = _
      rw [if_neg (by simp)]
  obtain ⟨c, k1, rfl⟩ := key
  unfold fiducialref13_Count
  rw [k1]; rfl

theorem cnt_grid_row (W : Nat) (f : Nat → Int) (k : Nat) : cnt ((List.range W).map f) k = ((List.range W).filter (fun x => f x == (k : Int))).length := by
  unfold cnt
  rw [List.filter_map, List.length_map]
  rfl

theorem cnt_append (a b : List Int) (k : Nat) : cnt (a ++ b) k = cnt a k + cnt b k := by
  unfold cnt; rw [List.filter_append, List.length_append]; simp

/-- The sum of a function over the numbers below n. -/
def tot (f : Nat → Int) : Nat → Int
  | 0 => 0
  | n + 1 => tot f n + f n

theorem cnt_row (f : Nat → Int) (k : Nat) : ∀ W : Nat, cnt ((List.range W).map f) k = tot (fun x => if f x = (k : Int) then 1 else 0) W
  | 0 => by simp [cnt, tot]
  | W + 1 => by rw [List.range_succ, List.map_append, List.map_cons, List.map_nil, cnt_snoc, cnt_row f k W]; rfl

theorem cnt_grid (W : Nat) (g : Nat → Nat → Int) (k : Nat) : ∀ H : Nat, cnt (grid W H g) k = tot (fun y => tot (fun x => if g x y = (k : Int) then 1 else 0) W) H
  | 0 => by simp [grid, cnt, tot]
  | H + 1 => by rw [grid_succ, cnt_append, cnt_grid W g k H, cnt_row]; rfl

theorem tot_add (f g : Nat → Int) : ∀ n, tot (fun i => f i + g i) n = tot f n + tot g n
  | 0 => rfl
  | n + 1 => by simp only [tot, tot_add f g n]; omega
theorem tot_congr {f g : Nat → Int} : ∀ n, (∀ i, i < n → f i = g i) → tot f n = tot g n
  | 0, _ => rfl
  | n + 1, h => by simp only [tot]; rw [tot_congr n (fun i hi => h i (by omega)), h n (by omega)]
theorem tot_zero : ∀ n, tot (fun _ => 0) n = 0
  | 0 => rfl
  | n + 1 => by simp only [tot, tot_zero n]; rfl
theorem tot_swap (f : Nat → Nat → Int) (H : Nat) : ∀ W : Nat, tot (fun y => tot (fun x => f x y) W) H = tot (fun x => tot (fun y => f x y) H) W
  | 0 => by simp only [tot]; exact tot_zero H
  | W + 1 => by
    simp only [tot]
    rw [tot_add, tot_swap f H W]
theorem tot_front (f : Nat → Int) : ∀ n, tot f (n + 1) = f 0 + tot (fun i => f (i + 1)) n
  | 0 => by simp [tot]
  | n + 1 => by rw [tot, tot_front f n]; simp only [tot]; omega
theorem tot_rev (f : Nat → Int) : ∀ n, tot (fun i => f (n - 1 - i)) n = tot f n
  | 0 => rfl
  | n + 1 => by
    rw [tot_front]
    have : tot (fun i => f (n + 1 - 1 - (i + 1))) n = tot (fun i => f (n - 1 - i)) n := tot_congr n (fun i hi => by congr 1; omega)
    rw [this, tot_rev f n]
    simp only [tot, Nat.add_sub_cancel, Nat.sub_zero]
    omega

theorem cnt_turn (W H : Nat) (g : Nat → Nat → Int) (k : Nat) : cnt (grid H W (fun x y => g (W - 1 - y) x)) k = cnt (grid W H g) k := by
  rw [cnt_grid, cnt_grid]
  have := tot_rev (fun y => tot (fun x => if g y x = (k : Int) then 1 else 0) H) W
  rw [this]
  exact (tot_swap (fun x y => if g x y = (k : Int) then 1 else 0) H W).symm

theorem hist_bad {w h m : Int} {px : List Int} (hg : ¬ Good w h m px) : raster_Histogram w h m px = some ([], 1) := by
  unfold raster_Histogram
  rw [check_bad hg]
  simp

theorem hist_true (w h m : Int) (px : List Int) : fiduciallaw13_RasterHistograms w h m px = some true := by
  unfold fiduciallaw13_RasterHistograms
  rw [known_ok, Option.bind_some]
  simp only [Bool.not_true, Bool.false_eq_true, if_false]
  rw [few_one, Option.bind_some]
  by_cases hb : 600 < (px.length : Int)
  · simp [hb]
  by_cases hm9 : 600 < m
  · simp [hb, hm9]
  simp only [hb, hm9, decide_false, Bool.not_false, Bool.not_true, Bool.false_eq_true, if_false, Option.bind_some]
  by_cases hg : Good w h m px
  · obtain ⟨W, H, g, rfl, rfl, rfl, bd⟩ := hg.grid
    have hWH := bd
    obtain ⟨b1, b2, b3, b4, b5, b6, _⟩ := hWH
    have e1 : w64 (m + 1) = m + 1 := w64_id (by omega) (by omega)
    have hle := grid_le b2 b4 g
    have hL : (((List.range (m + 1).toNat).map (fun k => cnt (grid W H g) k)).length : Int) = m + 1 := by simp; omega
    have hloop : ∃ x, loopM FUEL (fun s => fiduciallaw13_RasterHistograms_s1 W H m (grid W H g) ((List.range (m + 1).toNat).map (fun k => cnt (grid W H g) k)) s) 0 = some x ∧ x = .inr () := by
      refine loop_inv (fun i s => s = (i : Int) ∧ i ≤ (m + 1).toNat) _ (m + 1).toNat (by unfold FUEL; omega) _ ⟨rfl, by omega⟩ ?_
      rintro i s ⟨rfl, hi⟩
      unfold fiduciallaw13_RasterHistograms_s1
      by_cases hlt : i < (m + 1).toNat
      · refine .inl ⟨((i + 1 : Nat) : Int), ?_, ⟨rfl, hlt⟩, hlt⟩
        rw [if_pos (by rw [decide_eq_true_iff, hL]; omega)]
        have hget : ((List.range (m + 1).toNat).map (fun k => cnt (grid W H g) k))[i]? = some (cnt (grid W H g) i) := by
          rw [List.getElem?_map, List.getElem?_range hlt]; rfl
        rw [ix_get (i := i) rfl hget, Option.bind_some, count_good hle, Option.bind_some]
        rw [if_neg (by simp), w64_id (by omega) (by omega)]; simp
      · exact .inr ⟨_, by rw [if_neg (by rw [decide_eq_true_iff, hL]; omega)], rfl⟩
    obtain ⟨x, hx, rfl⟩ := hloop
    have e7 : (List.range (m + 1).toNat).map (fun k => cnt (grid H W (fun x y => g (W - 1 - y) x)) k) = (List.range (m + 1).toNat).map (fun k => cnt (grid W H g) k) := by
      congr 1
      funext k
      exact cnt_turn W H g k
    rw [hist_good hg, Option.bind_some, refcheck_good hg, Option.bind_some]
    simp only [bne_self_eq_false, Bool.false_eq_true, if_false, hL, e1, Option.bind_some, hx]
    rw [turn_grid bd, Option.bind_some]
    dsimp only
    rw [hist_good bd.turn.good, Option.bind_some]
    dsimp only
    rw [e7, sequal _ _ (by simp; omega)]
    simp
  · rw [hist_bad hg, refcheck_bad hg]
    simp

end Go.Proofs.Ytoflllddpoonbaa
