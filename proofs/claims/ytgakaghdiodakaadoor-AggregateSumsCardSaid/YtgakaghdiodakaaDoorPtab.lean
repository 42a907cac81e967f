/-
  PLAIN: tables made row by row, rows turned entry by entry, lists turned round.
-/
import Derived.Test.YtgakaghdiodakaaDoorP50a
set_option linter.unusedSimpArgs false
set_option linter.unusedVariables false
namespace Go.E

/-! ### Tables made from the last row up -/

def upT (W H : Nat) (F : Nat → Nat → Int) (i : Nat) : List (List Int) := (List.range H).map fun y => if H - i ≤ y then row W (F y) else []
theorem upT_len (W H : Nat) (F : Nat → Nat → Int) (i : Nat) : (upT W H F i).length = H := by simp [upT]
theorem upT_get (W H : Nat) (F : Nat → Nat → Int) (i : Nat) {y : Nat} (hy : y < H) : (upT W H F i)[y]? = some (if H - i ≤ y then row W (F y) else []) := by simp [upT, hy]

theorem up_loop {W H : Nat} (hW : W ≤ 1000) (hH : H ≤ 1000) (F : Nat → Nat → Int) (step1 : List (List Int) × Int → Option (Step (List (List Int) × Int) (List (List Int)))) (step2 : Nat → List (List Int) × Int → Option (Step (List (List Int) × Int) (List (List Int))))
    (h1 : ∀ (y : Nat) l r, y < H → loopM FUEL (step2 y) (l, 0) = some r → step1 (l, (y : Int)) = some (.next (r, (y : Int) - 1)))
    (h1d : ∀ l, step1 (l, -1) = some (.done l))
    (h2 : ∀ (y x : Nat) l, y < H → x < W → l.length = H → l[y]? = some (row x (F y)) → (y + 1 < H → l[y + 1]? = some (row W (F (y + 1)))) → step2 y (l, (x : Int)) = some (.next (l.set y (row (x + 1) (F y)), ((x + 1 : Nat) : Int))))
    (h2d : ∀ (y : Nat) l, y < H → step2 y (l, (W : Int)) = some (.done l)) :
    loopM FUEL step1 (List.replicate H [], (H : Int) - 1) = some (tbl W H F) := by
  refine loop_go (fun i => (upT W H F i, (H : Int) - 1 - (i : Int))) H (by unfold FUEL; omega) ?_ (fun i hi => ?_) ?_
  · have e : List.replicate H [] = upT W H F 0 := by
      apply List.ext_getElem?
      intro y
      by_cases hy : y < H
      · rw [upT_get _ _ _ _ hy, if_neg (by omega), List.getElem?_replicate, if_pos hy]
      · rw [List.getElem?_eq_none (by simp; omega), List.getElem?_eq_none (by rw [upT_len]; omega)]
    rw [e]
    simp
  · have ey : (H : Int) - 1 - (i : Int) = ((H - 1 - i : Nat) : Int) := by omega
    have hl : loopM FUEL (step2 (H - 1 - i)) (upT W H F i, 0) = some (upT W H F (i + 1)) := by
      refine loop_go (fun x => ((upT W H F i).set (H - 1 - i) (row x (F (H - 1 - i))), (x : Int))) W (by unfold FUEL; omega) ?_ (fun x hx => ?_) ?_
      · have e : upT W H F i = (upT W H F i).set (H - 1 - i) (row 0 (F (H - 1 - i))) := by
          apply List.ext_getElem?
          intro y
          rw [List.getElem?_set]
          split
          · subst y
            rw [upT_get _ _ _ _ (by omega), if_neg (by omega), if_pos (by rw [upT_len]; omega)]
            rfl
          · rfl
        rw [← e]
        rfl
      · show step2 (H - 1 - i) (_, (x : Int)) = _
        rw [h2 (H - 1 - i) x _ (by omega) hx (by rw [List.length_set, upT_len]) (by rw [List.getElem?_set_self (by rw [upT_len]; omega)])
          (fun h => by rw [List.getElem?_set_ne (by omega), upT_get _ _ _ _ h, if_pos (by omega)]), List.set_set]
      · show step2 (H - 1 - i) (_, (W : Int)) = _
        rw [h2d _ _ (by omega)]
        congr 2
        apply List.ext_getElem?
        intro y
        rw [List.getElem?_set]
        split
        · subst y
          rw [if_pos (by rw [upT_len]; omega), upT_get _ _ _ _ (by omega), if_pos (by omega)]
        · by_cases hy : y < H
          · rw [upT_get _ _ _ _ hy, upT_get _ _ _ _ hy]
            by_cases hq : H - i ≤ y
            · rw [if_pos hq, if_pos (by omega)]
            · rw [if_neg hq, if_neg (by omega)]
          · rw [List.getElem?_eq_none (by rw [upT_len]; omega), List.getElem?_eq_none (by rw [upT_len]; omega)]
    show step1 (upT W H F i, (H : Int) - 1 - (i : Int)) = some (Step.next (_, (H : Int) - 1 - ((i + 1 : Nat) : Int)))
    rw [ey, h1 _ _ _ (by omega) hl]
    congr 3
    omega
  · show step1 (upT W H F H, (H : Int) - 1 - (H : Int)) = _
    rw [show (H : Int) - 1 - (H : Int) = -1 by omega, h1d]
    congr 2
    apply List.ext_getElem?
    intro y
    by_cases hy : y < H
    · rw [upT_get _ _ _ _ hy, if_pos (by omega), tbl_get _ _ _ hy]
    · rw [List.getElem?_eq_none (by rw [upT_len]; omega), List.getElem?_eq_none (by rw [tbl_len]; omega)]

/-! ### Tables made from the first row down -/

def dnT (W H : Nat) (F : Nat → Nat → Int) (i : Nat) : List (List Int) := (List.range H).map fun y => if y < i then row W (F y) else []
theorem dnT_len (W H : Nat) (F : Nat → Nat → Int) (i : Nat) : (dnT W H F i).length = H := by simp [dnT]
theorem dnT_get (W H : Nat) (F : Nat → Nat → Int) (i : Nat) {y : Nat} (hy : y < H) : (dnT W H F i)[y]? = some (if y < i then row W (F y) else []) := by simp [dnT, hy]

theorem tab_loop {W H : Nat} (hW : W ≤ 1000) (hH : H ≤ 1000) (F : Nat → Nat → Int) (step1 : List (List Int) × Int → Option (Step (List (List Int) × Int) (List (List Int)))) (step2 : Nat → List (List Int) × Int → Option (Step (List (List Int) × Int) (List (List Int))))
    (h1 : ∀ (y : Nat) l r, y < H → loopM FUEL (step2 y) (l, 0) = some r → step1 (l, (y : Int)) = some (.next (r, ((y + 1 : Nat) : Int))))
    (h1d : ∀ l, step1 (l, (H : Int)) = some (.done l))
    (h2 : ∀ (y x : Nat) l, y < H → x < W → l.length = H → l[y]? = some (row x (F y)) → step2 y (l, (x : Int)) = some (.next (l.set y (row (x + 1) (F y)), ((x + 1 : Nat) : Int))))
    (h2d : ∀ (y : Nat) l, y < H → step2 y (l, (W : Int)) = some (.done l)) :
    loopM FUEL step1 (List.replicate H [], 0) = some (tbl W H F) := by
  refine loop_go (fun i => (dnT W H F i, (i : Int))) H (by unfold FUEL; omega) ?_ (fun i hi => ?_) ?_
  · have e : List.replicate H [] = dnT W H F 0 := by
      apply List.ext_getElem?
      intro y
      by_cases hy : y < H
      · rw [dnT_get _ _ _ _ hy, if_neg (by omega), List.getElem?_replicate, if_pos hy]
      · rw [List.getElem?_eq_none (by simp; omega), List.getElem?_eq_none (by rw [dnT_len]; omega)]
    rw [e]
    rfl
  · have hl : loopM FUEL (step2 i) (dnT W H F i, 0) = some (dnT W H F (i + 1)) := by
      refine loop_go (fun x => ((dnT W H F i).set i (row x (F i)), (x : Int))) W (by unfold FUEL; omega) ?_ (fun x hx => ?_) ?_
      · have e : dnT W H F i = (dnT W H F i).set i (row 0 (F i)) := by
          apply List.ext_getElem?
          intro y
          rw [List.getElem?_set]
          split
          · subst y
            rw [dnT_get _ _ _ _ hi, if_neg (by omega), if_pos (by rw [dnT_len]; omega)]
            rfl
          · rfl
        rw [← e]
        rfl
      · show step2 i (_, (x : Int)) = _
        rw [h2 i x _ hi hx (by rw [List.length_set, dnT_len]) (by rw [List.getElem?_set_self (by rw [dnT_len]; omega)]), List.set_set]
      · show step2 i (_, (W : Int)) = _
        rw [h2d _ _ hi]
        congr 2
        apply List.ext_getElem?
        intro y
        rw [List.getElem?_set]
        split
        · subst y
          rw [if_pos (by rw [dnT_len]; omega), dnT_get _ _ _ _ hi, if_pos (by omega)]
        · by_cases hy : y < H
          · rw [dnT_get _ _ _ _ hy, dnT_get _ _ _ _ hy]
            by_cases hq : y < i
            · rw [if_pos hq, if_pos (by omega)]
            · rw [if_neg hq, if_neg (by omega)]
          · rw [List.getElem?_eq_none (by rw [dnT_len]; omega), List.getElem?_eq_none (by rw [dnT_len]; omega)]
    show step1 (dnT W H F i, (i : Int)) = _
    rw [h1 _ _ _ hi hl]
  · show step1 (dnT W H F H, (H : Int)) = _
    rw [h1d]
    congr 2
    apply List.ext_getElem?
    intro y
    by_cases hy : y < H
    · rw [dnT_get _ _ _ _ hy, if_pos hy, tbl_get _ _ _ hy]
    · rw [List.getElem?_eq_none (by rw [dnT_len]; omega), List.getElem?_eq_none (by rw [tbl_len]; omega)]

/-- A row whose first x entries are turned. -/
def mixf (f g : Nat → Int) (x : Nat) : Nat → Int := fun z => if z < x then g z else f z
theorem mixf_set {W : Nat} (f g : Nat → Int) {x : Nat} (hx : x < W) : (row W (mixf f g x)).set x (g x) = row W (mixf f g (x + 1)) := by
  apply List.ext_getElem?
  intro z
  rw [List.getElem?_set]
  by_cases hz : z < W
  · rw [row_get _ _ hz, row_get _ _ hz, row_len]
    by_cases hq : x = z
    · subst hq
      rw [if_pos rfl, if_pos hx]
      unfold mixf
      rw [if_pos (by omega)]
    · rw [if_neg hq]
      unfold mixf
      by_cases h1 : z < x
      · rw [if_pos h1, if_pos (by omega)]
      · rw [if_neg h1, if_neg (by omega)]
  · rw [if_neg (by omega), List.getElem?_eq_none (by rw [row_len]; omega), List.getElem?_eq_none (by rw [row_len]; omega)]
theorem mixf_same {W : Nat} (f g : Nat → Int) {x : Nat} (h : g x = f x) : row W (mixf f g x) = row W (mixf f g (x + 1)) := row_congr fun z hz => by
  unfold mixf
  by_cases h1 : z < x
  · rw [if_pos h1, if_pos (by omega)]
  · rw [if_neg h1]
    by_cases h2 : z = x
    · subst h2; rw [if_pos (by omega), h]
    · rw [if_neg (by omega)]
theorem mixf_at (f g : Nat → Int) (x : Nat) : mixf f g x x = f x := by unfold mixf; rw [if_neg (by omega)]

theorem setrow {W : Nat} (hW : W ≤ 1000) {f g : Nat → Int} {step : List Int × Int → Option (Step (List Int × Int) (List Int))} (h : ∀ x : Nat, x < W → step (row W (mixf f g x), (x : Int)) = some (.next (row W (mixf f g (x + 1)), ((x + 1 : Nat) : Int)))) (hd : ∀ l, step (l, (W : Int)) = some (.done l)) :
    loopM FUEL step (row W f, 0) = some (row W g) := by
  refine loop_go (fun i => (row W (mixf f g i), (i : Int))) W (by unfold FUEL; omega) ?_ (fun i hi => h i hi) ?_
  · show (row W f, (0 : Int)) = (row W (mixf f g 0), ((0 : Nat) : Int))
    rw [show row W f = row W (mixf f g 0) from row_congr fun z _ => by unfold mixf; rw [if_neg (by omega)]]
    rfl
  · rw [hd, show row W (mixf f g W) = row W g from row_congr fun z hz => by unfold mixf; rw [if_pos hz]]


/-! ### Lists turned round -/

def lrow {α : Type} (W : Nat) (f : Nat → α) : List α := (List.range W).map f
theorem lrow_len {α : Type} (W : Nat) (f : Nat → α) : (lrow W f).length = W := by simp [lrow]
theorem lrow_get {α : Type} (W : Nat) (f : Nat → α) {x : Nat} (hx : x < W) : (lrow W f)[x]? = some (f x) := by simp [lrow, hx]
theorem lrow_ix {α : Type} (W : Nat) (f : Nat → α) {x : Nat} {z : Int} (hz : z = x) (hx : x < W) : ix (lrow W f) z = some (f x) := ix_get hz (lrow_get W f hx)
theorem lrow_congr {α : Type} {W : Nat} {f g : Nat → α} (h : ∀ x, x < W → f x = g x) : lrow W f = lrow W g := List.map_congr_left fun x hx => h x (List.mem_range.1 hx)
def halfG {α : Type} (f : Nat → α) (W k : Nat) : Nat → α := fun z => if z < k ∨ W - 1 - k < z then f (W - 1 - z) else f z

theorem rev_gen {α : Type} {step : List α × Int × Int → Option (Step (List α × Int × Int) (List α))} {W : Nat} (hW0 : 0 < W) (hW : W ≤ 1000) (f : Nat → α)
    (hs : ∀ (l : List α) (s t : Int), step (l, s, t) = if decide (s < t) = true then (ix l t).bind fun v6 => (ix l s).bind fun v7 => chk (0 ≤ s ∧ s < (l.length : Int)) (chk (0 ≤ t ∧ t < ((l.set s.toNat v6).length : Int)) (some (.next ((l.set s.toNat v6).set t.toNat v7, w64 (s + 1), w64 (t - 1))))) else some (.done l)) :
    loopM FUEL step (lrow W f, 0, w64 ((W : Int) - 1)) = some (lrow W (fun x => f (W - 1 - x))) := by
  rw [w64_id (by omega) (by omega)]
  refine loop_go (fun k => (lrow W (halfG f W k), (k : Int), (W : Int) - 1 - (k : Int))) (W / 2) (by unfold FUEL; omega) ?_ (fun k hk => ?_) ?_
  · show (lrow W f, (0 : Int), (W : Int) - 1) = (lrow W (halfG f W 0), ((0 : Nat) : Int), (W : Int) - 1 - ((0 : Nat) : Int))
    rw [show lrow W f = lrow W (halfG f W 0) from lrow_congr fun z hz => by unfold halfG; rw [if_neg (by omega)]]
    simp
  · show step (lrow W (halfG f W k), (k : Int), ((W : Int) - 1 - (k : Int))) = some (Step.next (_, ((k + 1 : Nat) : Int), (W : Int) - 1 - ((k + 1 : Nat) : Int)))
    rw [hs]
    have e1 : ix (lrow W (halfG f W k)) ((W : Int) - 1 - (k : Int)) = some (f (W - 1 - k)) := by
      rw [lrow_ix W _ (x := W - 1 - k) (by omega) (by omega)]
      unfold halfG
      rw [if_neg (by omega)]
    have e2 : ix (lrow W (halfG f W k)) (k : Int) = some (f k) := by
      rw [lrow_ix W _ (x := k) rfl (by omega)]
      unfold halfG
      rw [if_neg (by omega)]
    rw [if_pos (by simp; omega), e1, Option.bind_some, e2, Option.bind_some, chk_pos (by rw [lrow_len]; omega), chk_pos (by rw [List.length_set, lrow_len]; omega), w64_id (by omega) (by omega), w64_id (by omega) (by omega)]
    have e3 : ((lrow W (halfG f W k)).set ((k : Int)).toNat (f (W - 1 - k))).set ((W : Int) - 1 - (k : Int)).toNat (f k) = lrow W (halfG f W (k + 1)) := by
      rw [show ((k : Int)).toNat = k by omega, show ((W : Int) - 1 - (k : Int)).toNat = W - 1 - k by omega]
      apply List.ext_getElem?
      intro z
      by_cases hz : z < W
      · rw [lrow_get _ _ hz, List.getElem?_set, List.length_set, lrow_len]
        by_cases h1 : W - 1 - k = z
        · rw [if_pos h1, if_pos (by omega)]
          unfold halfG
          rw [if_pos (by omega), ← h1, show W - 1 - (W - 1 - k) = k by omega]
        · rw [if_neg h1, List.getElem?_set, lrow_len]
          by_cases h2 : k = z
          · rw [if_pos h2, if_pos (by omega)]
            unfold halfG
            rw [if_pos (by omega), ← h2]
          · rw [if_neg h2, lrow_get _ _ hz]
            unfold halfG
            by_cases h3 : z < k ∨ W - 1 - k < z
            · rw [if_pos h3, if_pos (by omega)]
            · rw [if_neg h3, if_neg (by omega)]
      · rw [List.getElem?_eq_none (by simp only [List.length_set, lrow_len]; omega), List.getElem?_eq_none (by rw [lrow_len]; omega)]
    rw [e3]
    congr 4
    omega
  · show step (lrow W (halfG f W (W / 2)), ((W / 2 : Nat) : Int), ((W : Int) - 1 - ((W / 2 : Nat) : Int))) = _
    rw [hs, if_neg (by simp; omega)]
    congr 2
    refine lrow_congr fun z hz => ?_
    unfold halfG
    by_cases h : z < W / 2 ∨ W - 1 - W / 2 < z
    · rw [if_pos h]
    · rw [if_neg h]
      congr 1
      omega
end Go.E
