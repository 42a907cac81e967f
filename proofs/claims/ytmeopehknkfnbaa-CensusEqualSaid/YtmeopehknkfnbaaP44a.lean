/-
  PLAIN, chapter 44: lists that are appended to in two loops; the census of a pixel.
-/
import Derived.Test.YtmeopehknkfnbaaQCheck
import Derived.Test.YtmeopehknkfnbaaQRefCheck
import Derived.Test.YtmeopehknkfnbaaPcount
import Derived.KernelRfl
set_option linter.unusedSimpArgs false
set_option linter.unusedVariables false
namespace Go.Proofs.Ytmeopehknkfnbaa
open Go.E

theorem grid_zero (D : Nat) (h : Nat → Nat → Int) : grid D 0 h = [] := rfl

theorem app_loop {D N : Nat} (hD : D ≤ 1000000) (hN : N ≤ 1000000) (hDN : N * D ≤ 1000000) (h : Nat → Nat → Int) (step1 : List Int × Int → Option (Step (List Int × Int) (List Int))) (step2 : Nat → List Int × Int → Option (Step (List Int × Int) (List Int)))
    (h2 : ∀ (i d : Nat) (l : List Int), i < N → d < D → l.length ≤ 1000000 → step2 i (l, (d : Int)) = some (.next (l ++ [h d i], ((d + 1 : Nat) : Int))))
    (h2d : ∀ (i : Nat) (l : List Int), i < N → step2 i (l, (D : Int)) = some (.done l))
    (h1 : ∀ (i : Nat) (l l' : List Int), i < N → loopM FUEL (step2 i) (l, 0) = some l' → step1 (l, (i : Int)) = some (.next (l', ((i + 1 : Nat) : Int))))
    (h1d : ∀ l, step1 (l, (N : Int)) = some (.done l)) : loopM FUEL step1 ([], 0) = some (grid D N h) := by
  refine loop_go (fun i => (grid D i h, (i : Int))) N (by unfold FUEL; omega) rfl (fun i hi => ?_) (h1d _)
  refine h1 i _ _ hi ?_
  rw [grid_succ]
  have hl : (grid D i h).length + D ≤ 1000000 := by
    rw [grid_len]
    have : (i + 1) * D ≤ N * D := Nat.mul_le_mul_right D hi
    rw [Nat.add_mul] at this
    omega
  refine loop_go (fun d => (grid D i h ++ (List.range d).map (fun d => h d i), (d : Int))) D (by unfold FUEL; omega) (by simp) (fun d hd => ?_) (h2d i _ hi)
  rw [h2 i d _ hi hd (by simp; omega)]
  congr 3
  rw [List.range_succ, List.map_append, List.append_assoc]
  rfl

/-! ### The census of a pixel -/

def rowf (skip cmp : Nat → Bool) (st : Nat × Nat) : Nat → Nat × Nat
  | 0 => st
  | i + 1 => if skip i = true then rowf skip cmp st i else ((if cmp i = true then (rowf skip cmp st i).1 + 2 ^ (rowf skip cmp st i).2 else (rowf skip cmp st i).1), (rowf skip cmp st i).2 + 1)
def allf (skip cmp : Nat → Nat → Bool) (K : Nat) : Nat → Nat × Nat
  | 0 => (0, 0)
  | j + 1 => rowf (skip j) (cmp j) (allf skip cmp K j) K

theorem rowf_lt {skip cmp : Nat → Bool} {st : Nat × Nat} (h : st.1 < 2 ^ st.2) : ∀ i, (rowf skip cmp st i).1 < 2 ^ (rowf skip cmp st i).2
  | 0 => h
  | i + 1 => by
    have ih := rowf_lt (skip := skip) (cmp := cmp) h i
    simp only [rowf]
    split
    · exact ih
    · simp only [Nat.pow_succ]
      split <;> omega
theorem rowf_le {skip cmp : Nat → Bool} {st : Nat × Nat} : ∀ i, (rowf skip cmp st i).2 ≤ st.2 + i
  | 0 => Nat.le_refl _
  | i + 1 => by
    have ih := rowf_le (skip := skip) (cmp := cmp) (st := st) i
    simp only [rowf]
    split
    · omega
    · show _ + 1 ≤ _
      omega
theorem allf_lt {skip cmp : Nat → Nat → Bool} {K : Nat} : ∀ j, (allf skip cmp K j).1 < 2 ^ (allf skip cmp K j).2
  | 0 => by show 0 < 2 ^ 0; decide
  | j + 1 => rowf_lt (allf_lt j) K
theorem allf_le {skip cmp : Nat → Nat → Bool} {K : Nat} : ∀ j, (allf skip cmp K j).2 ≤ K * j
  | 0 => Nat.le_refl _
  | j + 1 => by
    have h1 := allf_le (skip := skip) (cmp := cmp) (K := K) j
    have h2 := rowf_le (skip := skip j) (cmp := cmp j) (st := allf skip cmp K j) K
    simp only [allf, Nat.mul_succ]
    omega
theorem rowf_congr {skip cmp cmp' : Nat → Bool} {st : Nat × Nat} : ∀ (i : Nat), (∀ k, k < i → skip k = false → cmp k = cmp' k) → rowf skip cmp st i = rowf skip cmp' st i
  | 0, _ => rfl
  | i + 1, h => by
    have ih := rowf_congr (skip := skip) (cmp := cmp) (cmp' := cmp') (st := st) i (fun k hk => h k (by omega))
    simp only [rowf, ih]
    cases hs : skip i with
    | true => rfl
    | false => rw [h i (by omega) hs]
theorem allf_congr {skip cmp cmp' : Nat → Nat → Bool} {K : Nat} : ∀ (j : Nat), (∀ q k, q < j → k < K → skip q k = false → cmp q k = cmp' q k) → allf skip cmp K j = allf skip cmp' K j
  | 0, _ => rfl
  | j + 1, h => by
    have ih := allf_congr (skip := skip) (cmp := cmp) (cmp' := cmp') (K := K) j (fun q k hq => h q k (by omega))
    simp only [allf, ih]
    exact rowf_congr K (fun k hk hs => h j k (by omega) hk hs)

def inb (W H x y r j i : Nat) : Bool := decide (r ≤ x + i ∧ x + i < W + r ∧ r ≤ y + j ∧ y + j < H + r)
def cmpb (W H : Nat) (g : Nat → Nat → Int) (r x y j i : Nat) : Bool := inb W H x y r j i && decide (g (x + i - r) (y + j - r) < g x y)
def skb (r j i : Nat) : Bool := i == r && j == r
/-- The census of a pixel, radius r. -/
def cen (W H : Nat) (g : Nat → Nat → Int) (r x y : Nat) : Nat := (allf (skb r) (cmpb W H g r x y) (2 * r + 1) (2 * r + 1)).1
theorem cen_lt (W H : Nat) (g : Nat → Nat → Int) {r : Nat} (hr : r ≤ 2) (x y : Nat) : cen W H g r x y < 33554432 := by
  have h1 := allf_lt (skip := skb r) (cmp := cmpb W H g r x y) (K := 2 * r + 1) (2 * r + 1)
  have h2 := allf_le (skip := skb r) (cmp := cmpb W H g r x y) (K := 2 * r + 1) (2 * r + 1)
  have h3 : (2 * r + 1) * (2 * r + 1) ≤ 25 := Nat.le_trans (Nat.mul_le_mul (by omega : 2 * r + 1 ≤ 5) (by omega : 2 * r + 1 ≤ 5)) (by decide)
  have h4 : 2 ^ (allf (skb r) (cmpb W H g r x y) (2 * r + 1) (2 * r + 1)).2 ≤ 2 ^ 25 := Nat.pow_le_pow_right (by decide) (by omega)
  unfold cen
  omega

theorem or_pow {n b : Nat} (hn : n < 2 ^ b) (hb : b ≤ 60) : w64 (((BitVec.ofInt 64 (n : Int) ||| BitVec.ofInt 64 (w64 (1 * 2 ^ (min ((b : Int)).toNat 64)))).toNat : Int)) = ((n + 2 ^ b : Nat) : Int) := by
  have hp : 2 ^ b ≤ 2 ^ 60 := Nat.pow_le_pow_right (by decide) hb
  have hmin : min ((b : Int)).toNat 64 = b := by omega
  have hpi : ((2 : Int) ^ b) = ((2 ^ b : Nat) : Int) := by push_cast; rfl
  have hwp : w64 ((2 ^ b : Nat) : Int) = ((2 ^ b : Nat) : Int) := w64_id (by omega) (by omega)
  rw [hmin, Int.one_mul, hpi, hwp]
  have e1 : ∀ k : Nat, k < 2 ^ 64 → (BitVec.ofInt 64 (k : Int)).toNat = k := fun k hk => by
    rw [BitVec.toNat_ofInt]
    have : ((k : Int) % ((2 ^ 64 : Nat) : Int)).toNat = k := by
      rw [Int.emod_eq_of_lt (by omega) (by simp; omega)]
      omega
    exact this
  rw [BitVec.toNat_or, e1 n (by omega), e1 (2 ^ b) (by omega)]
  have e2 : n ||| 2 ^ b = n + 2 ^ b := by
    have := Nat.two_pow_add_eq_or_of_lt hn 1
    rw [Nat.mul_one] at this
    rw [Nat.or_comm, ← this, Nat.add_comm]
  rw [e2, w64_id (by omega) (by omega)]

section
variable {W H : Nat} {m : Int} {g : Nat → Nat → Int}

theorem grid_ix (g : Nat → Nat → Int) {x y : Nat} (hx : x < W) (hy : y < H) {z : Int} (hz : z = ((y * W + x : Nat) : Int)) : ix (grid W H g) z = some (g x y) := ix_get hz (grid_get W g H x y hx hy)
theorem cell_w64 (hW : W ≤ 64) (hH : H ≤ 64) {x y : Nat} (hx : x < W) (hy : y < H) : w64 ((w64 ((y : Int) * (W : Int))) + (x : Int)) = ((y * W + x : Nat) : Int) := by
  have h1 := cell_lt hx hy
  have h2 : H * W ≤ 64 * 64 := Nat.mul_le_mul hH hW
  have h3 : (y : Int) * (W : Int) = ((y * W : Nat) : Int) := by push_cast; rfl
  have h4 : w64 ((y * W : Nat) : Int) = ((y * W : Nat) : Int) := w64_id (by omega) (by omega)
  rw [h3, h4, w64_id (by omega) (by omega)]
  omega

theorem prog_row (hb : Bd W H m g) {r : Nat} (hr : r ≤ 2) {x y j : Nat} (hx : x < W) (hy : y < H) (hj : j < 2 * r + 1) (q : Nat × Nat) (hq : q.1 < 2 ^ q.2) (hq2 : q.2 ≤ 40) :
    loopM FUEL (fun s : Int × Int × Int => census_transform_s4 W H (grid W H g) r y x ((y : Int) - r + j) s.1 s.2.1 s.2.2) ((q.1 : Int), (q.2 : Int), (x : Int) - r) = some (((rowf (skb r j) (cmpb W H g r x y j) q (2 * r + 1)).1 : Int), ((rowf (skb r j) (cmpb W H g r x y j) q (2 * r + 1)).2 : Int)) := by
  obtain ⟨b1, b2, b3, b4, b5, b6, b7⟩ := hb
  refine loop_go (fun i => (((rowf (skb r j) (cmpb W H g r x y j) q i).1 : Int), ((rowf (skb r j) (cmpb W H g r x y j) q i).2 : Int), (x : Int) - r + i)) (2 * r + 1) (by unfold FUEL; omega) (by simp [rowf]) (fun i hi => ?_) ?_
  · show census_transform_s4 _ _ _ _ _ _ _ _ _ _ = _
    unfold census_transform_s4
    dsimp only
    have hlt := rowf_lt (skip := skb r j) (cmp := cmpb W H g r x y j) hq i
    have hle := rowf_le (skip := skb r j) (cmp := cmpb W H g r x y j) (st := q) i
    rw [if_pos (decide_eq_true (by rw [w64_id (by omega) (by omega)]; omega))]
    have hsk : (if (((x : Int) - r + i) == (x : Int)) = true then some ((((y : Int) - r + j)) == (y : Int)) else some false) = some (skb r j i) := by
      unfold skb
      by_cases h1 : i = r
      · subst h1
        rw [if_pos (by simp), BEq.rfl, Bool.true_and]
        congr 1
        by_cases h2 : j = i
        · subst h2; simp
        · rw [beq_eq_false_iff_ne.2 h2]
          exact beq_eq_false_iff_ne.2 (by omega)
      · rw [if_neg (by simp; omega), beq_eq_false_iff_ne.2 h1, Bool.false_and]
    rw [hsk, Option.bind_some]
    have hw1 : w64 ((x : Int) - r + i + 1) = (x : Int) - r + ((i + 1 : Nat) : Int) := by rw [w64_id (by omega) (by omega)]; omega
    simp only [rowf]
    cases hs : skb r j i with
    | true =>
      simp only [if_true]
      rw [hw1]
    | false =>
      simp only [Bool.false_eq_true, if_false]
      have hcm : (if (decide (0 ≤ (x : Int) - r + i)) = true then (if (decide (0 ≤ (y : Int) - r + j)) = true then (if (decide ((x : Int) - r + i < (W : Int))) = true then (if (decide ((y : Int) - r + j < (H : Int))) = true then (ix (grid W H g) (w64 ((w64 (((y : Int) - r + j) * (W : Int))) + ((x : Int) - r + i)))).bind fun v_19 => (ix (grid W H g) (w64 ((w64 ((y : Int) * (W : Int))) + (x : Int)))).bind fun v_20 => some (decide (v_19 < v_20)) else some false) else some false) else some false) else some false) = some (cmpb W H g r x y j i) := by
        unfold cmpb
        cases hin : inb W H x y r j i with
        | true =>
          have h := of_decide_eq_true hin
          have e1 : (x : Int) - r + i = ((x + i - r : Nat) : Int) := by omega
          have e2 : (y : Int) - r + j = ((y + j - r : Nat) : Int) := by omega
          rw [e1, e2, if_pos (decide_eq_true (by omega)), if_pos (decide_eq_true (by omega)), if_pos (decide_eq_true (by omega)), if_pos (decide_eq_true (by omega)),
            grid_ix g (by omega : x + i - r < W) (by omega : y + j - r < H) (cell_w64 b2 b4 (by omega) (by omega)), Option.bind_some, grid_ix g hx hy (cell_w64 b2 b4 hx hy), Option.bind_some, Bool.true_and]
        | false =>
          have h := of_decide_eq_false hin
          rw [Bool.false_and]
          by_cases h1 : r ≤ x + i
          · rw [if_pos (decide_eq_true (by omega))]
            by_cases h2 : r ≤ y + j
            · rw [if_pos (decide_eq_true (by omega))]
              by_cases h3 : x + i < W + r
              · rw [if_pos (decide_eq_true (by omega)), if_neg (by rw [decide_eq_true_eq]; omega)]
              · rw [if_neg (by rw [decide_eq_true_eq]; omega)]
            · rw [if_neg (by rw [decide_eq_true_eq]; omega)]
          · rw [if_neg (by rw [decide_eq_true_eq]; omega)]
      rw [hcm, Option.bind_some, hw1]
      have hw2 : w64 (((rowf (skb r j) (cmpb W H g r x y j) q i).2 : Int) + 1) = (((rowf (skb r j) (cmpb W H g r x y j) q i).2 + 1 : Nat) : Int) := by rw [w64_id (by omega) (by omega)]; omega
      cases hc : cmpb W H g r x y j i with
      | true =>
        simp only [if_true]
        rw [chk_pos (by omega), Option.bind_some, or_pow hlt (by omega), hw2]
      | false =>
        simp only [Bool.false_eq_true, if_false]
        rw [Option.bind_some, hw2]
  · show census_transform_s4 _ _ _ _ _ _ _ _ _ _ = _
    unfold census_transform_s4
    dsimp only
    rw [if_neg (by rw [decide_eq_true_eq, w64_id (by omega) (by omega)]; omega)]

theorem prog_pixel (hb : Bd W H m g) {r : Nat} (hr : r ≤ 2) {x y : Nat} (hx : x < W) (hy : y < H) :
    loopM FUEL (fun s : Int × Int × Int => census_transform_s3 W H (grid W H g) r y x s.1 s.2.1 s.2.2) (0, 0, w64 ((y : Int) - r)) = some ((cen W H g r x y : Nat) : Int) := by
  have hb' := hb
  obtain ⟨b1, b2, b3, b4, b5, b6, b7⟩ := hb'
  refine loop_go (fun j => (((allf (skb r) (cmpb W H g r x y) (2 * r + 1) j).1 : Int), ((allf (skb r) (cmpb W H g r x y) (2 * r + 1) j).2 : Int), (y : Int) - r + j)) (2 * r + 1) (by unfold FUEL; omega) ?_ (fun j hj => ?_) ?_
  · rw [w64_id (by omega) (by omega)]; simp [allf]
  · show census_transform_s3 _ _ _ _ _ _ _ _ _ = _
    unfold census_transform_s3
    dsimp only
    have hle := allf_le (skip := skb r) (cmp := cmpb W H g r x y) (K := 2 * r + 1) j
    have h25 : (2 * r + 1) * j ≤ 5 * 5 := Nat.mul_le_mul (by omega) (by omega)
    rw [if_pos (decide_eq_true (by rw [w64_id (by omega) (by omega)]; omega)), w64_id (by omega) (by omega), prog_row hb hr hx hy hj _ (allf_lt j) (by omega), Option.bind_some, w64_id (by omega) (by omega)]
    simp only [allf]
    congr 4
    omega
  · show census_transform_s3 _ _ _ _ _ _ _ _ _ = _
    unfold census_transform_s3
    dsimp only
    rw [if_neg (by rw [decide_eq_true_eq, w64_id (by omega) (by omega)]; omega)]
    rfl

theorem transform_eq (hb : Bd W H m g) {r : Nat} (hr : r ≤ 2) : census_transform W H m (grid W H g) r = some (grid W H fun x y => ((cen W H g r x y : Nat) : Int)) := by
  have hb' := hb
  obtain ⟨b1, b2, b3, b4, b5, b6, b7⟩ := hb'
  have hHW : H * W ≤ 64 * 64 := Nat.mul_le_mul b4 b2
  unfold census_transform
  rw [app_loop (D := W) (N := H) (by omega) (by omega) (by omega) (fun x y => ((cen W H g r x y : Nat) : Int)) (fun s => census_transform_s1 W H (grid W H g) r s.1 s.2) (fun y s => census_transform_s2 W H (grid W H g) r y s.1 s.2)]
  · rfl
  · intro y x l hy hx hl
    show census_transform_s2 _ _ _ _ _ _ _ = _
    unfold census_transform_s2
    dsimp only
    rw [if_pos (decide_eq_true (by omega)), prog_pixel hb hr hx hy, Option.bind_some, chk_pos (by omega), w64_id (by omega) (by omega)]
    rfl
  · intro y l hy
    show census_transform_s2 _ _ _ _ _ _ _ = _
    unfold census_transform_s2
    dsimp only
    rw [if_neg (by simp)]
  · intro y l l' hy hl
    show census_transform_s1 _ _ _ _ _ _ = _
    unfold census_transform_s1
    dsimp only
    rw [if_pos (decide_eq_true (by omega)), hl, Option.bind_some, w64_id (by omega) (by omega)]
    rfl
  · intro l
    show census_transform_s1 _ _ _ _ _ _ = _
    unfold census_transform_s1
    dsimp only
    rw [if_neg (by simp)]

/-! ### The document's -/

theorem doc_row (hb : Bd W H m g) {r : Nat} (hr : r ≤ 2) {x y j : Nat} (hx : x < W) (hy : y < H) (hj : j < 2 * r + 1) (q : Nat × Nat) (hq : q.1 < 2 ^ q.2) (hq2 : q.2 ≤ 40) :
    loopM FUEL (fun s : Int × Int × Int => fiduciallaw44_bitsOf_s2 W H m (grid W H g) r x y ((j : Int) - r) s.1 s.2.1 s.2.2) ((q.1 : Int), ((2 ^ q.2 : Nat) : Int), -(r : Int)) = some (((rowf (skb r j) (cmpb W H g r x y j) q (2 * r + 1)).1 : Int), ((2 ^ (rowf (skb r j) (cmpb W H g r x y j) q (2 * r + 1)).2 : Nat) : Int)) := by
  obtain ⟨b1, b2, b3, b4, b5, b6, b7⟩ := hb
  refine loop_go (fun i => (((rowf (skb r j) (cmpb W H g r x y j) q i).1 : Int), ((2 ^ (rowf (skb r j) (cmpb W H g r x y j) q i).2 : Nat) : Int), (i : Int) - r)) (2 * r + 1) (by unfold FUEL; omega) (by simp [rowf]) (fun i hi => ?_) ?_
  · show fiduciallaw44_bitsOf_s2 _ _ _ _ _ _ _ _ _ _ _ = _
    unfold fiduciallaw44_bitsOf_s2
    dsimp only
    have hlt := rowf_lt (skip := skb r j) (cmp := cmpb W H g r x y j) hq i
    have hle := rowf_le (skip := skb r j) (cmp := cmpb W H g r x y j) (st := q) i
    have hp : 2 ^ (rowf (skb r j) (cmpb W H g r x y j) q i).2 ≤ 2 ^ 60 := Nat.pow_le_pow_right (by decide) (by omega)
    rw [if_pos (decide_eq_true (by omega))]
    have hsk : (if (((i : Int) - r) == 0) = true then some ((((j : Int) - r)) == 0) else some false) = some (skb r j i) := by
      unfold skb
      by_cases h1 : i = r
      · subst h1
        rw [if_pos (by simp), BEq.rfl, Bool.true_and]
        congr 1
        by_cases h2 : j = i
        · subst h2; simp
        · rw [beq_eq_false_iff_ne.2 h2]
          exact beq_eq_false_iff_ne.2 (by omega)
      · rw [if_neg (by simp; omega), beq_eq_false_iff_ne.2 h1, Bool.false_and]
    rw [hsk, Option.bind_some]
    have hw1 : w64 ((i : Int) - r + 1) = ((i + 1 : Nat) : Int) - r := by rw [w64_id (by omega) (by omega)]; omega
    simp only [rowf]
    cases hs : skb r j i with
    | true =>
      simp only [if_true]
      rw [hw1]
    | false =>
      simp only [Bool.false_eq_true, if_false]
      have hcm : ((fiduciallaw44_inside W H m (grid W H g) (w64 ((x : Int) + ((i : Int) - r))) (w64 ((y : Int) + ((j : Int) - r)))).bind fun y_13 => (if y_13 = true then (ix (grid W H g) (w64 ((w64 ((w64 ((w64 ((y : Int) + ((j : Int) - r))) * (W : Int))) + (x : Int))) + ((i : Int) - r)))).bind fun v_14 => (ix (grid W H g) (w64 ((w64 ((y : Int) * (W : Int))) + (x : Int)))).bind fun v_15 => some (decide (v_14 < v_15)) else some false)) = some (cmpb W H g r x y j i) := by
        unfold cmpb fiduciallaw44_inside
        rw [w64_id (by omega) (by omega), w64_id (by omega) (by omega)]
        cases hin : inb W H x y r j i with
        | true =>
          have h := of_decide_eq_true hin
          have e1 : (x : Int) + ((i : Int) - r) = ((x + i - r : Nat) : Int) := by omega
          have e2 : (y : Int) + ((j : Int) - r) = ((y + j - r : Nat) : Int) := by omega
          have hc := cell_lt (W := W) (H := H) (x := x + i - r) (y := y + j - r) (by omega) (by omega)
          have hHW : H * W ≤ 64 * 64 := Nat.mul_le_mul b4 b2
          have e3 : ((y + j - r : Nat) : Int) * (W : Int) = (((y + j - r) * W : Nat) : Int) := by push_cast; rfl
          have e4 : w64 (((y + j - r) * W : Nat) : Int) = (((y + j - r) * W : Nat) : Int) := w64_id (by omega) (by omega)
          have e5 : w64 ((((y + j - r) * W : Nat) : Int) + (x : Int)) = (((y + j - r) * W : Nat) : Int) + (x : Int) := w64_id (by omega) (by omega)
          have e6 : w64 ((((y + j - r) * W : Nat) : Int) + (x : Int) + ((i : Int) - r)) = (((y + j - r) * W : Nat) : Int) + (x : Int) + ((i : Int) - r) := w64_id (by omega) (by omega)
          rw [e1, e2, if_pos (decide_eq_true (by omega)), if_pos (decide_eq_true (by omega)), if_pos (decide_eq_true (by omega)), Option.bind_some, if_pos (decide_eq_true (by omega)), e3, e4, e5, e6,
            grid_ix g (by omega : x + i - r < W) (by omega : y + j - r < H) (by omega), Option.bind_some, grid_ix g hx hy (cell_w64 b2 b4 hx hy), Option.bind_some, Bool.true_and]
        | false =>
          have h := of_decide_eq_false hin
          rw [Bool.false_and]
          by_cases h1 : r ≤ x + i
          · rw [if_pos (decide_eq_true (by omega))]
            by_cases h2 : r ≤ y + j
            · rw [if_pos (decide_eq_true (by omega))]
              by_cases h3 : x + i < W + r
              · rw [if_pos (decide_eq_true (by omega)), Option.bind_some, if_neg (by rw [decide_eq_true_eq]; omega)]
              · rw [if_neg (by rw [decide_eq_true_eq]; omega)]; rfl
            · rw [if_neg (by rw [decide_eq_true_eq]; omega)]; rfl
          · rw [if_neg (by rw [decide_eq_true_eq]; omega)]; rfl
      rw [hcm, Option.bind_some, hw1]
      have hw2 : w64 (((2 ^ (rowf (skb r j) (cmpb W H g r x y j) q i).2 : Nat) : Int) * 2) = ((2 ^ ((rowf (skb r j) (cmpb W H g r x y j) q i).2 + 1) : Nat) : Int) := by
        rw [w64_id (by omega) (by omega), Nat.pow_succ]; omega
      cases hc : cmpb W H g r x y j i with
      | true =>
        simp only [if_true]
        rw [Option.bind_some, w64_id (by omega) (by omega), hw2]
        rfl
      | false =>
        simp only [Bool.false_eq_true, if_false]
        rw [Option.bind_some, hw2]
  · show fiduciallaw44_bitsOf_s2 _ _ _ _ _ _ _ _ _ _ _ = _
    unfold fiduciallaw44_bitsOf_s2
    dsimp only
    rw [if_neg (by rw [decide_eq_true_eq]; omega)]

theorem doc_pixel (hb : Bd W H m g) {r : Nat} (hr : r ≤ 2) {x y : Nat} (hx : x < W) (hy : y < H) : fiduciallaw44_bitsOf W H m (grid W H g) r x y = some ((cen W H g r x y : Nat) : Int) := by
  have hb' := hb
  obtain ⟨b1, b2, b3, b4, b5, b6, b7⟩ := hb'
  unfold fiduciallaw44_bitsOf
  have h0 : w64 (0 - (r : Int)) = -(r : Int) := by rw [w64_id (by omega) (by omega)]; omega
  rw [h0]
  have : loopM FUEL (fun s : Int × Int × Int => fiduciallaw44_bitsOf_s1 W H m (grid W H g) r x y s.1 s.2.1 s.2.2) (0, 1, -(r : Int)) = some ((cen W H g r x y : Nat) : Int) := by
    refine loop_go (fun j => (((allf (skb r) (cmpb W H g r x y) (2 * r + 1) j).1 : Int), ((2 ^ (allf (skb r) (cmpb W H g r x y) (2 * r + 1) j).2 : Nat) : Int), (j : Int) - r)) (2 * r + 1) (by unfold FUEL; omega) ?_ (fun j hj => ?_) ?_
    · simp [allf]
    · show fiduciallaw44_bitsOf_s1 _ _ _ _ _ _ _ _ _ _ = _
      unfold fiduciallaw44_bitsOf_s1
      dsimp only
      have hle := allf_le (skip := skb r) (cmp := cmpb W H g r x y) (K := 2 * r + 1) j
      have h25 : (2 * r + 1) * j ≤ 5 * 5 := Nat.mul_le_mul (by omega) (by omega)
      rw [if_pos (decide_eq_true (by omega)), h0, doc_row hb hr hx hy hj _ (allf_lt j) (by omega), Option.bind_some, w64_id (by omega) (by omega)]
      simp only [allf]
      congr 4
      omega
    · show fiduciallaw44_bitsOf_s1 _ _ _ _ _ _ _ _ _ _ = _
      unfold fiduciallaw44_bitsOf_s1
      dsimp only
      rw [if_neg (by rw [decide_eq_true_eq]; omega)]
      rfl
  rw [this]; rfl
end

end Go.Proofs.Ytmeopehknkfnbaa
