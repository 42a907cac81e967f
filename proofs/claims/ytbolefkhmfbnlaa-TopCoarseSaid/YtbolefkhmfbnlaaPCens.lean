/-
  PLAIN: costs of images (made by cens.py out of chapter 44's texts).
-/
import Derived.Test.YtbolefkhmfbnlaaQCheck
import Derived.Test.YtbolefkhmfbnlaaQRefCheck
import Derived.Test.YtbolefkhmfbnlaaQMin
import Derived.Test.YtbolefkhmfbnlaaQIndex
set_option linter.unusedSimpArgs false
set_option linter.unusedVariables false
namespace Go.Proofs.Ytbolefkhmfbnlaa
open Go.E

theorem grid_zero (D : Nat) (h : Nat → Nat → Int) : grid D 0 h = [] := rfl

theorem app_loop {D N : Nat} (hD : D ≤ 1000000) (hN : N ≤ 1000000) (hDN : N * D ≤ 1000000) (h : Nat → Nat → Int) (step1 : List Int × Int → Option (Step (List Int × Int) (List Int))) (step2 : Nat → List Int × Int → Option (Step (List Int × Int) (List Int)))
    (h2 : ∀ (i d : Nat) (l : List Int), i < N → d < D → l.length ≤ 1000000 → step2 i (l, (d : Int)) = some (.next (l ++ [h d i], ((d + 1 : Nat) : Int))))
    (h2d : ∀ (i : Nat) (l : List Int), i < N → step2 i (l, (D : Int)) = some (.done l))
    (h1 : ∀ (i : Nat) (l l' : List Int), i < N → loopM FUEL (step2 i) (l, 0) = some l' → step1 (l, (i : Int)) = some (.next (l', ((i + 1 : Nat) : Int))))
    (h1d : ∀ l, step1 (l, (N : Int)) = some (.done l)) : loopM FUEL step1 ([], 0) = some (grid D N h) := by
  refine loop_go (fun i => (grid D i h, (i : Int))) N (by unfold FUEL; omega) rfl (fun i hi => ?_) (h1d _)
  refine h1 i _ _ hi ?_
  rw [grid_succ]
  have hl : (grid D i h).length + D ≤ 1000000 := by
    rw [grid_len]
    have : (i + 1) * D ≤ N * D := Nat.mul_le_mul_right D hi
    rw [Nat.add_mul] at this
    omega
  refine loop_go (fun d => (grid D i h ++ (List.range d).map (fun d => h d i), (d : Int))) D (by unfold FUEL; omega) (by simp) (fun d hd => ?_) (h2d i _ hi)
  rw [h2 i d _ hi hd (by simp; omega)]
  congr 3
  rw [List.range_succ, List.map_append, List.append_assoc]
  rfl

def rowf (skip cmp : Nat → Bool) (st : Nat × Nat) : Nat → Nat × Nat
  | 0 => st
  | i + 1 => if skip i = true then rowf skip cmp st i else ((if cmp i = true then (rowf skip cmp st i).1 + 2 ^ (rowf skip cmp st i).2 else (rowf skip cmp st i).1), (rowf skip cmp st i).2 + 1)

def allf (skip cmp : Nat → Nat → Bool) (K : Nat) : Nat → Nat × Nat
  | 0 => (0, 0)
  | j + 1 => rowf (skip j) (cmp j) (allf skip cmp K j) K

theorem rowf_lt {skip cmp : Nat → Bool} {st : Nat × Nat} (h : st.1 < 2 ^ st.2) : ∀ i, (rowf skip cmp st i).1 < 2 ^ (rowf skip cmp st i).2
  | 0 => h
  | i + 1 => by
    have ih := rowf_lt (skip := skip) (cmp := cmp) h i
    simp only [rowf]
    split
    · exact ih
    · simp only [Nat.pow_succ]
      split <;> omega

theorem rowf_le {skip cmp : Nat → Bool} {st : Nat × Nat} : ∀ i, (rowf skip cmp st i).2 ≤ st.2 + i
  | 0 => Nat.le_refl _
  | i + 1 => by
    have ih := rowf_le (skip := skip) (cmp := cmp) (st := st) i
    simp only [rowf]
    split
    · omega
    · show _ + 1 ≤ _
      omega

theorem allf_lt {skip cmp : Nat → Nat → Bool} {K : Nat} : ∀ j, (allf skip cmp K j).1 < 2 ^ (allf skip cmp K j).2
  | 0 => by show 0 < 2 ^ 0; decide
  | j + 1 => rowf_lt (allf_lt j) K

theorem allf_le {skip cmp : Nat → Nat → Bool} {K : Nat} : ∀ j, (allf skip cmp K j).2 ≤ K * j
  | 0 => Nat.le_refl _
  | j + 1 => by
    have h1 := allf_le (skip := skip) (cmp := cmp) (K := K) j
    have h2 := rowf_le (skip := skip j) (cmp := cmp j) (st := allf skip cmp K j) K
    simp only [allf, Nat.mul_succ]
    omega

theorem rowf_congr {skip cmp cmp' : Nat → Bool} {st : Nat × Nat} : ∀ (i : Nat), (∀ k, k < i → skip k = false → cmp k = cmp' k) → rowf skip cmp st i = rowf skip cmp' st i
  | 0, _ => rfl
  | i + 1, h => by
    have ih := rowf_congr (skip := skip) (cmp := cmp) (cmp' := cmp') (st := st) i (fun k hk => h k (by omega))
    simp only [rowf, ih]
    cases hs : skip i with
    | true => rfl
    | false => rw [h i (by omega) hs]

theorem allf_congr {skip cmp cmp' : Nat → Nat → Bool} {K : Nat} : ∀ (j : Nat), (∀ q k, q < j → k < K → skip q k = false → cmp q k = cmp' q k) → allf skip cmp K j = allf skip cmp' K j
  | 0, _ => rfl
  | j + 1, h => by
    have ih := allf_congr (skip := skip) (cmp := cmp) (cmp' := cmp') (K := K) j (fun q k hq => h q k (by omega))
    simp only [allf, ih]
    exact rowf_congr K (fun k hk hs => h j k (by omega) hk hs)

def inb (W H x y r j i : Nat) : Bool := decide (r ≤ x + i ∧ x + i < W + r ∧ r ≤ y + j ∧ y + j < H + r)

def cmpb (W H : Nat) (g : Nat → Nat → Int) (r x y j i : Nat) : Bool := inb W H x y r j i && decide (g (x + i - r) (y + j - r) < g x y)

def skb (r j i : Nat) : Bool := i == r && j == r

theorem or_pow {n b : Nat} (hn : n < 2 ^ b) (hb : b ≤ 60) : w64 (((BitVec.ofInt 64 (n : Int) ||| BitVec.ofInt 64 (w64 (1 * 2 ^ (min ((b : Int)).toNat 64)))).toNat : Int)) = ((n + 2 ^ b : Nat) : Int) := by
  have hp : 2 ^ b ≤ 2 ^ 60 := Nat.pow_le_pow_right (by decide) hb
  have hmin : min ((b : Int)).toNat 64 = b := by omega
  have hpi : ((2 : Int) ^ b) = ((2 ^ b : Nat) : Int) := by push_cast; rfl
  have hwp : w64 ((2 ^ b : Nat) : Int) = ((2 ^ b : Nat) : Int) := w64_id (by omega) (by omega)
  rw [hmin, Int.one_mul, hpi, hwp]
  have e1 : ∀ k : Nat, k < 2 ^ 64 → (BitVec.ofInt 64 (k : Int)).toNat = k := fun k hk => by
    rw [BitVec.toNat_ofInt]
    have : ((k : Int) % ((2 ^ 64 : Nat) : Int)).toNat = k := by
      rw [Int.emod_eq_of_lt (by omega) (by simp; omega)]
      omega
    exact this
  rw [BitVec.toNat_or, e1 n (by omega), e1 (2 ^ b) (by omega)]
  have e2 : n ||| 2 ^ b = n + 2 ^ b := by
    have := Nat.two_pow_add_eq_or_of_lt hn 1
    rw [Nat.mul_one] at this
    rw [Nat.or_comm, ← this, Nat.add_comm]
  rw [e2, w64_id (by omega) (by omega)]

section
variable {W H : Nat} {m : Int} {g : Nat → Nat → Int}
theorem grid_ix (g : Nat → Nat → Int) {x y : Nat} (hx : x < W) (hy : y < H) {z : Int} (hz : z = ((y * W + x : Nat) : Int)) : ix (grid W H g) z = some (g x y) := ix_get hz (grid_get W g H x y hx hy)
end

section
variable {W H : Nat} {m : Int} {g : Nat → Nat → Int}
theorem cell_w64 (hW : W ≤ 64) (hH : H ≤ 64) {x y : Nat} (hx : x < W) (hy : y < H) : w64 ((w64 ((y : Int) * (W : Int))) + (x : Int)) = ((y * W + x : Nat) : Int) := by
  have h1 := cell_lt hx hy
  have h2 : H * W ≤ 64 * 64 := Nat.mul_le_mul hH hW
  have h3 : (y : Int) * (W : Int) = ((y * W : Nat) : Int) := by push_cast; rfl
  have h4 : w64 ((y * W : Nat) : Int) = ((y * W : Nat) : Int) := w64_id (by omega) (by omega)
  rw [h3, h4, w64_id (by omega) (by omega)]
  omega
end

theorem wu_range (z : Int) : 0 ≤ wu64 z ∧ wu64 z < 18446744073709551616 := by
  unfold wu64 IntKind.wrap
  simp only [IntKind.bits, IntKind.signed]
  simp
  omega

def cst (W : Nat) (f : Nat → Nat → Int) (z : Int) (d i : Nat) : Int := if d ≤ i % W then f i (i - d) else z

theorem mod_le' {i W : Nat} : i % W ≤ i := Nat.mod_le _ _

theorem costs_eq {W D N : Nat} (hW : 0 < W) (hD : D ≤ 64) (hN : N ≤ 4096) (h m : Int) (px l r : List Int) (z : Int) (hl : l.length = N) (hr : r.length = N) (F : Int → Int → Option Int) (f : Nat → Nat → Int)
    (hF : ∀ i k, i < N → k < N → F (l.getD i 0) (r.getD k 0) = some (f i k)) : census_costs W h m px l r D z F = some ((W : Int), h, (D : Int), grid D N (cst W f z)) := by
  have hND : N * D ≤ 4096 * 64 := Nat.mul_le_mul hN hD
  unfold census_costs
  rw [app_loop (D := D) (N := N) (by omega) (by omega) (by omega) (cst W f z) (fun s => census_costs_s1 W l r D z F s.1 s.2) (fun i s => census_costs_s2 W r D z F i (l.getD i 0) s.1 s.2)]
  · rfl
  · intro i d q hi hd hq
    show census_costs_s2 _ _ _ _ _ _ _ _ _ = _
    unfold census_costs_s2
    dsimp only
    have hm : Int.tmod (i : Int) (W : Int) = ((i % W : Nat) : Int) := rfl
    rw [if_pos (decide_eq_true (by omega)), chk_pos (by omega), hm]
    have hmi := mod_le' (i := i) (W := W)
    unfold cst
    by_cases hc : d ≤ i % W
    · rw [if_pos (decide_eq_true (by omega)), if_pos hc, w64_id (by omega) (by omega), ix_getD (i := i - d) (by omega) (by omega) 0, Option.bind_some, hF i (i - d) hi (by omega), Option.bind_some, Option.bind_some, chk_pos (by omega), w64_id (by omega) (by omega)]
      rfl
    · rw [if_neg (by rw [decide_eq_true_eq]; omega), if_neg hc, Option.bind_some, chk_pos (by omega), w64_id (by omega) (by omega)]
      rfl
  · intro i q hi
    show census_costs_s2 _ _ _ _ _ _ _ _ _ = _
    unfold census_costs_s2
    dsimp only
    rw [if_neg (by simp)]
  · intro i q q' hi hq
    show census_costs_s1 _ _ _ _ _ _ _ _ = _
    unfold census_costs_s1
    dsimp only
    rw [if_pos (decide_eq_true (by omega)), ix_getD (i := i) rfl (by omega) 0, Option.bind_some, hq, Option.bind_some, w64_id (by omega) (by omega)]
    rfl
  · intro q
    show census_costs_s1 _ _ _ _ _ _ _ _ = _
    unfold census_costs_s1
    dsimp only
    rw [if_neg (by simp [hl])]

structure VC (W H D : Nat) (c : List Int) : Prop where
  w1 : 1 ≤ W
  w2 : W ≤ 64
  h1 : 1 ≤ H
  h2 : H ≤ 64
  d1 : 1 ≤ D
  d2 : D ≤ 64
  len : c.length = H * W * D
  ok : ∀ v ∈ c, 0 ≤ v ∧ v ≤ 1048576

def badc (v : Int) : Bool := decide (v < 0) || decide (1048576 < v)

theorem VC.n {W H D : Nat} {c : List Int} (v : VC W H D c) : H * W ≤ 4096 ∧ H * W * D ≤ 262144 := by
  have h1 : H * W ≤ 64 * 64 := Nat.mul_le_mul v.h2 v.w2
  have h2 : H * W * D ≤ (64 * 64) * 64 := Nat.mul_le_mul h1 v.d2
  omega

theorem VC.bad {W H D : Nat} {c : List Int} (v : VC W H D c) : c.any badc = false := by
  rw [List.any_eq_false]
  intro x hx
  have := v.ok x hx
  unfold badc
  simp
  omega

theorem mul3 (W H D : Nat) (hn : H * W ≤ 4096) (hd : H * W * D ≤ 262144) : w64 ((w64 ((W : Int) * (H : Int))) * (D : Int)) = ((H * W * D : Nat) : Int) := by
  have e1 : (W : Int) * (H : Int) = ((H * W : Nat) : Int) := by rw [Nat.mul_comm]; push_cast; rfl
  have e2 : w64 ((H * W : Nat) : Int) = ((H * W : Nat) : Int) := w64_id (by omega) (by omega)
  have e3 : ((H * W : Nat) : Int) * (D : Int) = ((H * W * D : Nat) : Int) := by push_cast; rfl
  rw [e1, e2, e3, w64_id (by omega) (by omega)]

theorem ccheck_good {W H D : Nat} {c : List Int} (v : VC W H D c) : census_Check W H D c = some 0 := by
  obtain ⟨n1, n2⟩ := v.n
  unfold census_Check
  have := v.len
  obtain ⟨w1, w2, h1, h2, d1, d2, _, _⟩ := v
  rw [if_neg (by simp; omega), if_neg (by simp; omega), if_neg (by simp; omega), if_neg (by simp; omega), if_neg (by simp; omega), if_neg (by simp; omega), mul3 W H D n1 n2, this, Option.bind_some, if_neg (by simp),
    any_int (g := badc) (fun z => by unfold census_Check_c1 badc; by_cases hz : z < 0 <;> simp [hz]) (by omega), Option.bind_some, VC.bad ⟨w1, w2, h1, h2, d1, d2, this, by assumption⟩]
  rfl

theorem cst_valid {W H D : Nat} (hw1 : 1 ≤ W) (hw : W ≤ 64) (hh1 : 1 ≤ H) (hh : H ≤ 64) (hd1 : 1 ≤ D) (hd : D ≤ 64) {f : Nat → Nat → Int} {z : Int} (hz : 0 ≤ z ∧ z ≤ 1048576) (hf : ∀ i k, i < H * W → k < H * W → 0 ≤ f i k ∧ f i k ≤ 1048576) : VC W H D (grid D (H * W) (cst W f z)) := by
  refine ⟨hw1, hw, hh1, hh, hd1, hd, grid_len _ _ _, fun v hv => ?_⟩
  obtain ⟨d, i, h1, h2, rfl⟩ := grid_mem hv
  unfold cst
  have := mod_le' (i := i) (W := W)
  split
  · exact hf i (i - d) h2 (by omega)
  · exact hz

theorem pos_div {W i : Nat} (hW : 0 < W) : i / W * W + i % W = i := by rw [Nat.mul_comm]; exact Nat.div_add_mod i W

theorem grid_getD {W H : Nat} (g : Nat → Nat → Int) {i : Nat} (hi : i < H * W) : (grid W H g).getD i 0 = g (i % W) (i / W) := by
  have hW : 0 < W := by
    rcases Nat.eq_zero_or_pos W with h0 | h0
    · subst h0; simp at hi
    · exact h0
  have h1 : i % W < W := Nat.mod_lt _ hW
  have h2 : i / W < H := Nat.div_lt_of_lt_mul (by rw [Nat.mul_comm]; exact hi)
  have := grid_get W g H (i % W) (i / W) h1 h2
  rw [pos_div hW] at this
  rw [List.getD_eq_getElem?_getD, this]
  rfl

def df (a b : Int) : Int := if w64 (a - b) < w64 (b - a) then w64 (b - a) else w64 (a - b)

theorem df_range {a b : Int} (ha : 0 ≤ a ∧ a ≤ 65535) (hb : 0 ≤ b ∧ b ≤ 65535) : 0 ≤ df a b ∧ df a b ≤ 65535 := by
  unfold df
  have e1 : w64 (a - b) = a - b := w64_id (by omega) (by omega)
  have e2 : w64 (b - a) = b - a := w64_id (by omega) (by omega)
  rw [e1, e2]
  split <;> omega

theorem df_self {a : Int} (ha : 0 ≤ a ∧ a ≤ 65535) : df a a = 0 := by
  unfold df
  have e1 : w64 (a - a) = 0 := by rw [w64_id (by omega) (by omega)]; omega
  rw [e1]
  rfl

def pf (W : Nat) (g g' : Nat → Nat → Int) (i k : Nat) : Int := df (g (i % W) (i / W)) (g' (k % W) (k / W))

section
variable {W H : Nat} {m : Int} {g g' : Nat → Nat → Int}
theorem in_grid (hW : 0 < W) {i : Nat} (hi : i < H * W) : i % W < W ∧ i / W < H := ⟨Nat.mod_lt _ hW, Nat.div_lt_of_lt_mul (by rw [Nat.mul_comm]; exact hi)⟩
end

section
variable {W H : Nat} {m : Int} {g g' : Nat → Nat → Int}
theorem depth_ok {D : Nat} (h1 : 1 ≤ D) (h2 : D ≤ 64) : (if (decide ((D : Int) < 1)) = true then some true else some (decide (64 < (D : Int)))) = some false := by
  rw [if_neg (by simp; omega)]
  congr 1
  simp; omega
end

section
variable {W H : Nat} {m : Int} {g g' : Nat → Nat → Int}
theorem pf_valid (hb : Bd W H m g) (hb' : Bd W H m g') {D : Nat} (h1 : 1 ≤ D) (h2 : D ≤ 64) : VC W H D (grid D (H * W) (cst W (pf W g g') (m + 1))) := by
  obtain ⟨b1, b2, b3, b4, b5, b6, b7⟩ := hb
  obtain ⟨_, _, _, _, _, _, c7⟩ := hb'
  refine cst_valid b1 b2 b3 b4 h1 h2 (by omega) (fun i k hi hk => ?_)
  obtain ⟨i1, i2⟩ := in_grid (H := H) (by omega) hi
  obtain ⟨k1, k2⟩ := in_grid (H := H) (by omega) hk
  have a1 := b7 _ _ i1 i2
  have a2 := c7 _ _ k1 k2
  have := df_range (a := g (i % W) (i / W)) (b := g' (k % W) (k / W)) (by omega) (by omega)
  unfold pf
  omega
end

theorem depth_cases (d : Int) : (∃ D : Nat, d = D ∧ 1 ≤ D ∧ D ≤ 64) ∨ (if (decide (d < 1)) = true then some true else some (decide (64 < d))) = some true := by
  by_cases h1 : d < 1
  · exact .inr (by rw [if_pos (decide_eq_true h1)])
  · by_cases h2 : 64 < d
    · exact .inr (by rw [if_neg (by simpa using h1), decide_eq_true h2])
    · exact .inl ⟨d.toNat, by omega, by omega, by omega⟩

theorem bvnat (k : Nat) (hk : k < 2 ^ 64) : (BitVec.ofInt 64 (k : Int)).toNat = k := by
  rw [BitVec.toNat_ofInt]
  have : ((k : Int) % ((2 ^ 64 : Nat) : Int)).toNat = k := by
    rw [Int.emod_eq_of_lt (by omega) (by simp; omega)]
    omega
  exact this

def nv (r : Nat) : Int := (2 * r + 1) * (2 * r + 1)

theorem nv_ok {r : Nat} (hr : (r : Int) = 1 ∨ (r : Int) = 2) : w64 ((w64 ((w64 (2 * (r : Int))) + 1)) * (w64 ((w64 (2 * (r : Int))) + 1))) = nv r ∧ 0 ≤ nv r ∧ nv r ≤ 25 := by
  rcases hr with hr | hr
  · obtain rfl : r = 1 := by omega
    exact ⟨by decide, by decide, by decide⟩
  · obtain rfl : r = 2 := by omega
    exact ⟨by decide, by decide, by decide⟩

def bix (l : List Int) : Int := match slices_Min_sint l with
  | some M => (slices_Index_sint l M).getD 0
  | none => 0

theorem bix_ok {l : List Int} (h0 : l ≠ []) (hn : l.length ≤ 1000000) : ∃ M, slices_Min_sint l = some M ∧ slices_Index_sint l M = some (bix l) ∧ M ∈ l ∧ (∀ v ∈ l, M ≤ v) ∧ ∃ i : Nat, bix l = i ∧ i < l.length ∧ l[i]? = some M ∧ ∀ j : Nat, j < i → l[j]? ≠ some M := by
  obtain ⟨M, h1, h2, h3⟩ := min_spec h0 hn
  rcases index_spec l M hn with ⟨i, a1, a2, a3, a4⟩ | ⟨h9, _⟩
  · have e : bix l = (i : Int) := by unfold bix; rw [h1]; simp only; rw [a4]; rfl
    exact ⟨M, h1, by rw [e]; exact a4, h2, h3, i, e, a1, a2, a3⟩
  · exact absurd h2 h9

theorem foldS_map {α β : Type} (step : List β → α → Option (List β)) (f : α → β) : ∀ (xs : List α) (acc : List β), (∀ x ∈ xs, ∀ l : List β, l.length ≤ acc.length + xs.length → step l x = some (l ++ [f x])) → foldS step acc xs = some (acc ++ xs.map f)
  | [], acc, _ => by simp [foldS]
  | x :: xs, acc, h => by
    simp only [foldS]
    rw [h x (by simp) acc (by omega), Option.bind_some, foldS_map step f xs (acc ++ [f x]) (fun y hy l hl => h y (by simp [hy]) l (by simp at hl ⊢; omega))]
    simp

def rowi (D : Nat) (cc : Nat → Nat → Int) (i : Nat) : List Int := (List.range D).map fun d => cc d i

theorem rowi_len (D : Nat) (cc : Nat → Nat → Int) (i : Nat) : (rowi D cc i).length = D := by simp [rowi]

theorem rowi_get (D : Nat) (cc : Nat → Nat → Int) (i : Nat) {d : Nat} (hd : d < D) : (rowi D cc i)[d]? = some (cc d i) := by simp [rowi, hd]

theorem row_part {D N : Nat} (cc : Nat → Nat → Int) {i : Nat} (hi : i < N) : ((grid D N cc).drop (i * D)).take D = rowi D cc i := by
  apply List.ext_getElem?
  intro d
  rw [List.getElem?_take]
  by_cases hd : d < D
  · rw [if_pos hd, List.getElem?_drop, grid_get D cc N d i hd hi, rowi_get D cc i hd]
  · rw [if_neg hd, List.getElem?_eq_none (by rw [rowi_len]; omega)]

theorem row_part2 {D N : Nat} (cc : Nat → Nat → Int) {i : Nat} (hi : i < N) : ((grid D N cc).take ((i + 1) * D)).drop (i * D) = rowi D cc i := by
  rw [List.drop_take, Nat.add_mul, Nat.one_mul, Nat.add_sub_cancel_left, row_part cc hi]

theorem chunks_grid {D N : Nat} (hD : 0 < D) (cc : Nat → Nat → Int) : chunksOf D (grid D N cc) = (List.range N).map (rowi D cc) := by
  unfold chunksOf
  have e : ((grid D N cc).length + D - 1) / D = N := by
    rw [grid_len]
    have h1 : N * D + D - 1 = (D - 1) + D * N := by rw [Nat.mul_comm D N]; omega
    rw [h1, Nat.add_mul_div_left _ _ hD, Nat.div_eq_of_lt (by omega), Nat.zero_add]
  rw [e]
  exact List.map_congr_left fun i hi => row_part cc (List.mem_range.1 hi)

theorem VC.cells {W H D : Nat} {c : List Int} (v : VC W H D c) : ∃ cc, c = grid D (H * W) cc ∧ ∀ d i, d < D → i < H * W → 0 ≤ cc d i ∧ cc d i ≤ 1048576 := by
  refine ⟨_, grid_of D (H * W) c v.len, fun d i hd hi => ?_⟩
  have hlt : i * D + d < c.length := by rw [v.len]; exact cell_lt hd hi
  show 0 ≤ c.getD (i * D + d) 0 ∧ c.getD (i * D + d) 0 ≤ 1048576
  rw [getD_eq hlt]
  exact v.ok _ (List.getElem_mem hlt)

theorem rowi_ne {D : Nat} (hD : 0 < D) (cc : Nat → Nat → Int) (i : Nat) : rowi D cc i ≠ [] := fun h => by
  have := rowi_len D cc i
  rw [h] at this
  simp at this
  omega

section
variable {W H D : Nat} {cc : Nat → Nat → Int}
def bestL (D N : Nat) (cc : Nat → Nat → Int) : List Int := (List.range N).map fun i => bix (rowi D cc i)
end

section
variable {W H D : Nat} {cc : Nat → Nat → Int}
theorem Best_eq (v : VC W H D (grid D (H * W) cc)) : census_Best W H D (grid D (H * W) cc) = some (bestL D (H * W) cc, 0) := by
  obtain ⟨n1, n2⟩ := v.n
  have hl := v.len
  have d1 := v.d1
  have d2 := v.d2
  unfold census_Best
  have hDt : ((D : Int)).toNat = D := by omega
  rw [ccheck_good v, Option.bind_some, if_neg (by decide), if_neg (by simp; omega), chk_pos (by omega), hDt, chunks_grid (by omega) cc,
    foldS_map (fun s x => census_Best_s1 s x) bix ((List.range (H * W)).map (rowi D cc)) [] (fun x hx l hll => by
      obtain ⟨i, hi, rfl⟩ := List.mem_map.1 hx
      have hne := rowi_ne (by omega : 0 < D) cc i
      obtain ⟨M, a1, a2, _⟩ := bix_ok hne (by rw [rowi_len]; omega)
      simp at hll
      unfold census_Best_s1
      rw [a1, Option.bind_some, a2, Option.bind_some, chk_pos (by omega)])]
  rw [List.map_map]
  rfl
end

section
variable {W H D : Nat} {cc : Nat → Nat → Int}
theorem wh_eq (W H : Nat) (hn : H * W ≤ 4096) : w64 ((W : Int) * (H : Int)) = ((H * W : Nat) : Int) := by
  have e1 : (W : Int) * (H : Int) = ((H * W : Nat) : Int) := by rw [Nat.mul_comm]; push_cast; rfl
  rw [e1, w64_id (by omega) (by omega)]
end

section
variable {W H D : Nat} {cc : Nat → Nat → Int}
theorem nmul (a b : Nat) (h : a * b ≤ 1000000000) : w64 ((a : Int) * (b : Int)) = ((a * b : Nat) : Int) := by
  have e1 : (a : Int) * (b : Int) = ((a * b : Nat) : Int) := by push_cast; rfl
  rw [e1, w64_id (by omega) (by omega)]
end

section
variable {W H D : Nat} {cc : Nat → Nat → Int}
def rgt (W : Nat) (cc : Nat → Nat → Int) (M : Int) (d i : Nat) : Int := if i % W + d < W then cc d (i + d) else M
end

section
variable {W H D : Nat} {cc : Nat → Nat → Int}
theorem rgt_in (hW : 0 < W) {i d : Nat} (hi : i < H * W) (hd : i % W + d < W) : i + d < H * W := by
  have h1 := pos_div (W := W) (i := i) hW
  have h2 := (in_grid (H := H) hW hi).2
  have h3 : (i / W + 1) * W ≤ H * W := Nat.mul_le_mul_right W h2
  rw [Nat.add_mul] at h3
  omega
end

section
variable {W H D : Nat} {cc : Nat → Nat → Int}
theorem VC.ne (v : VC W H D (grid D (H * W) cc)) : grid D (H * W) cc ≠ [] := fun h => by
  have h1 := v.len
  rw [h] at h1
  have h2 : 0 < H * W := Nat.mul_pos v.h1 v.w1
  have h3 : 0 < H * W * D := Nat.mul_pos h2 v.d1
  simp only [List.length_nil] at h1
  omega
end

section
variable {W H D : Nat} {cc : Nat → Nat → Int}
theorem grid_vc (v : VC W H D (grid D (H * W) cc)) {q : Nat → Nat → Int} (hq : ∀ d i, d < D → i < H * W → 0 ≤ q d i ∧ q d i ≤ 1048576) : VC W H D (grid D (H * W) q) :=
  ⟨v.w1, v.w2, v.h1, v.h2, v.d1, v.d2, grid_len _ _ _, fun x hx => by
    obtain ⟨d, i, h1, h2, rfl⟩ := grid_mem hx
    exact hq d i h1 h2⟩
end

section
variable {W H D : Nat} {cc : Nat → Nat → Int}
theorem vc_at (v : VC W H D (grid D (H * W) cc)) {d i : Nat} (hd : d < D) (hi : i < H * W) : 0 ≤ cc d i ∧ cc d i ≤ 1048576 := v.ok _ (List.mem_of_getElem? (grid_get D cc (H * W) d i hd hi))
end

section
variable {W H D : Nat} {cc : Nat → Nat → Int}
theorem rgt_vc (v : VC W H D (grid D (H * W) cc)) {M : Int} (hM : 0 ≤ M ∧ M ≤ 1048576) : VC W H D (grid D (H * W) (rgt W cc M)) := grid_vc v fun d i hd hi => by
  unfold rgt
  split
  · exact vc_at v hd (rgt_in v.w1 hi (by assumption))
  · exact hM
end

def fl (W i : Nat) : Nat := i / W * W + (W - 1 - i % W)

theorem fl_div {W : Nat} (hW : 0 < W) (i : Nat) : fl W i / W = i / W := by
  unfold fl
  rw [Nat.mul_comm, Nat.mul_add_div hW, Nat.div_eq_of_lt (by omega : W - 1 - i % W < W), Nat.add_zero]

theorem fl_mod {W : Nat} (hW : 0 < W) (i : Nat) : fl W i % W = W - 1 - i % W := by
  unfold fl
  rw [Nat.mul_comm, Nat.mul_add_mod, Nat.mod_eq_of_lt (by omega)]

theorem fl_lt {W H i : Nat} (hW : 0 < W) (hi : i < H * W) : fl W i < H * W := by
  have h2 := (in_grid (H := H) hW hi).2
  have h3 : (i / W + 1) * W ≤ H * W := Nat.mul_le_mul_right W h2
  rw [Nat.add_mul] at h3
  unfold fl
  omega

theorem twice_at {W H : Nat} (hW : 0 < W) (cc : Nat → Nat → Int) (M M2 : Int) {d i : Nat} (hi : i < H * W) (hd : d ≤ i % W) :
    rgt W (fun d i => rgt W cc M d (fl W i)) M2 d (fl W i) = cc d i := by
  have hmw := Nat.mod_lt i hW
  have hpd := pos_div (W := W) (i := i) hW
  have e1 := fl_mod hW i
  unfold rgt
  rw [if_pos (by omega)]
  have e2 : fl W (fl W i + d) = i - d := by
    have h1 : fl W i + d = i / W * W + (W - 1 - i % W + d) := by unfold fl; omega
    have h2 : (fl W i + d) / W = i / W := by rw [h1, Nat.mul_comm, Nat.mul_add_div hW, Nat.div_eq_of_lt (by omega : W - 1 - i % W + d < W), Nat.add_zero]
    have h3 : (fl W i + d) % W = W - 1 - i % W + d := by rw [h1, Nat.mul_comm, Nat.mul_add_mod, Nat.mod_eq_of_lt (by omega)]
    show (fl W i + d) / W * W + (W - 1 - (fl W i + d) % W) = i - d
    rw [h2, h3]
    omega
  show (if fl W (fl W i + d) % W + d < W then cc d (fl W (fl W i + d) + d) else M) = cc d i
  rw [e2]
  have h4 : i - d = i / W * W + (i % W - d) := by omega
  have e3 : (i - d) % W = i % W - d := by rw [h4, Nat.mul_comm, Nat.mul_add_mod, Nat.mod_eq_of_lt (by omega)]
  rw [if_pos (by omega)]
  congr 1
  omega

theorem bix_zero {D : Nat} (hD : 0 < D) (hD2 : D ≤ 64) {cc : Nat → Nat → Int} {i : Nat} (h0 : cc 0 i = 0) (h1 : ∀ d, d < D → 0 ≤ cc d i) : bix (rowi D cc i) = 0 := by
  obtain ⟨M, _, _, a3, a4, j, b1, b2, b3, b4⟩ := bix_ok (rowi_ne hD cc i) (by rw [rowi_len]; omega)
  have hM : M = 0 := by
    have e1 := a4 0 (List.mem_of_getElem? (by rw [rowi_get D cc i hD, h0]))
    obtain ⟨k, hk⟩ := List.getElem?_of_mem a3
    have hkl := (List.getElem?_eq_some_iff.1 hk).1
    rw [rowi_len] at hkl
    rw [rowi_get D cc i hkl] at hk
    have := h1 k hkl
    have := Option.some.inj hk
    omega
  rw [b1]
  rcases Nat.eq_zero_or_pos j with h | h
  · rw [h]; rfl
  · exact absurd (by rw [rowi_get D cc i hD, h0, hM]) (b4 0 h)

theorem u8mod {p : Int} (hp : 0 ≤ p ∧ p < 256) (k : Nat) (hk : 0 < k) (hk2 : k ≤ 10) : ∃ D : Nat, w64 (1 + Int.tmod (w64 p) (k : Int)) = (D : Int) ∧ 1 ≤ D ∧ D ≤ k := by
  obtain ⟨q, rfl⟩ : ∃ q : Nat, p = q := ⟨p.toNat, by omega⟩
  have e1 : w64 (q : Int) = q := w64_id (by omega) (by omega)
  have e2 : Int.tmod (q : Int) (k : Int) = ((q % k : Nat) : Int) := rfl
  have := Nat.mod_lt q hk
  refine ⟨q % k + 1, ?_, by omega, by omega⟩
  rw [e1, e2, w64_id (by omega) (by omega)]
  omega

section
variable {W H : Nat} {m : Int} {g : Nat → Nat → Int}
def shg (W s : Nat) (g : Nat → Nat → Int) (b : Nat → Int) (x y : Nat) : Int := if x + s < W then g (x + s) y else b (y * W + x)
end

section
variable {W H : Nat} {m : Int} {g : Nat → Nat → Int}
theorem shg_bd (hb : Bd W H m g) {s : Nat} {b : Nat → Int} (hbb : ∀ i, 0 ≤ b i ∧ b i ≤ m) : Bd W H m (shg W s g b) := by
  obtain ⟨b1, b2, b3, b4, b5, b6, b7⟩ := hb
  refine ⟨b1, b2, b3, b4, b5, b6, fun x y hx hy => ?_⟩
  unfold shg
  split
  · exact b7 _ _ (by assumption) hy
  · exact hbb _
end

theorem zero_ix {W H D : Nat} {cc : Nat → Nat → Int} {i d : Nat} (hd : d < D) (hi : i < H * W) {z : Int} (hz : z = ((i * D + d : Nat) : Int)) (h : cc d i = 0) : ix (grid D (H * W) cc) z = some 0 := by
  rw [← h]; exact ix_get hz (grid_get D cc (H * W) d i hd hi)

end Go.Proofs.Ytbolefkhmfbnlaa
