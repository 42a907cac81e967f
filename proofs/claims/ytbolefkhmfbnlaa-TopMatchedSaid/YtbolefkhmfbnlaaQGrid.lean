/-
  PLAIN: rows of pixels as functions of two numbers.
-/
import Derived.Test.YtbolefkhmfbnlaaP1
import Derived.KernelRfl
set_option linter.unusedSimpArgs false
namespace Go.Proofs.Ytbolefkhmfbnlaa
open Go.E

def grid (W H : Nat) (g : Nat → Nat → Int) : List Int := (List.range H).flatMap fun y => (List.range W).map fun x => g x y

theorem grid_succ (W H : Nat) (g : Nat → Nat → Int) : grid W (H + 1) g = grid W H g ++ (List.range W).map fun x => g x H := by
  unfold grid
  rw [List.range_succ, List.flatMap_append]
  simp

theorem grid_len (W : Nat) (g : Nat → Nat → Int) : ∀ H : Nat, (grid W H g).length = H * W
  | 0 => by simp [grid]
  | H + 1 => by rw [grid_succ, List.length_append, grid_len W g H, Nat.add_mul]; simp

theorem grid_get (W : Nat) (g : Nat → Nat → Int) : ∀ (H x y : Nat), x < W → y < H → (grid W H g)[y * W + x]? = some (g x y)
  | 0, x, y, _, hy => by omega
  | H + 1, x, y, hx, hy => by
    rw [grid_succ]
    by_cases h : y < H
    · have hlt : y * W + x < H * W := by
        have : (y + 1) * W ≤ H * W := Nat.mul_le_mul_right W h
        rw [Nat.add_mul] at this
        omega
      rw [List.getElem?_append_left (by rw [grid_len]; exact hlt)]
      exact grid_get W g H x y hx h
    · obtain rfl : y = H := by omega
      rw [List.getElem?_append_right (by rw [grid_len]; omega), grid_len]
      simp [hx]

theorem grid_ext {W H : Nat} {g : Nat → Nat → Int} {l : List Int} (hl : l.length = H * W) (h : ∀ x y, x < W → y < H → l[y * W + x]? = some (g x y)) : l = grid W H g := by
  apply List.ext_getElem?
  intro i
  by_cases hi : i < H * W
  · have hW : 0 < W := by
      rcases Nat.eq_zero_or_pos W with h0 | h0
      · subst h0; simp at hi
      · exact h0
    have e : i / W * W + i % W = i := by rw [Nat.mul_comm]; exact Nat.div_add_mod i W
    have h1 : i % W < W := Nat.mod_lt _ hW
    have h2 : i / W < H := Nat.div_lt_of_lt_mul (by rw [Nat.mul_comm]; exact hi)
    have a := h (i % W) (i / W) h1 h2
    have b := grid_get W g H (i % W) (i / W) h1 h2
    rw [e] at a b
    rw [a, b]
  · rw [List.getElem?_eq_none (by omega), List.getElem?_eq_none (by rw [grid_len]; omega)]

theorem grid_congr {W H : Nat} {g g' : Nat → Nat → Int} (h : ∀ x y, x < W → y < H → g x y = g' x y) : grid W H g = grid W H g' :=
  grid_ext (grid_len W g H) (fun x y hx hy => by rw [grid_get W g H x y hx hy, h x y hx hy])

theorem grid_of (W H : Nat) (l : List Int) (hl : l.length = H * W) : l = grid W H (fun x y => l.getD (y * W + x) 0) :=
  grid_ext hl (fun x y hx hy => by
    have hlt : y * W + x < l.length := by
      have : (y + 1) * W ≤ H * W := Nat.mul_le_mul_right W hy
      rw [Nat.add_mul] at this
      omega
    simp [hlt])

theorem cell_inj {W x y x' y' : Nat} (hx : x < W) (hx' : x' < W) (h : y' * W + x' = y * W + x) : x' = x ∧ y' = y := by
  have h1 : (y' * W + x') % W = (y * W + x) % W := by rw [h]
  rw [Nat.mul_comm y', Nat.mul_comm y, Nat.mul_add_mod, Nat.mul_add_mod, Nat.mod_eq_of_lt hx, Nat.mod_eq_of_lt hx'] at h1
  subst h1
  refine ⟨rfl, ?_⟩
  have h2 : y' * W = y * W := by omega
  exact Nat.eq_of_mul_eq_mul_right (by omega) h2

theorem grid_set {W H : Nat} (g : Nat → Nat → Int) {x y : Nat} (hx : x < W) (hy : y < H) (v : Int) : (grid W H g).set (y * W + x) v = grid W H (fun x' y' => if x' = x ∧ y' = y then v else g x' y') := by
  apply grid_ext
  · rw [List.length_set, grid_len]
  · intro x' y' hx' hy'
    by_cases h : x' = x ∧ y' = y
    · obtain ⟨rfl, rfl⟩ := h
      have hlt : y' * W + x' < (grid W H g).length := by
        rw [grid_len]
        have : (y' + 1) * W ≤ H * W := Nat.mul_le_mul_right W hy
        rw [Nat.add_mul] at this
        omega
      rw [List.getElem?_set_self hlt]; simp
    · rw [List.getElem?_set_ne (fun he => h (cell_inj hx hx' he.symm)), grid_get W g H x' y' hx' hy', if_neg h]

theorem grid_mem {W H : Nat} {g : Nat → Nat → Int} {v : Int} (h : v ∈ grid W H g) : ∃ x y, x < W ∧ y < H ∧ v = g x y := by
  unfold grid at h
  obtain ⟨y, hy, h⟩ := List.mem_flatMap.1 h
  obtain ⟨x, hx, rfl⟩ := List.mem_map.1 h
  exact ⟨x, y, List.mem_range.1 hx, List.mem_range.1 hy, rfl⟩

theorem cell_lt {W H x y : Nat} (hx : x < W) (hy : y < H) : y * W + x < H * W := by
  have : (y + 1) * W ≤ H * W := Nat.mul_le_mul_right W hy
  rw [Nat.add_mul] at this
  omega

def Good (w h m : Int) (px : List Int) : Prop := 1 ≤ w ∧ w ≤ 64 ∧ 1 ≤ h ∧ h ≤ 64 ∧ 1 ≤ m ∧ m ≤ 65535 ∧ (px.length : Int) = w * h ∧ ∀ v ∈ px, 0 ≤ v ∧ v ≤ m

theorem mul_le64 {w h : Int} (h1 : 0 ≤ w) (h2 : w ≤ 64) (h3 : 0 ≤ h) (h4 : h ≤ 64) : 0 ≤ w * h ∧ w * h ≤ 4096 :=
  ⟨Int.mul_nonneg h1 h3, by have := Int.mul_le_mul h2 h4 h3 (by omega : (0 : Int) ≤ 64); omega⟩

def Bd (W H : Nat) (m : Int) (g : Nat → Nat → Int) : Prop := 1 ≤ W ∧ W ≤ 64 ∧ 1 ≤ H ∧ H ≤ 64 ∧ 1 ≤ m ∧ m ≤ 65535 ∧ ∀ x y, x < W → y < H → 0 ≤ g x y ∧ g x y ≤ m

theorem Bd.good {W H : Nat} {m : Int} {g : Nat → Nat → Int} (h : Bd W H m g) : Good W H m (grid W H g) := by
  obtain ⟨h1, h2, h3, h4, h5, h6, h7⟩ := h
  refine ⟨by omega, by omega, by omega, by omega, h5, h6, ?_, fun v hv => ?_⟩
  · rw [grid_len, Nat.mul_comm]; simp
  · obtain ⟨x, y, hx, hy, rfl⟩ := grid_mem hv
    exact h7 x y hx hy

theorem Good.grid {w h m : Int} {px : List Int} (hg : Good w h m px) : ∃ (W H : Nat) (g : Nat → Nat → Int), w = W ∧ h = H ∧ px = grid W H g ∧ Bd W H m g := by
  obtain ⟨h1, h2, h3, h4, h5, h6, h7, h8⟩ := hg
  obtain ⟨W, rfl⟩ : ∃ W : Nat, w = W := ⟨w.toNat, by omega⟩
  obtain ⟨H, rfl⟩ : ∃ H : Nat, h = H := ⟨h.toNat, by omega⟩
  have hl : px.length = H * W := by
    have : ((px.length : Nat) : Int) = ((H * W : Nat) : Int) := by rw [h7, Nat.mul_comm]; simp
    exact_mod_cast this
  refine ⟨W, H, _, rfl, rfl, grid_of W H px hl, by omega, by omega, by omega, by omega, h5, h6, fun x y hx hy => ?_⟩
  have hlt : y * W + x < px.length := by rw [hl]; exact cell_lt hx hy
  have : px.getD (y * W + x) 0 = px[y * W + x] := by simp [hlt]
  show 0 ≤ px.getD (y * W + x) 0 ∧ px.getD (y * W + x) 0 ≤ m
  rw [this]
  exact h8 _ (List.getElem_mem hlt)

theorem Bd.turn {W H : Nat} {m : Int} {g : Nat → Nat → Int} (hb : Bd W H m g) : Bd H W m (fun x y => g (W - 1 - y) x) := by
  obtain ⟨h1, h2, h3, h4, h5, h6, h7⟩ := hb
  exact ⟨h3, h4, h1, h2, h5, h6, fun x y hx hy => h7 _ _ (by omega) hx⟩

theorem Bd.mirror {W H : Nat} {m : Int} {g : Nat → Nat → Int} (hb : Bd W H m g) : Bd W H m (fun x y => g (W - 1 - x) y) := by
  obtain ⟨h1, h2, h3, h4, h5, h6, h7⟩ := hb
  exact ⟨h1, h2, h3, h4, h5, h6, fun x y hx hy => h7 _ _ (by omega) hy⟩

theorem grid_le {W H : Nat} (hW : W ≤ 64) (hH : H ≤ 64) (g : Nat → Nat → Int) : (grid W H g).length ≤ 1000000 := by
  rw [grid_len]
  have := Nat.mul_le_mul hH hW
  omega

theorem getD_of {l : List Int} {i : Nat} (h : i < l.length) : l[i] = l.getD i 0 := by simp [h]

theorem setall {n : Nat} (hn : n ≤ 1000000) (step : (List Int × Int) → Option (Step (List Int × Int) (List Int))) (f : Nat → Int) (l0 : List Int) (hl : l0.length = n)
    (h2 : ∀ (i : Nat) l, i < n → l.length = n → step (l, (i : Int)) = some (.next (l.set i (f i), ((i + 1 : Nat) : Int))))
    (hd : ∀ l, step (l, (n : Int)) = some (.done l)) : loopM FUEL step (l0, 0) = some ((List.range n).map f) := by
  have key : ∃ l, loopM FUEL step (l0, 0) = some l ∧ l = (List.range n).map f := by
    refine loop_inv (fun i s => ∃ l, s = (l, (i : Int)) ∧ i ≤ n ∧ l.length = n ∧ ∀ j, j < i → l[j]? = some (f j)) _ n (by unfold FUEL; omega) _ ⟨l0, rfl, by omega, hl, fun j hj => by omega⟩ ?_
    rintro i s ⟨l, rfl, hi, hlen, hall⟩
    by_cases hlt : i < n
    · refine .inl ⟨_, h2 i l hlt hlen, ⟨_, rfl, hlt, by rw [List.length_set, hlen], fun j hj => ?_⟩, hlt⟩
      rcases Nat.lt_succ_iff_lt_or_eq.1 hj with h | rfl
      · rw [List.getElem?_set_ne (by omega)]
        exact hall j h
      · rw [List.getElem?_set_self (by omega)]
    · obtain rfl : i = n := by omega
      refine .inr ⟨_, hd l, ?_⟩
      apply List.ext_getElem?
      intro j
      by_cases hj : j < i
      · rw [hall j hj]; simp [hj]
      · rw [List.getElem?_eq_none (by omega), List.getElem?_eq_none (by simp; omega)]
  obtain ⟨l, h1, rfl⟩ := key
  exact h1

theorem map_grid {W H : Nat} (g : Nat → Nat → Int) (F : Int → Int) : (List.range (grid W H g).length).map (fun i => F ((grid W H g).getD i 0)) = grid W H (fun x y => F (g x y)) := by
  apply grid_ext
  · simp [grid_len]
  · intro x y hx hy
    have hlt := cell_lt hx hy
    have := grid_get W g H x y hx hy
    rw [List.getElem?_map, List.getElem?_range (by rw [grid_len]; exact hlt)]
    simp only [Option.map_some]
    rw [List.getD_eq_getElem?_getD, this]
    rfl

theorem setloop {W H : Nat} (hW : W ≤ 64) (hH : H ≤ 64) (step2 : Int → (List Int × Int) → Option (Step (List Int × Int) (List Int))) (step1 : (List Int × Int) → Option (Step (List Int × Int) (List Int))) (g c0 : Nat → Nat → Int)
    (h2 : ∀ (x y : Nat) c, x < W → y < H → step2 y (grid W H c, (x : Int)) = some (.next (grid W H (fun x' y' => if x' = x ∧ y' = y then g x y else c x' y'), ((x + 1 : Nat) : Int))))
    (h2d : ∀ (y : Nat) c, y < H → step2 y (grid W H c, (W : Int)) = some (.done (grid W H c)))
    (h1 : ∀ (y : Nat) l l', y < H → loopM FUEL (step2 y) (l, 0) = some l' → step1 (l, (y : Int)) = some (.next (l', ((y + 1 : Nat) : Int))))
    (h1d : ∀ l, step1 (l, (H : Int)) = some (.done l)) : loopM FUEL step1 (grid W H c0, 0) = some (grid W H g) := by
  have inner : ∀ (y : Nat) c, y < H → ∃ l, loopM FUEL (step2 y) (grid W H c, 0) = some l ∧ l = grid W H (fun x' y' => if y' = y then g x' y' else c x' y') := by
    intro y c hy
    refine loop_inv (fun i s => s = (grid W H (fun x' y' => if y' = y ∧ x' < i then g x' y' else c x' y'), (i : Int)) ∧ i ≤ W) _ W (by unfold FUEL; omega) _ ⟨?_, by omega⟩ ?_
    · simp
    · rintro i s ⟨rfl, hi⟩
      by_cases hlt : i < W
      · refine .inl ⟨_, h2 i y _ hlt hy, ⟨?_, hlt⟩, hlt⟩
        congr 1
        refine grid_congr fun x' y' hx' hy' => ?_
        by_cases e1 : y' = y
        · subst e1
          by_cases e2 : x' = i
          · subst e2; simp
          · by_cases e3 : x' < i
            · simp [e2, e3]; intro; omega
            · have : ¬ x' < i + 1 := by omega
              simp [e2, e3, this]
        · simp [e1]
      · obtain rfl : i = W := by omega
        refine .inr ⟨_, h2d y _ hy, grid_congr fun x' y' hx' hy' => ?_⟩
        simp [hx']
  have outer : ∃ l, loopM FUEL step1 (grid W H c0, 0) = some l ∧ l = grid W H g := by
    refine loop_inv (fun i s => s = (grid W H (fun x' y' => if y' < i then g x' y' else c0 x' y'), (i : Int)) ∧ i ≤ H) _ H (by unfold FUEL; omega) _ ⟨by simp, by omega⟩ ?_
    rintro i s ⟨rfl, hi⟩
    by_cases hlt : i < H
    · obtain ⟨l, q1, q2⟩ := inner i _ hlt
      refine .inl ⟨_, h1 i _ _ hlt q1, ⟨?_, hlt⟩, hlt⟩
      rw [q2]
      congr 1
      refine grid_congr fun x' y' hx' hy' => ?_
      by_cases e1 : y' = i
      · subst e1; simp
      · by_cases e3 : y' < i
        · simp [e1, e3]; intro; omega
        · have : ¬ y' < i + 1 := by omega
          simp [e1, e3, this]
    · obtain rfl : i = H := by omega
      refine .inr ⟨_, h1d _, grid_congr fun x' y' hx' hy' => ?_⟩
      simp [hy']
  obtain ⟨l, q1, rfl⟩ := outer
  exact q1

end Go.Proofs.Ytbolefkhmfbnlaa
