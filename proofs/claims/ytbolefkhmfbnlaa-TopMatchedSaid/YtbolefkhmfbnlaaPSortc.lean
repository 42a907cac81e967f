/-
  PLAIN: the choice of a pivot.
-/
import Derived.Test.YtbolefkhmfbnlaaPSortb
set_option linter.unusedSimpArgs false
set_option linter.unusedVariables false
namespace Go.Proofs.Ytbolefkhmfbnlaa
open Go.E

theorem order2_ok {l : List Int} {i j : Nat} (hi : i < l.length) (hj : j < l.length) (q : Int) : ∃ (i' j' : Nat) (q' : Int), slices_order2Ordered_uint64 l i j q = some ((i' : Int), (j' : Int), l, q') ∧ ((i' = i ∧ j' = j) ∨ (i' = j ∧ j' = i)) := by
  unfold slices_order2Ordered_uint64
  rw [ix_getD (i := j) rfl hj 0, Option.bind_some, ix_getD (i := i) rfl hi 0, Option.bind_some, less_eq, Option.bind_some]
  by_cases h : l.getD j 0 < l.getD i 0
  · rw [if_pos (decide_eq_true h)]; exact ⟨j, i, _, rfl, .inr ⟨rfl, rfl⟩⟩
  · rw [if_neg (by simpa using h)]; exact ⟨i, j, _, rfl, .inl ⟨rfl, rfl⟩⟩
theorem median_ok {l : List Int} {a b c : Nat} (ha : a < l.length) (hb : b < l.length) (hc : c < l.length) (q : Int) : ∃ (m : Nat) (q' : Int), slices_medianOrdered_uint64 l a b c q = some ((m : Int), l, q') ∧ (m = a ∨ m = b ∨ m = c) := by
  unfold slices_medianOrdered_uint64
  obtain ⟨a1, b1, q1, e1, h1⟩ := order2_ok ha hb q
  rw [e1, Option.bind_some]
  dsimp only
  have hb1 : b1 < l.length := by rcases h1 with ⟨_, h⟩ | ⟨_, h⟩ <;> omega
  have ha1 : a1 < l.length := by rcases h1 with ⟨h, _⟩ | ⟨h, _⟩ <;> omega
  obtain ⟨b2, c2, q2, e2, h2⟩ := order2_ok hb1 hc q1
  rw [e2, Option.bind_some]
  dsimp only
  have hb2 : b2 < l.length := by rcases h2 with ⟨h, _⟩ | ⟨h, _⟩ <;> omega
  obtain ⟨a3, b3, q3, e3, h3⟩ := order2_ok ha1 hb2 q2
  rw [e3, Option.bind_some]
  refine ⟨b3, q3, rfl, ?_⟩
  omega
theorem medianAdj_ok {l : List Int} {i : Nat} (h0 : 0 < i) (hi : i + 1 < l.length) (hn : l.length ≤ 1000) (q : Int) : ∃ (m : Nat) (q' : Int), slices_medianAdjacentOrdered_uint64 l i q = some ((m : Int), l, q') ∧ i - 1 ≤ m ∧ m ≤ i + 1 := by
  unfold slices_medianAdjacentOrdered_uint64
  rw [w64_id (z := (i : Int) - 1) (by omega) (by omega), w64_id (z := (i : Int) + 1) (by omega) (by omega), show (i : Int) - 1 = ((i - 1 : Nat) : Int) by omega, show (i : Int) + 1 = ((i + 1 : Nat) : Int) by push_cast; rfl]
  obtain ⟨m, q', e, h⟩ := median_ok (l := l) (a := i - 1) (b := i) (c := i + 1) (by omega) (by omega) hi q
  rw [e, Option.bind_some]
  exact ⟨m, q', rfl, by omega, by omega⟩

theorem pivot_ok {l : List Int} {a b : Nat} (hab : a + 8 ≤ b) (hb : b ≤ l.length) (hn : l.length ≤ 1000) : ∃ (m : Nat) (h : Int), slices_choosePivotOrdered_uint64 l a b = some ((m : Int), h, l) ∧ a ≤ m ∧ m < b := by
  unfold slices_choosePivotOrdered_uint64
  obtain ⟨n, hnn⟩ : ∃ n : Nat, b = a + n := ⟨b - a, by omega⟩
  subst hnn
  have hw : w64 (((a + n : Nat) : Int) - (a : Int)) = (n : Int) := by rw [w64_id (by omega) (by omega)]; omega
  have hd : Int.tdiv (n : Int) 4 = ((n / 4 : Nat) : Int) := rfl
  have hk : ∀ c : Nat, c ≤ 3 → w64 ((a : Int) + w64 (w64 (Int.tdiv (n : Int) 4) * (c : Int))) = ((a + n / 4 * c : Nat) : Int) := fun c hc => by
    have : n / 4 * c ≤ n / 4 * 3 := Nat.mul_le_mul_left _ hc
    rw [hd, w64_id (z := ((n / 4 : Nat) : Int)) (by omega) (by omega), show ((n / 4 : Nat) : Int) * (c : Int) = ((n / 4 * c : Nat) : Int) by push_cast; rfl, w64_id (z := ((n / 4 * c : Nat) : Int)) (by omega) (by omega), w64_id (by omega) (by omega)]
    push_cast
    rfl
  have h1 := hk 1 (by omega)
  have h2 := hk 2 (by omega)
  have h3 := hk 3 (by omega)
  have k1 : w64 ((a : Int) + w64 (w64 (Int.tdiv (n : Int) 4) * 1)) = ((a + n / 4 * 1 : Nat) : Int) := h1
  have k2 : w64 ((a : Int) + w64 (w64 (Int.tdiv (n : Int) 4) * 2)) = ((a + n / 4 * 2 : Nat) : Int) := h2
  have k3 : w64 ((a : Int) + w64 (w64 (Int.tdiv (n : Int) 4) * 3)) = ((a + n / 4 * 3 : Nat) : Int) := h3
  rw [hw, k1, k2, k3, if_pos (by simp only [decide_eq_true_eq]; omega)]
  have fin : ∀ (m : Nat) (s : Int), a ≤ m → m < a + n → ∃ (m' : Nat) (h : Int), (if (s == 0) = true then some ((m : Int), (1 : Int), l) else if (s == 12) = true then some ((m : Int), (2 : Int), l) else some ((m : Int), (0 : Int), l)) = some ((m' : Int), h, l) ∧ a ≤ m' ∧ m' < a + n := fun m s g1 g2 => by
    split
    · exact ⟨m, 1, rfl, g1, g2⟩
    · split
      · exact ⟨m, 2, rfl, g1, g2⟩
      · exact ⟨m, 0, rfl, g1, g2⟩
  by_cases c : 50 ≤ n
  · rw [if_pos (by simp only [decide_eq_true_eq]; omega)]
    obtain ⟨m1, q1, e1, a1, b1⟩ := medianAdj_ok (l := l) (i := a + n / 4 * 1) (by omega) (by omega) hn 0
    rw [e1, Option.bind_some]
    dsimp only
    obtain ⟨m2, q2, e2, a2, b2⟩ := medianAdj_ok (l := l) (i := a + n / 4 * 2) (by omega) (by omega) hn q1
    rw [e2, Option.bind_some]
    dsimp only
    obtain ⟨m3, q3, e3, a3, b3⟩ := medianAdj_ok (l := l) (i := a + n / 4 * 3) (by omega) (by omega) hn q2
    rw [e3, Option.bind_some, Option.bind_some]
    dsimp only
    obtain ⟨m, q', e, h⟩ := median_ok (l := l) (a := m1) (b := m2) (c := m3) (by omega) (by omega) (by omega) q3
    rw [e, Option.bind_some, Option.bind_some]
    exact fin m q' (by omega) (by omega)
  · rw [if_neg (by simp only [decide_eq_true_eq]; omega), Option.bind_some]
    dsimp only
    obtain ⟨m, q', e, h⟩ := median_ok (l := l) (a := a + n / 4 * 1) (b := a + n / 4 * 2) (c := a + n / 4 * 3) (by omega) (by omega) (by omega) 0
    rw [e, Option.bind_some, Option.bind_some]
    exact fin m q' (by omega) (by omega)
end Go.Proofs.Ytbolefkhmfbnlaa
