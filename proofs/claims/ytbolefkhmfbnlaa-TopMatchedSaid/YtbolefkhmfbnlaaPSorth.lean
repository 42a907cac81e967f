/-
  PLAIN: insertion sort that gives up.
-/
import Derived.Test.YtbolefkhmfbnlaaPSortg
set_option linter.unusedSimpArgs false
set_option linter.unusedVariables false
namespace Go.Proofs.Ytbolefkhmfbnlaa
open Go.E

/-- All that is left of a is at most what the range holds. -/
def Lft (a b : Nat) (l : List Int) : Prop := ∀ x y, x < a → a ≤ y → y < b → l.getD x 0 ≤ l.getD y 0
theorem Lft.mx {a b : Nat} {l l' : List Int} (h : Lft a b l) (hm : Mx a b l l') (hb : b ≤ l.length) : Lft a b l' := fun x y h1 h2 h3 => by
  obtain ⟨y', g1, g2, g3⟩ := hm.mem hb (x := y) ⟨h2, h3⟩
  rw [← g3, hm.2.2 x (by omega)]
  exact h x y' h1 g1 g2
theorem srt_ext {a i : Nat} {l : List Int} (hi : a + 1 ≤ i) (hs : Srt a i l) : ∀ k, i ≤ k → (∀ x, i ≤ x → x < k → l.getD (x - 1) 0 ≤ l.getD x 0) → Srt a k l
  | 0, h, _ => by omega
  | k + 1, h, hx => by
    by_cases hk : i ≤ k
    · have ih := srt_ext hi hs k hk (fun x h1 h2 => hx x h1 (by omega))
      intro x y h1 h2 h3
      by_cases hy : y = k
      · subst hy
        have h4 := hx y hk (by omega)
        by_cases hx2 : x = y - 1
        · rw [hx2]; exact h4
        · have := ih x (y - 1) h1 (by omega) (by omega)
          omega
      · exact ih x y h1 h2 (by omega)
    · have : k + 1 = i := by omega
      rw [this]; exact hs

theorem shl_ok {a i : Nat} {l0 : List Int} (ha : a ≤ i) (hi : i < l0.length) (hn : l0.length ≤ 1000) (hs : Srt a i l0) (hL : Lft a (i + 1) l0) :
    ∃ l, loopM FUEL (fun s : List Int × Int => slices_partialInsertionSortOrdered_uint64_s4 s.1 s.2) (l0, (i : Int)) = some l ∧ Mx a (i + 1) l0 l ∧ Srt a (i + 1) l := by
  refine loop_inv (fun k s => ∃ j : Nat, s.2 = (j : Int) ∧ j + k = i ∧ a ≤ j ∧ Mx a (i + 1) l0 s.1 ∧ (∀ x y, a ≤ x → x < y → y ≤ i → x ≠ j → y ≠ j → s.1.getD x 0 ≤ s.1.getD y 0) ∧ ∀ y, j < y → y ≤ i → s.1.getD j 0 ≤ s.1.getD y 0) _ i (by unfold FUEL; omega) _
    ⟨i, rfl, rfl, ha, Mx.refl _ _ _, fun x y h1 h2 h3 h4 h5 => hs x y h1 h2 (by omega), fun y h1 h2 => by omega⟩ ?_
  rintro k ⟨l, z⟩ ⟨j, hz, hjk, haj, hm, h1, h2⟩
  dsimp only at hz hm h1 h2
  subst hz
  have hlen := hm.1
  show (∃ s', slices_partialInsertionSortOrdered_uint64_s4 l (j : Int) = some (.next s') ∧ _) ∨ (∃ x, slices_partialInsertionSortOrdered_uint64_s4 l (j : Int) = some (.done x) ∧ _)
  unfold slices_partialInsertionSortOrdered_uint64_s4
  have fin : j = a ∨ (a < j ∧ ¬ l.getD j 0 < l.getD (j - 1) 0) → Srt a (i + 1) l := fun hc x y q1 q2 q3 => by
    by_cases e1 : x = j
    · rw [e1]; exact h2 y (by omega) (by omega)
    · by_cases e2 : y = j
      · rcases hc with hc | ⟨hc1, hc2⟩
        · omega
        rw [e2]
        by_cases e3 : x = j - 1
        · rw [e3]; omega
        · have := h1 x (j - 1) q1 (by omega) (by omega) e1 (by omega)
          omega
      · exact h1 x y q1 q2 (by omega) e1 e2
  by_cases c1 : 1 ≤ j
  · rw [if_pos (by simp only [decide_eq_true_eq]; omega), w64_id (z := (j : Int) - 1) (by omega) (by omega), ix_getD (i := j) rfl (by omega) 0, Option.bind_some, ix_getD (i := j - 1) (by omega) (by omega) 0, Option.bind_some, less_eq, Option.bind_some]
    by_cases c2 : l.getD j 0 < l.getD (j - 1) 0
    · have haj2 : a < j := by
        rcases Nat.lt_or_ge a j with h | h
        · exact h
        · exfalso
          have hja : j = a := by omega
          have := hL.mx hm (by omega) (j - 1) j (by omega) (by omega) (by omega)
          omega
      left
      rw [decide_eq_true c2, if_neg (by decide), Option.bind_some, Option.bind_some, chk_pos (by omega), List.length_set, chk_pos (by omega), show ((j : Int)).toNat = j by omega, show ((j : Int) - 1).toNat = j - 1 by omega, swp_sets]
      have hg := fun k => swp_getD (l := l) (i := j) (j := j - 1) (by omega) (by omega) k
      refine ⟨_, rfl, ⟨j - 1, by dsimp only; omega, by omega, by omega, hm.trans (Mx.swp (by omega) (by omega) (by omega)), fun x y q1 q2 q3 q4 q5 => ?_, fun y q1 q2 => ?_⟩, by omega⟩
      · dsimp only
        rw [hg, hg, if_neg q4, if_neg q5]
        by_cases e1 : x = j
        · rw [if_pos e1, if_neg (by omega)]
          exact h1 (j - 1) y (by omega) (by omega) q3 (by omega) (by omega)
        · rw [if_neg e1]
          by_cases e2 : y = j
          · rw [if_pos e2]
            exact h1 x (j - 1) q1 (by omega) (by omega) e1 (by omega)
          · rw [if_neg e2]
            exact h1 x y q1 q2 q3 e1 e2
      · dsimp only
        rw [hg, hg, if_pos rfl, if_neg (by omega)]
        by_cases e2 : y = j
        · rw [if_pos e2]; omega
        · rw [if_neg e2]
          exact h2 y (by omega) q2
    · right
      rw [decide_eq_false c2, if_pos (by decide)]
      exact ⟨l, rfl, hm, fin (by
        by_cases h : j = a
        · exact .inl h
        · exact .inr ⟨by omega, c2⟩)⟩
  · right
    rw [if_neg (by simp only [decide_eq_true_eq]; omega)]
    exact ⟨l, rfl, hm, fin (.inl (by omega))⟩

theorem shr_ok {i b : Nat} {l0 : List Int} (hi : i + 1 ≤ b) (hb : b ≤ l0.length) (hn : l0.length ≤ 1000) :
    ∃ l, loopM FUEL (fun s : List Int × Int => slices_partialInsertionSortOrdered_uint64_s3 b s.1 s.2) (l0, ((i + 1 : Nat) : Int)) = some l ∧ Mx i b l0 l := by
  refine loop_inv (fun k s => s.2 = ((i + 1 + k : Nat) : Int) ∧ i + 1 + k ≤ b ∧ Mx i b l0 s.1) _ b (by unfold FUEL; omega) _ ⟨rfl, hi, Mx.refl _ _ _⟩ ?_
  rintro k ⟨l, z⟩ ⟨hz, hk, hm⟩
  dsimp only at hz hm
  subst hz
  have hlen := hm.1
  obtain ⟨j, hj⟩ : ∃ j, j = i + 1 + k := ⟨_, rfl⟩
  rw [← hj]
  show (∃ s', slices_partialInsertionSortOrdered_uint64_s3 b l (j : Int) = some (.next s') ∧ _) ∨ (∃ x, slices_partialInsertionSortOrdered_uint64_s3 b l (j : Int) = some (.done x) ∧ _)
  unfold slices_partialInsertionSortOrdered_uint64_s3
  by_cases c1 : j < b
  · rw [if_pos (by simp only [decide_eq_true_eq]; omega), w64_id (z := (j : Int) - 1) (by omega) (by omega), ix_getD (i := j) rfl (by omega) 0, Option.bind_some, ix_getD (i := j - 1) (by omega) (by omega) 0, Option.bind_some, less_eq, Option.bind_some]
    by_cases c2 : l.getD j 0 < l.getD (j - 1) 0
    · left
      rw [decide_eq_true c2, if_neg (by decide), Option.bind_some, Option.bind_some, chk_pos (by omega), List.length_set, chk_pos (by omega), show ((j : Int)).toNat = j by omega, show ((j : Int) - 1).toNat = j - 1 by omega, swp_sets, w64_id (by omega) (by omega)]
      exact ⟨_, rfl, ⟨by dsimp only; omega, by omega, hm.trans (Mx.swp (by omega) (by omega) (by omega))⟩, by omega⟩
    · right
      rw [decide_eq_false c2, if_pos (by decide)]
      exact ⟨l, rfl, hm⟩
  · right
    rw [if_neg (by simp only [decide_eq_true_eq]; omega)]
    exact ⟨l, rfl, hm⟩

theorem partial_ok {l0 : List Int} {a b : Nat} (hab : a + 2 ≤ b) (hb : b ≤ l0.length) (hn : l0.length ≤ 1000) (hL : Lft a b l0) :
    ∃ (f : Bool) (l : List Int), slices_partialInsertionSortOrdered_uint64 l0 a b = some (f, l) ∧ Mx a b l0 l ∧ (f = true → Srt a b l) := by
  unfold slices_partialInsertionSortOrdered_uint64
  have : ∃ r : (Bool × List Int) ⊕ List Int, loopM FUEL (fun s : List Int × Int × Int => slices_partialInsertionSortOrdered_uint64_s1 a b s.1 s.2.1 s.2.2) (l0, w64 ((a : Int) + 1), 0) = some r ∧ ∃ (f : Bool) (l : List Int), (r = .inl (f, l) ∨ (r = .inr l ∧ f = false)) ∧ Mx a b l0 l ∧ (f = true → Srt a b l) := by
    refine loop_inv (fun k s => ∃ i : Nat, s.2.1 = (i : Int) ∧ s.2.2 = (k : Int) ∧ a + 1 ≤ i ∧ i ≤ b ∧ k ≤ 5 ∧ Mx a b l0 s.1 ∧ Srt a i s.1) _ 5 (by unfold FUEL; omega) _
      ⟨a + 1, by rw [w64_id (by omega) (by omega)]; push_cast; rfl, rfl, by omega, by omega, by omega, Mx.refl _ _ _, fun x y h1 h2 h3 => by omega⟩ ?_
    rintro k ⟨l, z1, z2⟩ ⟨i, hz1, hz2, hi, hib, hk, hm, hs⟩
    dsimp only at hz1 hz2 hm hs
    subst hz1
    subst hz2
    have hlen := hm.1
    show (∃ s', slices_partialInsertionSortOrdered_uint64_s1 a b l (i : Int) (k : Int) = some (.next s') ∧ _) ∨ (∃ x, slices_partialInsertionSortOrdered_uint64_s1 a b l (i : Int) (k : Int) = some (.done x) ∧ _)
    unfold slices_partialInsertionSortOrdered_uint64_s1
    by_cases c : k < 5
    · rw [if_pos (by simp only [decide_eq_true_eq]; omega)]
      obtain ⟨i2, e1, g1, g2, g3, g4⟩ := up_search (step := fun s => slices_partialInsertionSortOrdered_uint64_s2 b l s) (P := fun k => l.getD (k - 1) 0 ≤ l.getD k 0) (i := i) (j := b - 1) (by omega) (by omega) (fun k q1 q2 => by
        unfold slices_partialInsertionSortOrdered_uint64_s2
        rw [if_pos (by simp only [decide_eq_true_eq]; omega), w64_id (z := (k : Int) - 1) (by omega) (by omega), ix_getD (i := k) rfl (by omega) 0, Option.bind_some, ix_getD (i := k - 1) (by omega) (by omega) 0, Option.bind_some, less_eq, Option.bind_some, Option.bind_some, w64_id (by omega) (by omega)]
        by_cases hc : l.getD k 0 < l.getD (k - 1) 0
        · right
          refine ⟨by omega, ?_⟩
          rw [decide_eq_true hc, if_neg (by decide)]
        · left
          refine ⟨by omega, ?_⟩
          rw [decide_eq_false hc, if_pos (by decide)]
          rfl) (by
        unfold slices_partialInsertionSortOrdered_uint64_s2
        rw [if_neg (by simp only [decide_eq_true_eq]; omega), Option.bind_some, if_neg (by decide)])
      rw [e1, Option.bind_some]
      have hs2 : Srt a i2 l := srt_ext hi hs i2 g1 (fun x q1 q2 => g3 x q1 q2)
      by_cases c2 : i2 = b
      · right
        rw [if_pos (by rw [c2]; simp)]
        exact ⟨_, rfl, true, l, .inl rfl, hm, fun _ => by rw [← c2]; exact hs2⟩
      · rw [if_neg (by simp only [beq_iff_eq]; omega)]
        by_cases c3 : w64 ((b : Int) - (a : Int)) < 50
        · right
          rw [if_pos (decide_eq_true c3)]
          exact ⟨_, rfl, false, l, .inl rfl, hm, fun h => by cases h⟩
        · left
          rw [if_neg (by simpa using c3), w64_id (z := (i2 : Int) - 1) (by omega) (by omega), ix_getD (i := i2 - 1) (by omega) (by omega) 0, Option.bind_some, ix_getD (i := i2) rfl (by omega) 0, Option.bind_some, chk_pos (by omega), List.length_set, chk_pos (by omega), show ((i2 : Int)).toNat = i2 by omega, show ((i2 : Int) - 1).toNat = i2 - 1 by omega, swp_sets, w64_id (z := (i2 : Int) - (a : Int)) (by omega) (by omega), w64_id (z := (b : Int) - (i2 : Int)) (by omega) (by omega), w64_id (z := (i2 : Int) + 1) (by omega) (by omega), w64_id (z := (k : Int) + 1) (by omega) (by omega)]
          have hg := fun k => swp_getD (l := l) (i := i2) (j := i2 - 1) (by omega) (by omega) k
          have hsw : Mx a b l (swp l i2 (i2 - 1)) := Mx.swp (by omega) (by omega) (by omega)
          have hLl : Lft a b l := hL.mx hm hb
          have hL2 : Lft a b (swp l i2 (i2 - 1)) := hLl.mx hsw (by omega)
          have hsl := hsw.1
          have hs3 : Srt a (i2 - 1) (swp l i2 (i2 - 1)) := fun x y q1 q2 q3 => by
            rw [hg, hg, if_neg (by omega), if_neg (by omega), if_neg (by omega), if_neg (by omega)]
            exact hs2 x y q1 q2 (by omega)
          have p1 : ∃ l9, (if decide (2 ≤ (i2 : Int) - (a : Int)) = true then (loopM FUEL (fun s : List Int × Int => slices_partialInsertionSortOrdered_uint64_s4 s.1 s.2) (swp l i2 (i2 - 1), (i2 : Int) - 1)).bind fun l_21 => some l_21 else some (swp l i2 (i2 - 1))) = some l9 ∧ Mx a b l l9 ∧ Srt a i2 l9 := by
            by_cases c4 : a + 2 ≤ i2
            · obtain ⟨l9, f1, f2, f3⟩ := shl_ok (a := a) (i := i2 - 1) (l0 := swp l i2 (i2 - 1)) (by omega) (by omega) (by omega) hs3 (fun x y q1 q2 q3 => hL2 x y q1 q2 (by omega))
              rw [show ((i2 - 1 : Nat) : Int) = (i2 : Int) - 1 by omega] at f1
              rw [show i2 - 1 + 1 = i2 by omega] at f2 f3
              refine ⟨l9, ?_, hsw.trans (f2.wider (Nat.le_refl _) (by omega)), f3⟩
              rw [if_pos (by simp only [decide_eq_true_eq]; omega), f1]
              rfl
            · refine ⟨_, if_neg (by simp only [decide_eq_true_eq]; omega), hsw, fun x y q1 q2 q3 => by omega⟩
          obtain ⟨l9, f1, f2, f3⟩ := p1
          have hl9 := f2.1
          have p2 : ∃ l10, (if decide (2 ≤ (b : Int) - (i2 : Int)) = true then (loopM FUEL (fun s : List Int × Int => slices_partialInsertionSortOrdered_uint64_s3 b s.1 s.2) (l9, (i2 : Int) + 1)).bind fun l_13 => some l_13 else some l9) = some l10 ∧ Mx a b l l10 ∧ Srt a i2 l10 := by
            by_cases c4 : i2 + 2 ≤ b
            · obtain ⟨l10, h1, h2⟩ := shr_ok (i := i2) (b := b) (l0 := l9) (by omega) (by omega) (by omega)
              rw [show ((i2 + 1 : Nat) : Int) = (i2 : Int) + 1 by push_cast; rfl] at h1
              refine ⟨l10, ?_, f2.trans (h2.wider (by omega) (Nat.le_refl _)), fun x y q1 q2 q3 => ?_⟩
              · rw [if_pos (by simp only [decide_eq_true_eq]; omega), h1]
                rfl
              · rw [h2.2.2 x (by omega), h2.2.2 y (by omega)]
                exact f3 x y q1 q2 q3
            · exact ⟨_, if_neg (by simp only [decide_eq_true_eq]; omega), f2, f3⟩
          obtain ⟨l10, h1, h2, h3⟩ := p2
          rw [f1, Option.bind_some, h1, Option.bind_some]
          exact ⟨_, rfl, ⟨i2, rfl, by push_cast; rfl, by omega, by omega, by omega, hm.trans h2, h3⟩, by omega⟩
    · right
      rw [if_neg (by simp only [decide_eq_true_eq]; omega)]
      exact ⟨_, rfl, false, l, .inr ⟨rfl, rfl⟩, hm, fun h => by cases h⟩
  obtain ⟨r, e1, f, l, e2, e3, e4⟩ := this
  refine ⟨f, l, ?_, e3, e4⟩
  rw [e1]
  rcases e2 with rfl | ⟨rfl, rfl⟩ <;> rfl
end Go.Proofs.Ytbolefkhmfbnlaa
