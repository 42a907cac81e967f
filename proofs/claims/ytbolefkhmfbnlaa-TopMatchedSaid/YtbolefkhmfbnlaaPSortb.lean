/-
  PLAIN: insertion sort.
-/
import Derived.Test.YtbolefkhmfbnlaaPSorta
import Derived.Test.YtbolefkhmfbnlaaM
set_option linter.unusedSimpArgs false
set_option linter.unusedVariables false
namespace Go.Proofs.Ytbolefkhmfbnlaa
open Go.E

theorem less_eq (x y : Int) : cmp_Less_uint64 x y = some (decide (x < y)) := by
  unfold cmp_Less_uint64 cmp_isNaN_uint64
  simp
theorem swp_sets {l : List Int} {i j : Nat} : (l.set i (l.getD j 0)).set j (l.getD i 0) = swp l i j := rfl
def Srt (a b : Nat) (l : List Int) : Prop := ∀ x y, a ≤ x → x < y → y < b → l.getD x 0 ≤ l.getD y 0

theorem ins_inner {a i : Nat} {l0 : List Int} (ha : a ≤ i) (hi : i < l0.length) (hn : l0.length ≤ 1000) (hs : Srt a i l0) :
    ∃ l, loopM FUEL (fun s : List Int × Int => slices_insertionSortOrdered_uint64_s2 a s.1 s.2) (l0, (i : Int)) = some l ∧ Mx a (i + 1) l0 l ∧ Srt a (i + 1) l := by
  refine loop_inv (fun k s => ∃ j : Nat, s.2 = (j : Int) ∧ j + k = i ∧ a ≤ j ∧ Mx a (i + 1) l0 s.1 ∧ (∀ x y, a ≤ x → x < y → y ≤ i → x ≠ j → y ≠ j → s.1.getD x 0 ≤ s.1.getD y 0) ∧ ∀ y, j < y → y ≤ i → s.1.getD j 0 ≤ s.1.getD y 0) _ i (by unfold FUEL; omega) _
    ⟨i, rfl, rfl, ha, Mx.refl _ _ _, fun x y h1 h2 h3 h4 h5 => hs x y h1 h2 (by omega), fun y h1 h2 => by omega⟩ ?_
  rintro k ⟨l, z⟩ ⟨j, hz, hjk, haj, hm, h1, h2⟩
  dsimp only at hz hm h1 h2
  subst hz
  have hlen := hm.1
  show (∃ s', slices_insertionSortOrdered_uint64_s2 a l (j : Int) = some (.next s') ∧ _) ∨ (∃ x, slices_insertionSortOrdered_uint64_s2 a l (j : Int) = some (.done x) ∧ _)
  unfold slices_insertionSortOrdered_uint64_s2
  by_cases c1 : a < j
  · rw [if_pos (by simp only [decide_eq_true_eq]; omega), w64_id (z := (j : Int) - 1) (by omega) (by omega), ix_getD (i := j) rfl (by omega) 0, Option.bind_some, ix_getD (i := j - 1) (by omega) (by omega) 0, Option.bind_some, less_eq, Option.bind_some, Option.bind_some]
    by_cases c2 : l.getD j 0 < l.getD (j - 1) 0
    · left
      rw [if_pos (decide_eq_true c2), Option.bind_some, Option.bind_some, chk_pos (by omega), List.length_set, chk_pos (by omega), show ((j : Int)).toNat = j by omega, show ((j : Int) - 1).toNat = j - 1 by omega, swp_sets]
      have hg := fun k => swp_getD (l := l) (i := j) (j := j - 1) (by omega) (by omega) k
      refine ⟨_, rfl, ⟨j - 1, by omega, by omega, by omega, hm.trans (Mx.swp (by omega) (by omega) (by omega)), fun x y q1 q2 q3 q4 q5 => ?_, fun y q1 q2 => ?_⟩, by omega⟩
      · dsimp only
        rw [hg, hg, if_neg q4, if_neg q5]
        by_cases e1 : x = j
        · rw [if_pos e1, if_neg (by omega)]
          exact h1 (j - 1) y (by omega) (by omega) q3 (by omega) (by omega)
        · rw [if_neg e1]
          by_cases e2 : y = j
          · rw [if_pos e2]
            exact h1 x (j - 1) q1 (by omega) (by omega) e1 (by omega)
          · rw [if_neg e2]
            exact h1 x y q1 q2 q3 e1 e2
      · dsimp only
        rw [hg, hg, if_pos rfl, if_neg (by omega)]
        by_cases e2 : y = j
        · rw [if_pos e2]; omega
        · rw [if_neg e2]
          exact h2 y (by omega) q2
    · right
      rw [if_neg (by simpa using c2)]
      refine ⟨l, rfl, hm, fun x y q1 q2 q3 => ?_⟩
      by_cases e1 : x = j
      · rw [e1]; exact h2 y (by omega) (by omega)
      · by_cases e2 : y = j
        · rw [e2]
          by_cases e3 : x = j - 1
          · rw [e3]; omega
          · have := h1 x (j - 1) q1 (by omega) (by omega) e1 (by omega)
            omega
        · exact h1 x y q1 q2 (by omega) e1 e2
  · right
    rw [if_neg (by simp only [decide_eq_true_eq]; omega), Option.bind_some, if_neg (by decide)]
    refine ⟨l, rfl, hm, fun x y q1 q2 q3 => ?_⟩
    by_cases e1 : x = j
    · rw [e1]; exact h2 y (by omega) (by omega)
    · exact h1 x y q1 q2 (by omega) e1 (by omega)

theorem ins_ok {a b : Nat} {l0 : List Int} (hab : a ≤ b) (hb : b ≤ l0.length) (hn : l0.length ≤ 1000) :
    ∃ l, slices_insertionSortOrdered_uint64 l0 a b = some l ∧ Mx a b l0 l ∧ Srt a b l := by
  unfold slices_insertionSortOrdered_uint64
  have : ∃ l, loopM FUEL (fun s : List Int × Int => slices_insertionSortOrdered_uint64_s1 a b s.1 s.2) (l0, w64 ((a : Int) + 1)) = some l ∧ Mx a b l0 l ∧ Srt a b l := by
    rw [w64_id (by omega) (by omega)]
    refine loop_inv (fun k s => s.2 = ((a + 1 + k : Nat) : Int) ∧ Mx a b l0 s.1 ∧ Srt a (a + 1 + k) s.1 ∧ (a + 1 + k ≤ b ∨ k = 0)) _ b (by unfold FUEL; omega) _ ⟨by push_cast; rfl, Mx.refl _ _ _, fun x y h1 h2 h3 => by omega, .inr rfl⟩ ?_
    rintro k ⟨l, z⟩ ⟨hz, hm, hs, hk⟩
    dsimp only at hz hm hs
    subst hz
    have hlen := hm.1
    show (∃ s', slices_insertionSortOrdered_uint64_s1 a b l ((a + 1 + k : Nat) : Int) = some (.next s') ∧ _) ∨ (∃ x, slices_insertionSortOrdered_uint64_s1 a b l ((a + 1 + k : Nat) : Int) = some (.done x) ∧ _)
    unfold slices_insertionSortOrdered_uint64_s1
    by_cases c : a + 1 + k < b
    · left
      obtain ⟨l2, e1, e2, e3⟩ := ins_inner (a := a) (i := a + 1 + k) (l0 := l) (by omega) (by omega) (by omega) hs
      rw [if_pos (by simp only [decide_eq_true_eq]; omega), e1, Option.bind_some, w64_id (by omega) (by omega)]
      exact ⟨_, rfl, ⟨by push_cast; omega, hm.trans (e2.wider (by omega) (by omega)), e3, .inl (by omega)⟩, by omega⟩
    · right
      rw [if_neg (by simp only [decide_eq_true_eq]; omega)]
      exact ⟨l, rfl, hm, fun x y h1 h2 h3 => hs x y h1 h2 (by omega)⟩
  obtain ⟨l, e1, e2, e3⟩ := this
  exact ⟨l, by rw [e1]; rfl, e2, e3⟩
end Go.Proofs.Ytbolefkhmfbnlaa
