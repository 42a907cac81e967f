/-
  PLAIN: a range turned round; equal keys to the left.
-/
import Derived.Test.YtbolefkhmfbnlaaPSortc
set_option linter.unusedSimpArgs false
set_option linter.unusedVariables false
namespace Go.Proofs.Ytbolefkhmfbnlaa
open Go.E

theorem reverse_ok {l0 : List Int} {a b : Nat} (hab : a < b) (hb : b ≤ l0.length) (hn : l0.length ≤ 1000) : ∃ l, slices_reverseRangeOrdered_uint64 l0 a b = some l ∧ Mx a b l0 l := by
  unfold slices_reverseRangeOrdered_uint64
  rw [w64_id (z := (b : Int) - 1) (by omega) (by omega)]
  have : ∃ l, loopM FUEL (fun s : List Int × Int × Int => slices_reverseRangeOrdered_uint64_s1 s.1 s.2.1 s.2.2) (l0, (a : Int), (b : Int) - 1) = some l ∧ Mx a b l0 l := by
    refine loop_inv (fun k s => s.2.1 = ((a + k : Nat) : Int) ∧ s.2.2 = (b : Int) - 1 - k ∧ Mx a b l0 s.1 ∧ a + k ≤ b) _ b (by unfold FUEL; omega) _ ⟨rfl, by simp, Mx.refl _ _ _, by omega⟩ ?_
    rintro k ⟨l, z1, z2⟩ ⟨h1, h2, hm, hk⟩
    dsimp only at h1 h2 hm
    subst h1
    subst h2
    have hlen := hm.1
    show (∃ s', slices_reverseRangeOrdered_uint64_s1 l ((a + k : Nat) : Int) ((b : Int) - 1 - k) = some (.next s') ∧ _) ∨ (∃ x, slices_reverseRangeOrdered_uint64_s1 l ((a + k : Nat) : Int) ((b : Int) - 1 - k) = some (.done x) ∧ _)
    unfold slices_reverseRangeOrdered_uint64_s1
    by_cases c : a + k < b - 1 - k
    · left
      rw [if_pos (by simp only [decide_eq_true_eq]; omega), ix_getD (i := b - 1 - k) (by omega) (by omega) 0, Option.bind_some, ix_getD (i := a + k) rfl (by omega) 0, Option.bind_some, chk_pos (by omega), List.length_set, chk_pos (by omega), show (((a + k : Nat) : Int)).toNat = a + k by omega, show ((b : Int) - 1 - k).toNat = b - 1 - k by omega, swp_sets, w64_id (by omega) (by omega), w64_id (by omega) (by omega)]
      exact ⟨_, rfl, ⟨by push_cast; omega, by push_cast; omega, hm.trans (Mx.swp (by omega) (by omega) (by omega)), by omega⟩, by omega⟩
    · right
      rw [if_neg (by simp only [decide_eq_true_eq]; omega)]
      exact ⟨l, rfl, hm⟩
  obtain ⟨l, e1, e2⟩ := this
  exact ⟨l, by rw [e1]; rfl, e2⟩

/-- A search upward: the first place from i on, up to j + 1, where P does not hold. -/
theorem up_search {step : Int → Option (Step Int Int)} {P : Nat → Prop} {i j : Nat} (hj : j ≤ 2000) (hij : i ≤ j + 1)
    (h : ∀ k, i ≤ k → k ≤ j → (P k ∧ step (k : Int) = some (.next ((k + 1 : Nat) : Int))) ∨ (¬ P k ∧ step (k : Int) = some (.done (k : Int)))) (hd : step ((j + 1 : Nat) : Int) = some (.done ((j + 1 : Nat) : Int))) :
    ∃ k : Nat, loopM FUEL step (i : Int) = some (k : Int) ∧ i ≤ k ∧ k ≤ j + 1 ∧ (∀ x, i ≤ x → x < k → P x) ∧ (k ≤ j → ¬ P k) := by
  have : ∃ z, loopM FUEL step (i : Int) = some z ∧ ∃ k : Nat, z = (k : Int) ∧ i ≤ k ∧ k ≤ j + 1 ∧ (∀ x, i ≤ x → x < k → P x) ∧ (k ≤ j → ¬ P k) := by
    refine loop_inv (fun c s => s = ((i + c : Nat) : Int) ∧ i + c ≤ j + 1 ∧ ∀ x, i ≤ x → x < i + c → P x) _ (j + 1) (by unfold FUEL; omega) _ ⟨rfl, hij, fun x h1 h2 => by omega⟩ ?_
    rintro c s ⟨rfl, h1, h2⟩
    by_cases hc : i + c ≤ j
    · rcases h (i + c) (by omega) hc with ⟨p1, p2⟩ | ⟨p1, p2⟩
      · left
        exact ⟨_, p2, ⟨by push_cast; omega, by omega, fun x q1 q2 => by
          by_cases hx : x = i + c
          · rw [hx]; exact p1
          · exact h2 x q1 (by omega)⟩, by omega⟩
      · right
        exact ⟨_, p2, i + c, rfl, by omega, by omega, h2, fun _ => p1⟩
    · right
      have e : i + c = j + 1 := by omega
      rw [e]
      exact ⟨_, hd, j + 1, rfl, by omega, by omega, fun x q1 q2 => h2 x q1 (by omega), fun q => by omega⟩
  obtain ⟨z, e1, k, rfl, e2⟩ := this
  exact ⟨k, e1, e2⟩

/-- A search downward: the last place up to j, from i - 1 on, where P does not hold. -/
theorem down_search {step : Int → Option (Step Int Int)} {P : Nat → Prop} {i j : Nat} (hj : j ≤ 2000) (hi : 1 ≤ i) (hij : i ≤ j + 1)
    (h : ∀ k : Nat, i ≤ k → k ≤ j → (P k ∧ step (k : Int) = some (.next ((k - 1 : Nat) : Int))) ∨ (¬ P k ∧ step (k : Int) = some (.done (k : Int)))) (hd : step ((i - 1 : Nat) : Int) = some (.done ((i - 1 : Nat) : Int))) :
    ∃ k : Nat, loopM FUEL step (j : Int) = some (k : Int) ∧ i ≤ k + 1 ∧ k ≤ j ∧ (∀ x, k < x → x ≤ j → P x) ∧ (i ≤ k → ¬ P k) := by
  have : ∃ z, loopM FUEL step (j : Int) = some z ∧ ∃ k : Nat, z = (k : Int) ∧ i ≤ k + 1 ∧ k ≤ j ∧ (∀ x, k < x → x ≤ j → P x) ∧ (i ≤ k → ¬ P k) := by
    refine loop_inv (fun c s => ∃ k : Nat, s = (k : Int) ∧ k + c = j ∧ i ≤ k + 1 ∧ ∀ x, k < x → x ≤ j → P x) _ (j + 1) (by unfold FUEL; omega) _ ⟨j, rfl, rfl, hij, fun x h1 h2 => by omega⟩ ?_
    rintro c s ⟨k, rfl, hk, h1, h2⟩
    by_cases hc : i ≤ k
    · rcases h k hc (by omega) with ⟨p1, p2⟩ | ⟨p1, p2⟩
      · left
        exact ⟨_, p2, ⟨k - 1, rfl, by omega, by omega, fun x q1 q2 => by
          by_cases hx : x = k
          · rw [hx]; exact p1
          · exact h2 x (by omega) q2⟩, by omega⟩
      · right
        exact ⟨_, p2, k, rfl, h1, by omega, h2, fun _ => p1⟩
    · right
      have e : k = i - 1 := by omega
      rw [e]
      exact ⟨_, hd, i - 1, rfl, by omega, by omega, fun x q1 q2 => h2 x (by omega) q2, fun q => by omega⟩
  obtain ⟨z, e1, k, rfl, e2⟩ := this
  exact ⟨k, e1, e2⟩
end Go.Proofs.Ytbolefkhmfbnlaa
