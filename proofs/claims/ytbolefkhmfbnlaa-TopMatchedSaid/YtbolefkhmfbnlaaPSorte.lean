/-
  PLAIN: partition of keys equal to the pivot.
-/
import Derived.Test.YtbolefkhmfbnlaaPSortd
set_option linter.unusedSimpArgs false
set_option linter.unusedVariables false
namespace Go.Proofs.Ytbolefkhmfbnlaa
open Go.E

theorem peq_ok {l0 : List Int} {a b p : Nat} (hp : a ≤ p ∧ p < b) (hb : b ≤ l0.length) (hn : l0.length ≤ 1000) :
    ∃ (i : Nat) (l : List Int), slices_partitionEqualOrdered_uint64 l0 a b p = some ((i : Int), l) ∧ Mx a b l0 l ∧ a < i ∧ i ≤ b ∧ (∀ x, a ≤ x → x < i → l.getD x 0 ≤ l0.getD p 0) ∧ ∀ x, i ≤ x → x < b → l0.getD p 0 < l.getD x 0 := by
  unfold slices_partitionEqualOrdered_uint64
  rw [ix_getD (i := p) rfl (by omega) 0, Option.bind_some, ix_getD (i := a) rfl (by omega) 0, Option.bind_some, chk_pos (by omega), List.length_set, chk_pos (by omega), show ((a : Int)).toNat = a by omega, show ((p : Int)).toNat = p by omega, swp_sets, w64_id (z := (a : Int) + 1) (by omega) (by omega), w64_id (z := (b : Int) - 1) (by omega) (by omega)]
  have hpv : (swp l0 a p).getD a 0 = l0.getD p 0 := by
    rw [swp_getD (by omega) (by omega)]
    by_cases h : a = p
    · rw [if_pos h, h]
    · rw [if_neg h, if_pos rfl]
  have : ∃ r : List Int × Int, loopM FUEL (fun s : List Int × Int × Int => slices_partitionEqualOrdered_uint64_s1 a s.1 s.2.1 s.2.2) (swp l0 a p, (a : Int) + 1, (b : Int) - 1) = some r ∧ ∃ i : Nat, r.2 = (i : Int) ∧ Mx a b l0 r.1 ∧ a < i ∧ i ≤ b ∧ (∀ x, a ≤ x → x < i → r.1.getD x 0 ≤ l0.getD p 0) ∧ ∀ x, i ≤ x → x < b → l0.getD p 0 < r.1.getD x 0 := by
    refine loop_inv (fun c s => ∃ i j : Nat, s.2.1 = (i : Int) ∧ s.2.2 = (j : Int) ∧ Mx a b l0 s.1 ∧ s.1.getD a 0 = l0.getD p 0 ∧ a + 1 + c ≤ i ∧ i ≤ j + 1 ∧ j + 1 ≤ b ∧ (∀ x, a ≤ x → x < i → s.1.getD x 0 ≤ l0.getD p 0) ∧ ∀ x, j < x → x < b → l0.getD p 0 < s.1.getD x 0) _ b (by unfold FUEL; omega) _
      ⟨a + 1, b - 1, by push_cast; rfl, by dsimp only; omega, Mx.swp hb (by omega) hp, hpv, by omega, by omega, by omega, fun x h1 h2 => by
        obtain rfl : x = a := by omega
        dsimp only
        omega, fun x h1 h2 => by omega⟩ ?_
    rintro c ⟨l, z1, z2⟩ ⟨i, j, h1, h2, hm, hpa, hi, hij, hj, hlo, hhi⟩
    dsimp only at h1 h2 hm hpa hlo hhi
    subst h1
    subst h2
    have hlen := hm.1
    show (∃ s', slices_partitionEqualOrdered_uint64_s1 a l (i : Int) (j : Int) = some (.next s') ∧ _) ∨ (∃ x, slices_partitionEqualOrdered_uint64_s1 a l (i : Int) (j : Int) = some (.done x) ∧ _)
    unfold slices_partitionEqualOrdered_uint64_s1
    obtain ⟨i2, e1, g1, g2, g3, g4⟩ := up_search (step := fun s => slices_partitionEqualOrdered_uint64_s2 a l (j : Int) s) (P := fun k => l.getD k 0 ≤ l.getD a 0) (i := i) (j := j) (by omega) hij (fun k q1 q2 => by
      unfold slices_partitionEqualOrdered_uint64_s2
      rw [if_pos (by simp only [decide_eq_true_eq]; omega), ix_getD (i := a) rfl (by omega) 0, Option.bind_some, ix_getD (i := k) rfl (by omega) 0, Option.bind_some, less_eq, Option.bind_some, Option.bind_some, w64_id (by omega) (by omega)]
      by_cases hc : l.getD a 0 < l.getD k 0
      · right
        refine ⟨by omega, ?_⟩
        rw [decide_eq_true hc, if_neg (by decide)]
      · left
        refine ⟨by omega, ?_⟩
        rw [decide_eq_false hc, if_pos (by decide)]
        rfl) (by
      unfold slices_partitionEqualOrdered_uint64_s2
      rw [if_neg (by simp only [decide_eq_true_eq]; omega), Option.bind_some, if_neg (by decide)])
    rw [e1, Option.bind_some]
    obtain ⟨j2, e2, k1, k2, k3, k4⟩ := down_search (step := fun s => slices_partitionEqualOrdered_uint64_s3 a l (i2 : Int) s) (P := fun k => l.getD a 0 < l.getD k 0) (i := i2) (j := j) (by omega) (by omega) g2 (fun k q1 q2 => by
      unfold slices_partitionEqualOrdered_uint64_s3
      rw [if_pos (by simp only [decide_eq_true_eq]; omega), ix_getD (i := a) rfl (by omega) 0, Option.bind_some, ix_getD (i := k) rfl (by omega) 0, Option.bind_some, less_eq, Option.bind_some, Option.bind_some, w64_id (by omega) (by omega)]
      by_cases hc : l.getD a 0 < l.getD k 0
      · left
        refine ⟨hc, ?_⟩
        rw [decide_eq_true hc, if_pos rfl, show (k : Int) - 1 = ((k - 1 : Nat) : Int) by omega]
      · right
        refine ⟨hc, ?_⟩
        rw [decide_eq_false hc, if_neg (by decide)]) (by
      unfold slices_partitionEqualOrdered_uint64_s3
      rw [if_neg (by simp only [decide_eq_true_eq]; omega), Option.bind_some, if_neg (by decide)])
    rw [e2, Option.bind_some]
    have hlo2 : ∀ x, a ≤ x → x < i2 → l.getD x 0 ≤ l0.getD p 0 := fun x q1 q2 => by
      by_cases hx : x < i
      · exact hlo x q1 hx
      · have := g3 x (by omega) q2
        omega
    have hhi2 : ∀ x, j2 < x → x < b → l0.getD p 0 < l.getD x 0 := fun x q1 q2 => by
      by_cases hx : j < x
      · exact hhi x hx q2
      · have := k3 x q1 (by omega)
        omega
    by_cases c1 : j2 < i2
    · right
      rw [if_pos (by simp only [decide_eq_true_eq]; omega)]
      exact ⟨_, rfl, i2, rfl, hm, by omega, by omega, hlo2, fun x q1 q2 => hhi2 x (by omega) q2⟩
    · left
      have n1 := g4 (by omega)
      have n2 := k4 (by omega)
      have hne : i2 ≠ j2 := fun h => by rw [h] at n1; omega
      rw [if_neg (by simp only [decide_eq_true_eq]; omega), ix_getD (i := j2) rfl (by omega) 0, Option.bind_some, ix_getD (i := i2) rfl (by omega) 0, Option.bind_some, chk_pos (by omega), List.length_set, chk_pos (by omega), show ((i2 : Int)).toNat = i2 by omega, show ((j2 : Int)).toNat = j2 by omega, swp_sets, w64_id (by omega) (by omega), w64_id (by omega) (by omega)]
      have hg := fun k => swp_getD (l := l) (i := i2) (j := j2) (by omega) (by omega) k
      refine ⟨_, rfl, ⟨i2 + 1, j2 - 1, by push_cast; rfl, by dsimp only; omega, hm.trans (Mx.swp (by omega) (by omega) (by omega)), ?_, by omega, by omega, by omega, fun x q1 q2 => ?_, fun x q1 q2 => ?_⟩, by omega⟩
      · dsimp only
        rw [hg, if_neg (by omega), if_neg (by omega)]
        exact hpa
      · dsimp only
        rw [hg, if_neg (by omega)]
        by_cases hx : x = i2
        · rw [if_pos hx]; omega
        · rw [if_neg hx]; exact hlo2 x q1 (by omega)
      · dsimp only
        rw [hg]
        by_cases hx : x = j2
        · rw [if_pos hx]; omega
        · rw [if_neg hx, if_neg (by omega)]; exact hhi2 x (by omega) q2
  obtain ⟨⟨l, z⟩, e, i, hz, h1, h2, h3, h4, h5⟩ := this
  dsimp only at hz h1 h4 h5
  subst hz
  rw [e, Option.bind_some]
  exact ⟨i, l, rfl, h1, h2, h3, h4, h5⟩
end Go.Proofs.Ytbolefkhmfbnlaa
