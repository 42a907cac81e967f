/-
  PLAIN: partition around a pivot.
-/
import Derived.Test.YtbolefkhmfbnlaaPSorte
set_option linter.unusedSimpArgs false
set_option linter.unusedVariables false
namespace Go.Proofs.Ytbolefkhmfbnlaa
open Go.E

/-- The last swap of a partition. -/
theorem part_fin {l0 l : List Int} {a b j : Nat} {pv : Int} (hb : b ≤ l0.length) (hm : Mx a b l0 l) (hj : a ≤ j ∧ j < b) (hpa : l.getD a 0 = pv) (hlo : ∀ x, a + 1 ≤ x → x ≤ j → l.getD x 0 < pv) (hhi : ∀ x, j < x → x < b → pv ≤ l.getD x 0) :
    Mx a b l0 (swp l j a) ∧ (∀ x, a ≤ x → x < j → (swp l j a).getD x 0 ≤ (swp l j a).getD j 0) ∧ ∀ x, j < x → x < b → (swp l j a).getD j 0 ≤ (swp l j a).getD x 0 := by
  have hlen := hm.1
  have hg := fun k => swp_getD (l := l) (i := j) (j := a) (by omega) (by omega) k
  have hjj : (swp l j a).getD j 0 = pv := by
    rw [hg]
    by_cases h : j = a
    · rw [if_pos h, h, hpa]
    · rw [if_neg h, if_pos rfl, hpa]
  refine ⟨hm.trans (Mx.swp (by omega) (by omega) (by omega)), fun x h1 h2 => ?_, fun x h1 h2 => ?_⟩
  · rw [hjj, hg]
    by_cases h : x = a
    · rw [if_pos h]
      have := hlo j (by omega) (by omega)
      omega
    · rw [if_neg h, if_neg (by omega)]
      have := hlo x (by omega) (by omega)
      omega
  · rw [hjj, hg, if_neg (by omega), if_neg (by omega)]
    exact hhi x h1 h2

theorem part_ok {l0 : List Int} {a b p : Nat} (hp : a ≤ p ∧ p < b) (hb : b ≤ l0.length) (hn : l0.length ≤ 1000) :
    ∃ (m : Nat) (f : Bool) (l : List Int), slices_partitionOrdered_uint64 l0 a b p = some ((m : Int), f, l) ∧ Mx a b l0 l ∧ a ≤ m ∧ m < b ∧ (∀ x, a ≤ x → x < m → l.getD x 0 ≤ l.getD m 0) ∧ ∀ x, m < x → x < b → l.getD m 0 ≤ l.getD x 0 := by
  unfold slices_partitionOrdered_uint64
  have hs1 : ∀ z : Int, slices_partitionOrdered_uint64_s1 l0 a b p (l0.getD p 0) (l0.getD a 0) z = slices_partitionOrdered_uint64_s4 a (swp l0 a p) (w64 ((b : Int) - 1)) z := fun z => by
    unfold slices_partitionOrdered_uint64_s1 slices_partitionOrdered_uint64_s4
    rw [show ((a : Int)).toNat = a by omega, show ((p : Int)).toNat = p by omega, swp_sets]
  have hs2 : ∀ y z : Int, slices_partitionOrdered_uint64_s2 l0 a p (l0.getD p 0) (l0.getD a 0) y z = slices_partitionOrdered_uint64_s5 a (swp l0 a p) y z := fun y z => by
    unfold slices_partitionOrdered_uint64_s2 slices_partitionOrdered_uint64_s5
    rw [show ((a : Int)).toNat = a by omega, show ((p : Int)).toNat = p by omega, swp_sets]
  rw [ix_getD (xs := l0) (i := p) rfl (by omega) 0, Option.bind_some, ix_getD (xs := l0) (i := a) rfl (by omega) 0, Option.bind_some, chk_pos (by omega), List.length_set, chk_pos (by omega), show ((a : Int)).toNat = a by omega, show ((p : Int)).toNat = p by omega, swp_sets (l := l0) (i := a) (j := p)]
  rw [show (fun s : Int => slices_partitionOrdered_uint64_s1 l0 a b p (l0.getD p 0) (l0.getD a 0) s) = (fun s : Int => slices_partitionOrdered_uint64_s4 a (swp l0 a p) (w64 ((b : Int) - 1)) s) from funext hs1]
  rw [w64_id (z := (a : Int) + 1) (by omega) (by omega), w64_id (z := (b : Int) - 1) (by omega) (by omega)]
  obtain ⟨pv, hpvd⟩ : ∃ pv, pv = l0.getD p 0 := ⟨_, rfl⟩
  have hpv : (swp l0 a p).getD a 0 = pv := by
    rw [swp_getD (by omega) (by omega), hpvd]
    by_cases h : a = p
    · rw [if_pos h, h]
    · rw [if_neg h, if_pos rfl]
  have hM : Mx a b l0 (swp l0 a p) := Mx.swp hb (by omega) hp
  have hl1 := hM.1
  -- the two searches
  have up : ∀ (l : List Int) (i j : Nat), l.length = l0.length → l.getD a 0 = pv → a + 1 ≤ i → i ≤ j + 1 → j + 1 ≤ b →
      ∃ k : Nat, loopM FUEL (fun s : Int => slices_partitionOrdered_uint64_s4 a l (j : Int) s) (i : Int) = some (k : Int) ∧ i ≤ k ∧ k ≤ j + 1 ∧ (∀ x, i ≤ x → x < k → l.getD x 0 < pv) ∧ (k ≤ j → ¬ l.getD k 0 < pv) := fun l i j hl ha h1 h2 h3 =>
    up_search (P := fun k => l.getD k 0 < pv) (i := i) (j := j) (by omega) h2 (fun k q1 q2 => by
      unfold slices_partitionOrdered_uint64_s4
      rw [if_pos (by simp only [decide_eq_true_eq]; omega), ix_getD (i := k) rfl (by omega) 0, Option.bind_some, ix_getD (i := a) rfl (by omega) 0, Option.bind_some, less_eq, Option.bind_some, Option.bind_some, w64_id (by omega) (by omega), ha]
      by_cases hc : l.getD k 0 < pv
      · left
        refine ⟨hc, ?_⟩
        rw [decide_eq_true hc, if_pos rfl]
        rfl
      · right
        refine ⟨hc, ?_⟩
        rw [decide_eq_false hc, if_neg (by decide)]) (by
      unfold slices_partitionOrdered_uint64_s4
      rw [if_neg (by simp only [decide_eq_true_eq]; omega), Option.bind_some, if_neg (by decide)])
  have down : ∀ (l : List Int) (i j : Nat), l.length = l0.length → l.getD a 0 = pv → a + 1 ≤ i → i ≤ j + 1 → j + 1 ≤ b →
      ∃ k : Nat, loopM FUEL (fun s : Int => slices_partitionOrdered_uint64_s5 a l (i : Int) s) (j : Int) = some (k : Int) ∧ i ≤ k + 1 ∧ k ≤ j ∧ (∀ x, k < x → x ≤ j → pv ≤ l.getD x 0) ∧ (i ≤ k → ¬ pv ≤ l.getD k 0) := fun l i j hl ha h1 h2 h3 =>
    down_search (P := fun k => pv ≤ l.getD k 0) (i := i) (j := j) (by omega) (by omega) h2 (fun k q1 q2 => by
      unfold slices_partitionOrdered_uint64_s5
      rw [if_pos (by simp only [decide_eq_true_eq]; omega), ix_getD (i := k) rfl (by omega) 0, Option.bind_some, ix_getD (i := a) rfl (by omega) 0, Option.bind_some, less_eq, Option.bind_some, Option.bind_some, w64_id (by omega) (by omega), ha]
      by_cases hc : l.getD k 0 < pv
      · right
        refine ⟨by omega, ?_⟩
        rw [decide_eq_true hc, if_neg (by decide)]
      · left
        refine ⟨by omega, ?_⟩
        rw [decide_eq_false hc, if_pos (by decide), show (k : Int) - 1 = ((k - 1 : Nat) : Int) by omega]) (by
      unfold slices_partitionOrdered_uint64_s5
      rw [if_neg (by simp only [decide_eq_true_eq]; omega), Option.bind_some, if_neg (by decide)])
  obtain ⟨i1, e1, g1, g2, g3, g4⟩ := up (swp l0 a p) (a + 1) (b - 1) hl1 hpv (by omega) (by omega) (by omega)
  rw [show ((b - 1 : Nat) : Int) = (b : Int) - 1 by omega] at e1
  rw [show (a : Int) + 1 = ((a + 1 : Nat) : Int) by push_cast; rfl, e1, Option.bind_some]
  obtain ⟨j1, e2, k1, k2, k3, k4⟩ := down (swp l0 a p) i1 (b - 1) hl1 hpv (by omega) g2 (by omega)
  rw [show ((b - 1 : Nat) : Int) = (b : Int) - 1 by omega] at e2
  rw [show (fun s : Int => slices_partitionOrdered_uint64_s2 l0 a p (l0.getD p 0) (l0.getD a 0) (i1 : Int) s) = (fun s : Int => slices_partitionOrdered_uint64_s5 a (swp l0 a p) (i1 : Int) s) from funext fun z => hs2 _ z]
  rw [e2, Option.bind_some]
  by_cases c1 : j1 < i1
  · rw [if_pos (by simp only [decide_eq_true_eq]; omega), ix_getD (i := a) rfl (by omega) 0, Option.bind_some, ix_getD (i := j1) rfl (by omega) 0, Option.bind_some, chk_pos (by omega), List.length_set, chk_pos (by omega), show ((j1 : Int)).toNat = j1 by omega]
    rw [swp_sets]
    obtain ⟨r1, r2, r3⟩ := part_fin (l0 := l0) (l := (swp l0 a p)) (a := a) (b := b) (j := j1) hb hM (by omega) hpv (fun x q1 q2 => g3 x q1 (by omega)) (fun x q1 q2 => k3 x q1 (by omega))
    exact ⟨j1, true, _, rfl, r1, by omega, by omega, r2, r3⟩
  · have n1 := g4 (by omega)
    have n2 := k4 (by omega)
    have hne : i1 ≠ j1 := fun h => by rw [h] at n1; omega
    rw [if_neg (by simp only [decide_eq_true_eq]; omega), ix_getD (i := j1) rfl (by omega) 0, Option.bind_some, ix_getD (i := i1) rfl (by omega) 0, Option.bind_some, chk_pos (by omega), List.length_set, chk_pos (by omega), show ((j1 : Int)).toNat = j1 by omega, show ((i1 : Int)).toNat = i1 by omega]
    rw [swp_sets]
    rw [w64_id (z := (i1 : Int) + 1) (by omega) (by omega), w64_id (z := (j1 : Int) - 1) (by omega) (by omega)]
    have hg1 := fun k => swp_getD (l := (swp l0 a p)) (i := i1) (j := j1) (by omega) (by omega) k
    have : ∃ r : List Int × Int, loopM FUEL (fun s : List Int × Int × Int => slices_partitionOrdered_uint64_s3 a s.1 s.2.1 s.2.2) (swp (swp l0 a p) i1 j1, (i1 : Int) + 1, (j1 : Int) - 1) = some r ∧ ∃ j : Nat, r.2 = (j : Int) ∧ Mx a b l0 r.1 ∧ r.1.getD a 0 = pv ∧ a ≤ j ∧ j < b ∧ (∀ x, a + 1 ≤ x → x ≤ j → r.1.getD x 0 < pv) ∧ ∀ x, j < x → x < b → pv ≤ r.1.getD x 0 := by
      refine loop_inv (fun c s => ∃ i j : Nat, s.2.1 = (i : Int) ∧ s.2.2 = (j : Int) ∧ Mx a b l0 s.1 ∧ s.1.getD a 0 = pv ∧ a + 1 + c ≤ i ∧ i ≤ j + 1 ∧ j + 1 ≤ b ∧ (∀ x, a + 1 ≤ x → x < i → s.1.getD x 0 < pv) ∧ ∀ x, j < x → x < b → pv ≤ s.1.getD x 0) _ b (by unfold FUEL; omega) _
        ⟨i1 + 1, j1 - 1, by push_cast; rfl, by dsimp only; omega, hM.trans (Mx.swp (by omega) (by omega) (by omega)), by
          dsimp only
          rw [hg1, if_neg (by omega), if_neg (by omega)]; exact hpv, by omega, by omega, by omega, fun x q1 q2 => by
          dsimp only
          rw [hg1, if_neg (by omega)]
          by_cases hx : x = i1
          · rw [if_pos hx]; omega
          · rw [if_neg hx]; exact g3 x q1 (by omega), fun x q1 q2 => by
          dsimp only
          rw [hg1]
          by_cases hx : x = j1
          · rw [if_pos hx]; omega
          · rw [if_neg hx, if_neg (by omega)]; exact k3 x (by omega) (by omega)⟩ ?_
      rintro c ⟨l, z1, z2⟩ ⟨i, j, h1, h2, hm, hpa, hi, hij, hj, hlo, hhi⟩
      dsimp only at h1 h2 hm hpa hlo hhi
      subst h1
      subst h2
      have hlen := hm.1
      show (∃ s', slices_partitionOrdered_uint64_s3 a l (i : Int) (j : Int) = some (.next s') ∧ _) ∨ (∃ x, slices_partitionOrdered_uint64_s3 a l (i : Int) (j : Int) = some (.done x) ∧ _)
      unfold slices_partitionOrdered_uint64_s3
      obtain ⟨i2, e1, g1, g2, g3, g4⟩ := up l i j hlen hpa (by omega) hij hj
      rw [e1, Option.bind_some]
      obtain ⟨j2, e2, k1, k2, k3, k4⟩ := down l i2 j hlen hpa (by omega) g2 hj
      rw [e2, Option.bind_some]
      have hlo2 : ∀ x, a + 1 ≤ x → x < i2 → l.getD x 0 < pv := fun x q1 q2 => by
        by_cases hx : x < i
        · exact hlo x q1 hx
        · exact g3 x (by omega) q2
      have hhi2 : ∀ x, j2 < x → x < b → pv ≤ l.getD x 0 := fun x q1 q2 => by
        by_cases hx : j < x
        · exact hhi x hx q2
        · exact k3 x q1 (by omega)
      by_cases c1 : j2 < i2
      · right
        rw [if_pos (by simp only [decide_eq_true_eq]; omega)]
        exact ⟨_, rfl, j2, rfl, hm, hpa, by omega, by omega, fun x q1 q2 => hlo2 x q1 (by omega), hhi2⟩
      · left
        have n1 := g4 (by omega)
        have n2 := k4 (by omega)
        have hne : i2 ≠ j2 := fun h => by rw [h] at n1; omega
        rw [if_neg (by simp only [decide_eq_true_eq]; omega), ix_getD (i := j2) rfl (by omega) 0, Option.bind_some, ix_getD (i := i2) rfl (by omega) 0, Option.bind_some, chk_pos (by omega), List.length_set, chk_pos (by omega), show ((i2 : Int)).toNat = i2 by omega, show ((j2 : Int)).toNat = j2 by omega, swp_sets, w64_id (by omega) (by omega), w64_id (by omega) (by omega)]
        have hg := fun k => swp_getD (l := l) (i := i2) (j := j2) (by omega) (by omega) k
        refine ⟨_, rfl, ⟨i2 + 1, j2 - 1, by push_cast; rfl, by dsimp only; omega, hm.trans (Mx.swp (by omega) (by omega) (by omega)), ?_, by omega, by omega, by omega, fun x q1 q2 => ?_, fun x q1 q2 => ?_⟩, by omega⟩
        · dsimp only
          rw [hg, if_neg (by omega), if_neg (by omega)]
          exact hpa
        · dsimp only
          rw [hg, if_neg (by omega)]
          by_cases hx : x = i2
          · rw [if_pos hx]; omega
          · rw [if_neg hx]; exact hlo2 x q1 (by omega)
        · dsimp only
          rw [hg]
          by_cases hx : x = j2
          · rw [if_pos hx]; omega
          · rw [if_neg hx, if_neg (by omega)]; exact hhi2 x (by omega) q2
    obtain ⟨⟨l, z⟩, e, j, hz, h1, h2, h3, h4, h5, h6⟩ := this
    dsimp only at hz h1 h2 h5 h6
    subst hz
    have hlen := h1.1
    rw [e, Option.bind_some]
    dsimp only
    rw [ix_getD (i := a) rfl (by omega) 0, Option.bind_some, ix_getD (i := j) rfl (by omega) 0, Option.bind_some, chk_pos (by omega), List.length_set, chk_pos (by omega), show ((j : Int)).toNat = j by omega]
    rw [swp_sets]
    obtain ⟨r1, r2, r3⟩ := part_fin (l0 := l0) (l := l) (a := a) (b := b) (j := j) hb h1 (by omega) h2 h5 h6
    exact ⟨j, false, _, rfl, r1, by omega, by omega, r2, r3⟩
end Go.Proofs.Ytbolefkhmfbnlaa
