/-
  PLAIN: the document Sum.
-/
import Derived.Test.YtdgmeplpkehdnaaQTot
import Derived.Test.YtdgmeplpkehdnaaQRefAt
import Derived.KernelRfl
set_option linter.unusedSimpArgs false
namespace Go.Proofs.Ytdgmeplpkehdnaa
open Go.E

theorem refsum_good {W H : Nat} {m : Int} {g : Nat → Nat → Int} (bd : Bd W H m g) (X Y A B : Nat) (hX : X + A ≤ W) (hY : Y + B ≤ H) : fiducialref13_Sum W H m (grid W H g) X Y A B = some (Rc g X Y A B) := by
  obtain ⟨b1, b2, b3, b4, b5, b6, b7⟩ := bd
  have eX : w64 ((X : Int) + (A : Int)) = ((X + A : Nat) : Int) := by rw [w64_id (by omega) (by omega)]; simp
  have eY : w64 ((Y : Int) + (B : Int)) = ((Y + B : Nat) : Int) := by rw [w64_id (by omega) (by omega)]; simp
  have rb : ∀ j k, j < B → k ≤ A → 0 ≤ tot (fun i => g (X + i) (Y + j)) k ∧ tot (fun i => g (X + i) (Y + j)) k ≤ 64 * 65535 := fun j k hj hk => by
    have := tot_bound (f := fun i => g (X + i) (Y + j)) (c := 65535) k (fun i hi => by
      have := b7 (X + i) (Y + j) (by omega) (by omega)
      omega)
    have h2 : (k : Int) * 65535 ≤ 64 * 65535 := Int.mul_le_mul_of_nonneg_right (by omega) (by omega)
    omega
  have ob : ∀ j, j ≤ B → 0 ≤ tot (fun j => tot (fun i => g (X + i) (Y + j)) A) j ∧ tot (fun j => tot (fun i => g (X + i) (Y + j)) A) j ≤ 64 * (64 * 65535) := fun j hj => by
    have := tot_bound (f := fun j => tot (fun i => g (X + i) (Y + j)) A) (c := 64 * 65535) j (fun i hi => rb i A (by omega) (by omega))
    have h2 : (j : Int) * (64 * 65535) ≤ 64 * (64 * 65535) := Int.mul_le_mul_of_nonneg_right (by omega) (by omega)
    omega
  have inner : ∀ (j : Nat) (s : Int), j < B → 0 ≤ s ∧ s ≤ 64 * (64 * 65535) → ∃ r, loopM FUEL (fun q : Int × Int => fiducialref13_Sum_s2 W H m (grid W H g) X A ((Y + j : Nat) : Int) q.1 q.2) (s, (X : Int)) = some r ∧ r = s + tot (fun i => g (X + i) (Y + j)) A := by
    intro j s hj hs
    refine loop_inv (fun k q => q = (s + tot (fun i => g (X + i) (Y + j)) k, ((X + k : Nat) : Int)) ∧ k ≤ A) _ A (by unfold FUEL; omega) _ ⟨by simp [tot], by omega⟩ ?_
    rintro k q ⟨rfl, hk⟩
    unfold fiducialref13_Sum_s2
    rw [eX]
    by_cases hlt : k < A
    · have r1 := rb j k hj hk
      have r2 := b7 (X + k) (Y + j) (by omega) (by omega)
      refine .inl ⟨(s + tot (fun i => g (X + i) (Y + j)) (k + 1), ((X + (k + 1) : Nat) : Int)), ?_, ⟨rfl, hlt⟩, hlt⟩
      show (if decide (((X + k : Nat) : Int) < ((X + A : Nat) : Int)) = true then _ else _) = _
      rw [if_pos (by rw [decide_eq_true_iff]; omega)]
      show (fiducialref13_At W H m (grid W H g) ((X + k : Nat) : Int) ((Y + j : Nat) : Int)).bind _ = _
      rw [refat_grid b2 b4 g H m _ _ (X + k) (Y + j) (by omega) (by omega) rfl rfl, Option.bind_some]
      show some (Step.next (w64 (s + tot (fun i => g (X + i) (Y + j)) k + g (X + k) (Y + j)), w64 (((X + k : Nat) : Int) + 1))) = _
      rw [w64_id (by omega) (by omega), w64_id (by omega) (by omega)]
      congr 2
      refine Prod.ext ?_ (by simp; omega)
      simp only [tot]; omega
    · obtain rfl : k = A := by omega
      refine .inr ⟨s + tot (fun i => g (X + i) (Y + j)) k, ?_, rfl⟩
      show (if decide (((X + k : Nat) : Int) < ((X + k : Nat) : Int)) = true then _ else _) = _
      rw [if_neg (by simp)]
  have outer : ∃ r, loopM FUEL (fun q : Int × Int => fiducialref13_Sum_s1 W H m (grid W H g) X Y A B q.1 q.2) (0, (Y : Int)) = some r ∧ r = Rc g X Y A B := by
    refine loop_inv (fun j q => q = (tot (fun j => tot (fun i => g (X + i) (Y + j)) A) j, ((Y + j : Nat) : Int)) ∧ j ≤ B) _ B (by unfold FUEL; omega) _ ⟨by simp [tot], by omega⟩ ?_
    rintro j q ⟨rfl, hj⟩
    unfold fiducialref13_Sum_s1
    rw [eY]
    by_cases hlt : j < B
    · obtain ⟨r, k1, k2⟩ := inner j _ hlt (ob j hj)
      refine .inl ⟨(tot (fun j => tot (fun i => g (X + i) (Y + j)) A) (j + 1), ((Y + (j + 1) : Nat) : Int)), ?_, ⟨rfl, hlt⟩, hlt⟩
      show (if decide (((Y + j : Nat) : Int) < ((Y + B : Nat) : Int)) = true then _ else _) = _
      rw [if_pos (by rw [decide_eq_true_iff]; omega)]
      show (loopM FUEL _ (tot (fun j => tot (fun i => g (X + i) (Y + j)) A) j, (X : Int))).bind _ = _
      rw [k1, k2]
      show some (Step.next (_, w64 (((Y + j : Nat) : Int) + 1))) = _
      rw [w64_id (by omega) (by omega)]
      congr 2
    · obtain rfl : j = B := by omega
      refine .inr ⟨tot (fun j => tot (fun i => g (X + i) (Y + j)) A) j, ?_, rfl⟩
      show (if decide (((Y + j : Nat) : Int) < ((Y + j : Nat) : Int)) = true then _ else _) = _
      rw [if_neg (by simp)]
  obtain ⟨r, k1, rfl⟩ := outer
  unfold fiducialref13_Sum
  rw [k1]; rfl

end Go.Proofs.Ytdgmeplpkehdnaa
