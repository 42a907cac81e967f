/-
  PLAIN, chapter 21: distances of words.
-/
import Derived.Test.YtdgmeplpkehdnaaPcount
namespace Go.Proofs.Ytdgmeplpkehdnaa
open Go.E

theorem known21 : fiduciallaw21_known = some true := by kernel_rfl

theorem distance_ok (a b : Nat) (ha : a < 18446744073709551616) (hb : b < 18446744073709551616) : descriptor_Distance (a : Int) (b : Int) = some ((pc (a ^^^ b) : Nat) : Int) := by
  unfold descriptor_Distance
  have h : a ^^^ b < 2 ^ 64 := Nat.xor_lt_two_pow (by omega) (by omega)
  rw [xor64 a b ha hb, ones_ok _ h]
  rfl

theorem distances_true (a b c : Int) (ha : 0 ≤ a ∧ a < 18446744073709551616) (hb : 0 ≤ b ∧ b < 18446744073709551616) (hc : 0 ≤ c ∧ c < 18446744073709551616) : fiduciallaw21_DescriptorDistances a b c = some true := by
  obtain ⟨a, rfl⟩ : ∃ n : Nat, a = n := ⟨a.toNat, by omega⟩
  obtain ⟨b, rfl⟩ : ∃ n : Nat, b = n := ⟨b.toNat, by omega⟩
  obtain ⟨c, rfl⟩ : ∃ n : Nat, c = n := ⟨c.toNat, by omega⟩
  have ha' : a < 18446744073709551616 := by omega
  have hb' : b < 18446744073709551616 := by omega
  have hc' : c < 18446744073709551616 := by omega
  have h : a ^^^ b < 2 ^ 64 := Nat.xor_lt_two_pow (by omega) (by omega)
  have z := pc_zero a b ha' hb'
  have t := pc_tri a b c
  have l1 := pc_bd (a ^^^ b)
  have l2 := pc_bd (b ^^^ c)
  have e9 : w64 (((pc (a ^^^ b) : Nat) : Int) + ((pc (b ^^^ c) : Nat) : Int)) = ((pc (a ^^^ b) : Nat) : Int) + ((pc (b ^^^ c) : Nat) : Int) := w64_id (by omega) (by omega)
  have e8 : ((((pc (a ^^^ b) : Nat) : Int) == 0) == ((a : Int) == (b : Int))) = true := by
    by_cases h9 : a = b
    · have := z.2 h9
      rw [this, h9]; simp
    · have h8 : pc (a ^^^ b) ≠ 0 := fun h => h9 (z.1 h)
      have h7 : ¬ ((pc (a ^^^ b) : Nat) : Int) = 0 := by omega
      have h6 : ¬ (a : Int) = (b : Int) := by omega
      rw [beq_eq_false_iff_ne.2 h7, beq_eq_false_iff_ne.2 h6]; rfl
  unfold fiduciallaw21_DescriptorDistances
  rw [known21, distance_ok a b ha' hb', distance_ok b a hb' ha', distance_ok a c ha' hc', distance_ok b c hb' hc', xor64 a b ha' hb', ones_ok _ h, pc_comm b a]
  simp only [Option.bind_some, Bool.not_true, Bool.false_eq_true, if_false, beq_self_eq_true, if_true, e8, e9]
  exact congrArg some (decide_eq_true (by omega))

end Go.Proofs.Ytdgmeplpkehdnaa
