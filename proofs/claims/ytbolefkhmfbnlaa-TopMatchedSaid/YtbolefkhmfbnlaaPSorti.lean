/-
  PLAIN: the breaking of patterns: some elements change places.
-/
import Derived.Test.YtbolefkhmfbnlaaPSorth
set_option linter.unusedSimpArgs false
set_option linter.unusedVariables false
namespace Go.Proofs.Ytbolefkhmfbnlaa
open Go.E

def xsh (s_4 : Int) : Int := wu64 (((BitVec.ofInt 64 (wu64 (((BitVec.ofInt 64 (wu64 (((BitVec.ofInt 64 s_4 ^^^ BitVec.ofInt 64 (wu64 (s_4 * 2 ^ (min (13 : Int).toNat 64)))).toNat : Int))) ^^^ BitVec.ofInt 64 (Int.fdiv (wu64 (((BitVec.ofInt 64 s_4 ^^^ BitVec.ofInt 64 (wu64 (s_4 * 2 ^ (min (13 : Int).toNat 64)))).toNat : Int))) (2 ^ (min (7 : Int).toNat 64)))).toNat : Int))) ^^^ BitVec.ofInt 64 (wu64 ((wu64 (((BitVec.ofInt 64 (wu64 (((BitVec.ofInt 64 s_4 ^^^ BitVec.ofInt 64 (wu64 (s_4 * 2 ^ (min (13 : Int).toNat 64)))).toNat : Int))) ^^^ BitVec.ofInt 64 (Int.fdiv (wu64 (((BitVec.ofInt 64 s_4 ^^^ BitVec.ofInt 64 (wu64 (s_4 * 2 ^ (min (13 : Int).toNat 64)))).toNat : Int))) (2 ^ (min (7 : Int).toNat 64)))).toNat : Int))) * 2 ^ (min (17 : Int).toNat 64)))).toNat : Int))

theorem wu64_id {z : Int} (h1 : 0 ≤ z) (h2 : z < 18446744073709551616) : wu64 z = z := by
  unfold wu64 IntKind.wrap
  simp only [IntKind.bits, IntKind.signed]
  simp
  omega
theorem and_ex (R y : Int) (h1 : 1 ≤ y) (h2 : y ≤ 4096) : ∃ v : Nat, (v : Int) ≤ y - 1 ∧ w64 (wu64 (((BitVec.ofInt 64 R &&& BitVec.ofInt 64 (wu64 (y - 1))).toNat : Int))) = (v : Int) := by
  obtain ⟨k, rfl⟩ : ∃ k : Nat, y = (k : Int) + 1 := ⟨(y - 1).toNat, by omega⟩
  rw [wu64_id (z := (k : Int) + 1 - 1) (by omega) (by omega), show (k : Int) + 1 - 1 = ((k : Nat) : Int) by omega, BitVec.ofInt_natCast, BitVec.toNat_and]
  have h3 : (BitVec.ofInt 64 R).toNat &&& (BitVec.ofNat 64 k).toNat ≤ (BitVec.ofNat 64 k).toNat := Nat.and_le_right
  have h4 : (BitVec.ofNat 64 k).toNat = k := by rw [BitVec.toNat_ofNat]; omega
  rw [h4] at h3 ⊢
  exact ⟨(BitVec.ofInt 64 R).toNat &&& k, by omega, by rw [wu64_id (by omega) (by omega), w64_id (by omega) (by omega)]⟩

theorem np2_ok {n : Nat} (h1 : 1 ≤ n) (h2 : n ≤ 1000) : ∃ y : Int, slices_nextPowerOfTwo (n : Int) = some y ∧ 1 ≤ y ∧ y ≤ 2 * n := by
  have h : (List.range 1001).all (fun n => n == 0 || match slices_nextPowerOfTwo (n : Int) with | some y => decide (1 ≤ y) && decide (y ≤ 2 * n) | none => false) = true := by decide +kernel
  have h3 := List.all_eq_true.1 h n (List.mem_range.2 (by omega))
  cases h4 : slices_nextPowerOfTwo (n : Int) with
  | none => rw [h4] at h3; simp at h3; omega
  | some y =>
    rw [h4] at h3
    simp only [Bool.or_eq_true, beq_iff_eq, Bool.and_eq_true, decide_eq_true_eq] at h3
    exact ⟨y, rfl, by omega, by omega⟩
theorem len_ok {n : Nat} (h2 : n ≤ 1000) : ∃ y : Int, bits_Len (wu64 (n : Int)) = some y := by
  have h : (List.range 1001).all (fun n => (bits_Len (wu64 (n : Int))).isSome) = true := by decide +kernel
  have h3 := List.all_eq_true.1 h n (List.mem_range.2 (by omega))
  cases h4 : bits_Len (wu64 (n : Int)) with
  | none => rw [h4] at h3; cases h3
  | some y => exact ⟨y, rfl⟩

theorem break_ok {l0 : List Int} {a b : Nat} (hab : a + 8 ≤ b) (hb : b ≤ l0.length) (hn : l0.length ≤ 1000) :
    ∃ l, slices_breakPatternsOrdered_uint64 l0 a b = some l ∧ Mx a b l0 l := by
  obtain ⟨n, rfl⟩ : ∃ n : Nat, b = a + n := ⟨b - a, by omega⟩
  unfold slices_breakPatternsOrdered_uint64
  have hw : w64 (((a + n : Nat) : Int) - (a : Int)) = (n : Int) := by rw [w64_id (by omega) (by omega)]; omega
  have hd : w64 (Int.tdiv (n : Int) 4) = ((n / 4 : Nat) : Int) := by rw [show Int.tdiv (n : Int) 4 = ((n / 4 : Nat) : Int) from rfl, w64_id (by omega) (by omega)]
  have hd2 : w64 (((n / 4 : Nat) : Int) * 2) = ((n / 4 * 2 : Nat) : Int) := by rw [w64_id (by omega) (by omega)]; push_cast; rfl
  have hd3 : w64 ((a : Int) + ((n / 4 * 2 : Nat) : Int)) = ((a + n / 4 * 2 : Nat) : Int) := by rw [w64_id (by omega) (by omega)]; push_cast; rfl
  obtain ⟨y, hy, hy1, hy2⟩ := np2_ok (n := n) (by omega) (by omega)
  rw [hw, if_pos (by simp only [decide_eq_true_eq]; omega), hy, Option.bind_some, hd, hd2, hd3]
  have : ∃ r : List Int × Int, loopM FUEL (fun s : List Int × Int × Int => slices_breakPatternsOrdered_uint64_s1 a ((a + n : Nat) : Int) y s.1 s.2.1 s.2.2) (l0, w64 (((a + n / 4 * 2 : Nat) : Int) - 1), wu64 (n : Int)) = some r ∧ Mx a (a + n) l0 r.1 := by
    refine loop_inv (fun k s => s.2.1 = ((a + n / 4 * 2 - 1 + k : Nat) : Int) ∧ Mx a (a + n) l0 s.1) _ 3 (by unfold FUEL; omega) _ ⟨by dsimp only; rw [w64_id (by omega) (by omega)]; omega, Mx.refl _ _ _⟩ ?_
    rintro k ⟨l, z1, z2⟩ ⟨h1, hm⟩
    dsimp only at h1 hm
    subst h1
    have hlen := hm.1
    obtain ⟨i, hi⟩ : ∃ i, i = a + n / 4 * 2 - 1 + k := ⟨_, rfl⟩
    rw [← hi]
    show (∃ s', slices_breakPatternsOrdered_uint64_s1 a ((a + n : Nat) : Int) y l (i : Int) z2 = some (.next s') ∧ _) ∨ (∃ x, slices_breakPatternsOrdered_uint64_s1 a ((a + n : Nat) : Int) y l (i : Int) z2 = some (.done x) ∧ _)
    unfold slices_breakPatternsOrdered_uint64_s1
    obtain ⟨v, hv1, hv⟩ := and_ex (xsh z2) y hy1 (by omega)
    unfold xsh at hv
    rw [hv, hw, hd, hd2, hd3, w64_id (z := ((a + n / 4 * 2 : Nat) : Int) + 1) (by omega) (by omega)]
    by_cases c : i ≤ a + n / 4 * 2 + 1
    · left
      rw [if_pos (by simp only [decide_eq_true_eq]; omega)]
      have ho : ∃ o : Nat, o < n ∧ (if decide ((n : Int) ≤ (v : Int)) = true then some (w64 ((v : Int) - (n : Int))) else some (v : Int)) = some (o : Int) := by
        by_cases c2 : n ≤ v
        · refine ⟨v - n, by omega, ?_⟩
          rw [if_pos (by simp only [decide_eq_true_eq]; omega), w64_id (by omega) (by omega)]
          congr 1
          omega
        · exact ⟨v, by omega, if_neg (by simp only [decide_eq_true_eq]; omega)⟩
      obtain ⟨o, ho1, ho2⟩ := ho
      rw [ho2, Option.bind_some, show w64 ((a : Int) + (o : Int)) = ((a + o : Nat) : Int) by rw [w64_id (by omega) (by omega)]; push_cast; rfl, ix_getD (i := a + o) rfl (by omega) 0, Option.bind_some, ix_getD (i := i) rfl (by omega) 0, Option.bind_some, chk_pos (by omega), List.length_set, chk_pos (by omega), show ((i : Int)).toNat = i by omega, show (((a + o : Nat) : Int)).toNat = a + o by omega, swp_sets, w64_id (by omega) (by omega)]
      exact ⟨_, rfl, ⟨by dsimp only; omega, hm.trans (Mx.swp (by omega) (by omega) (by omega))⟩, by omega⟩
    · right
      rw [if_neg (by simp only [decide_eq_true_eq]; omega)]
      exact ⟨_, rfl, hm⟩
  obtain ⟨⟨l, z⟩, e1, e2⟩ := this
  exact ⟨l, by rw [e1]; rfl, e2⟩
end Go.Proofs.Ytbolefkhmfbnlaa
