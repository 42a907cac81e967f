/-
  PLAIN: whether all words differ: sorted, none is like its neighbour.
-/
import Derived.Test.YtbolefkhmfbnlaaPSortj
set_option linter.unusedSimpArgs false
set_option linter.unusedVariables false
namespace Go.Proofs.Ytbolefkhmfbnlaa
open Go.E

theorem natOf_nat (n : Nat) : natOf ((n : Nat) : Int) = some n := by
  unfold natOf
  rw [if_pos (by omega)]
  simp
theorem fold_app : ∀ (xs acc : List Int), acc.length + xs.length ≤ 1000 → foldS (fun (s : List Int) (x : Int) => slices_AppendSeq_suint64_s1 s x) acc xs = some (acc ++ xs)
  | [], acc, _ => by simp [foldS]
  | x :: xs, acc, h => by
    simp only [List.length_cons] at h
    have e : slices_AppendSeq_suint64_s1 acc x = some (acc ++ [x]) := by
      unfold slices_AppendSeq_suint64_s1
      rw [chk_pos (by omega)]
    simp only [foldS]
    rw [e, Option.bind_some, fold_app xs (acc ++ [x]) (by simp; omega)]
    simp
theorem collect_ok {xs : List Int} (hn : xs.length ≤ 1000) : slices_Collect_uint64 xs = some xs := by
  unfold slices_Collect_uint64 slices_AppendSeq_suint64
  rw [chk_pos (by omega), fold_app xs [] (by simpa using hn)]
  rfl

theorem compact_in {zs : List Int} {k0 : Nat} (h0 : 1 ≤ k0 ∧ k0 < zs.length) (hn : zs.length ≤ 1000) :
    ∃ r : List Int × Int, loopM FUEL (fun s : List Int × Int × Int => slices_Compact_suint64_s2 k0 (zs.length - k0) s.1 s.2.1 s.2.2) (zs, (k0 : Int), 1) = some r ∧ ∃ k : Nat, r.2 = (k : Int) ∧ r.1.length = zs.length ∧ k0 ≤ k ∧ k < zs.length := by
  refine loop_inv (fun c s => ∃ k : Nat, s.2.1 = (k : Int) ∧ s.2.2 = ((1 + c : Nat) : Int) ∧ s.1.length = zs.length ∧ k0 ≤ k ∧ k ≤ k0 + c ∧ 1 + c ≤ zs.length - k0) _ zs.length (by unfold FUEL; omega) _ ⟨k0, rfl, rfl, rfl, by omega, by omega, by omega⟩ ?_
  rintro c ⟨l, z1, z2⟩ ⟨k, h1, h2, hlen, hk1, hk2, hc⟩
  dsimp only at h1 h2 hlen
  subst h1
  subst h2
  show (∃ s', slices_Compact_suint64_s2 k0 (zs.length - k0) l (k : Int) ((1 + c : Nat) : Int) = some (.next s') ∧ _) ∨ (∃ x, slices_Compact_suint64_s2 k0 (zs.length - k0) l (k : Int) ((1 + c : Nat) : Int) = some (.done x) ∧ _)
  unfold slices_Compact_suint64_s2
  by_cases c1 : 1 + c < zs.length - k0
  · left
    rw [if_pos (by simp only [decide_eq_true_eq]; omega), w64_id (z := ((1 + c : Nat) : Int) - 1) (by omega) (by omega), chk_pos (by omega), chk_pos (by omega)]
    by_cases c2 : l.getD (k0 + ((1 + c : Nat) : Int).toNat) 0 != l.getD (k0 + (((1 + c : Nat) : Int) - 1).toNat) 0
    · rw [if_pos c2, chk_pos (by omega), chk_pos (by omega), Option.bind_some, w64_id (z := (k : Int) + 1) (by omega) (by omega), w64_id (z := ((1 + c : Nat) : Int) + 1) (by omega) (by omega)]
      exact ⟨_, rfl, ⟨k + 1, by push_cast; rfl, by push_cast; omega, by dsimp only; rw [List.length_set]; exact hlen, by omega, by omega, by omega⟩, by omega⟩
    · rw [if_neg c2, Option.bind_some, w64_id (z := ((1 + c : Nat) : Int) + 1) (by omega) (by omega)]
      exact ⟨_, rfl, ⟨k, rfl, by push_cast; omega, hlen, by omega, by omega, by omega⟩, by omega⟩
  · right
    rw [if_neg (by simp only [decide_eq_true_eq]; omega)]
    exact ⟨_, rfl, k, rfl, hlen, hk1, by omega⟩

theorem compact_ok {zs : List Int} (hn : zs.length ≤ 1000) : ∃ (k : Nat) (l : List Int), slices_Compact_suint64 zs = some (k, l) ∧ (k = zs.length → ∀ i, 0 < i → i < zs.length → zs.getD i 0 ≠ zs.getD (i - 1) 0) := by
  unfold slices_Compact_suint64
  by_cases c : zs.length < 2
  · rw [if_pos (by simp only [decide_eq_true_eq]; omega)]
    exact ⟨_, _, rfl, fun _ i h1 h2 => by omega⟩
  rw [if_neg (by simp only [decide_eq_true_eq]; omega)]
  have : ∃ r : (Nat × List Int) ⊕ Unit, loopM FUEL (fun s : Int => slices_Compact_suint64_s1 zs s) 1 = some r ∧ ((∃ k l, r = .inl (k, l) ∧ k < zs.length) ∨ (r = .inr () ∧ ∀ i, 0 < i → i < zs.length → zs.getD i 0 ≠ zs.getD (i - 1) 0)) := by
    refine loop_inv (fun k s => s = ((1 + k : Nat) : Int) ∧ 1 + k ≤ zs.length ∧ ∀ i, 0 < i → i < 1 + k → zs.getD i 0 ≠ zs.getD (i - 1) 0) _ zs.length (by unfold FUEL; omega) _ ⟨rfl, by omega, fun i h1 h2 => by omega⟩ ?_
    rintro k s ⟨rfl, hk, hs⟩
    unfold slices_Compact_suint64_s1
    obtain ⟨j, hj⟩ : ∃ j, j = 1 + k := ⟨_, rfl⟩
    rw [← hj] at hs ⊢
    by_cases c1 : j < zs.length
    · rw [if_pos (by simp only [decide_eq_true_eq]; omega), w64_id (z := (j : Int) - 1) (by omega) (by omega), ix_getD (i := j) rfl (by omega) 0, Option.bind_some, ix_getD (i := j - 1) (by omega) (by omega) 0, Option.bind_some]
      by_cases c2 : zs.getD j 0 = zs.getD (j - 1) 0
      · right
        obtain ⟨⟨l, z⟩, e1, q, hq, hl, hq1, hq2⟩ := compact_in (zs := zs) (k0 := j) (by omega) hn
        dsimp only at hq hl
        subst hq
        rw [if_pos (by simpa using c2), natOf_nat, Option.bind_some, show (zs.length : Int) - (j : Int) = ((zs.length - j : Nat) : Int) by omega, natOf_nat, Option.bind_some, chk_pos (by omega), e1, Option.bind_some]
        dsimp only
        have hc : (clr l q (l.length - q) (0 : Int)).length = l.length := by
          simp only [clr, List.length_append, List.length_take, List.length_drop, List.length_replicate]; omega
        rw [natOf_nat, Option.bind_some, show (l.length : Int) - (q : Int) = ((l.length - q : Nat) : Int) by omega, natOf_nat, Option.bind_some, chk_pos (by omega), chk_pos (by omega), show (0 : Int) = ((0 : Nat) : Int) from rfl, natOf_nat, Option.bind_some, show (q : Int) - ((0 : Nat) : Int) = (q : Int) by omega, natOf_nat, Option.bind_some, chk_pos (by
          refine ⟨by omega, ?_⟩
          rw [show ((0 : Nat) : Int) = 0 from rfl, hc]
          omega)]
        exact ⟨_, rfl, .inl ⟨_, _, rfl, hq2⟩⟩
      · left
        rw [if_neg (by simpa using c2), w64_id (by omega) (by omega)]
        exact ⟨_, rfl, ⟨by omega, by omega, fun i h1 h2 => by
          by_cases hi : i = j
          · rw [hi]; exact c2
          · exact hs i h1 (by omega)⟩, by omega⟩
    · right
      rw [if_neg (by simp only [decide_eq_true_eq]; omega)]
      exact ⟨_, rfl, .inr ⟨rfl, fun i h1 h2 => hs i h1 (by omega)⟩⟩
  obtain ⟨r, e1, ⟨k, l, rfl, h1⟩ | ⟨rfl, h1⟩⟩ := this
  · rw [e1]
    exact ⟨k, l, rfl, fun h => by omega⟩
  · rw [e1]
    exact ⟨_, _, rfl, fun _ => h1⟩

theorem distinct_ok {xs : List Int} (hn : xs.length ≤ 1000) : ∃ b, fiducialtop_bDistinct xs = some b ∧ (b = true → xs.Nodup) := by
  unfold fiducialtop_bDistinct slices_Sorted_uint64
  obtain ⟨ys, e1, m, s⟩ := sort_ok (l0 := xs) hn
  obtain ⟨k, l, e2, h⟩ := compact_ok (zs := ys) (by rw [m.1]; exact hn)
  rw [collect_ok hn, Option.bind_some, e1, Option.bind_some, Option.bind_some, e2]
  refine ⟨_, rfl, fun hb => ?_⟩
  have hk2 : ((k : Nat) : Int) = (xs.length : Int) := by simpa using hb
  have hk : k = xs.length := by omega
  have hadj := h (by rw [hk, m.1])
  have hlt : ∀ i j, i < j → j < ys.length → ys.getD i 0 < ys.getD j 0 := fun i j h1 h2 => by
    have a1 := hadj (i + 1) (by omega) (by omega)
    rw [Nat.add_sub_cancel] at a1
    have hl := m.1
    have a2 := s i (i + 1) (by omega) (by omega) (by omega)
    by_cases hj : j = i + 1
    · rw [hj]; omega
    · have a3 := s (i + 1) j (by omega) (by omega) (by omega)
      omega
  have hny : ys.Nodup := by
    refine List.pairwise_iff_getElem.2 fun i j hi hj h1 => ?_
    have := hlt i j h1 hj
    rw [getD_eq (by omega), getD_eq hj] at this
    omega
  rw [List.nodup_iff_count] at hny ⊢
  intro v
  have := hny v
  have h2 := m.2.1 v
  unfold cnt at h2
  omega
end Go.Proofs.Ytbolefkhmfbnlaa
