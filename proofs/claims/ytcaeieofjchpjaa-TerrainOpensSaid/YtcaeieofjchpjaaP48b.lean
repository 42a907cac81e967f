/-
  PLAIN, chapter 48: Differences; Keep and Fill.
-/
import Derived.Test.YtcaeieofjchpjaaP48a
set_option linter.unusedSimpArgs false
set_option linter.unusedVariables false
namespace Go.Proofs.Ytcaeieofjchpjaa
open Go.E

theorem few_eq (a b c d e : Int) (z : List Int) : fiduciallaw48_few a b c d e z = some (decide ((z.length : Int) ≤ 150)) := rfl

/-- The height of the difference. -/
def dz (a b : Int) : Int := if a = -2147483648 ∨ b = -2147483648 then -2147483648 else a - b
def I64 (z : List Int) : Prop := ∀ v ∈ z, -9223372036854775808 ≤ v ∧ v ≤ 9223372036854775807

theorem zr (z : List Int) : z = row z.length (fun i => z.getD i 0) := row_of z

theorem diff_loops {n : Nat} (hn : n ≤ 4096) {f g : Nat → Int} (hf : ∀ i, i < n → f i = -2147483648 ∨ (-1048576 ≤ f i ∧ f i ≤ 1048576)) (hg : ∀ i, i < n → g i = -2147483648 ∨ (-1048576 ≤ g i ∧ g i ≤ 1048576)) :
    (loopM FUEL (fun s : List Int × Int => terrain_Difference_s2 (row n f) (row n g) s.1 s.2) (row n (fun _ => -2147483648), 0) = some (.inr (row n (fun i => dz (f i) (g i)))) ∧ loopM FUEL (fun s : List Int × Int => fiduciallaw48_difference_s1 (row n f) (row n g) s.1 s.2) ([], 0) = some (.inr (row n (fun i => dz (f i) (g i))))) ∨
    (loopM FUEL (fun s : List Int × Int => terrain_Difference_s2 (row n f) (row n g) s.1 s.2) (row n (fun _ => -2147483648), 0) = some (.inl (0, 0, 0, 0, 0, [], 2)) ∧ loopM FUEL (fun s : List Int × Int => fiduciallaw48_difference_s1 (row n f) (row n g) s.1 s.2) ([], 0) = some (.inl (0, 0, 0, 0, 0, [], 2))) := by
  have s1 : ∀ i, i < n → terrain_Difference_s2 (row n f) (row n g) (row n (mixf (fun _ => -2147483648) (fun i => dz (f i) (g i)) i)) (i : Int) = if dz (f i) (g i) ≠ -2147483648 ∧ bfar (dz (f i) (g i)) = true then some (.done (.inl (0, 0, 0, 0, 0, [], 2))) else some (.next (row n (mixf (fun _ => -2147483648) (fun i => dz (f i) (g i)) (i + 1)), ((i + 1 : Nat) : Int))) := fun i hi => by
    have h1 := hf i hi
    have h2 := hg i hi
    unfold terrain_Difference_s2
    rw [row_len, if_pos (by simpa using hi), row_ix _ _ rfl hi, Option.bind_some, row_ix _ _ rfl hi, w64_id (z := (i : Int) + 1) (by omega) (by omega)]
    simp only [Option.bind_some]
    by_cases q1 : f i = -2147483648
    · rw [if_pos (by simpa using q1), Option.bind_some, if_pos rfl, mixf_same _ _ (x := i) (by simp [dz, q1]), if_neg (by simp [dz, q1])]
      rfl
    · rw [if_neg (by simpa using q1), Option.bind_some]
      by_cases q2 : g i = -2147483648
      · rw [if_pos (by simpa using q2), mixf_same _ _ (x := i) (by simp [dz, q2]), if_neg (by simp [dz, q2])]
        rfl
      · have e : dz (f i) (g i) = f i - g i := by unfold dz; rw [if_neg (by omega)]
        have hs : ix ((row n (mixf (fun _ => -2147483648) (fun i => dz (f i) (g i)) i)).set i (f i - g i)) (i : Int) = some (f i - g i) := ix_get rfl (by rw [List.getElem?_set_self (by rw [row_len]; exact hi)])
        rw [if_neg (by simpa using q2), row_len, chk_pos (by omega), show ((i : Int)).toNat = i by omega, w64_id (z := f i - g i) (by omega) (by omega), hs, Option.bind_some, far_eq, Option.bind_some, e]
        cases hb : bfar (f i - g i)
        · rw [if_neg (by decide), if_neg (by simp), ← e, mixf_set _ (fun i => dz (f i) (g i)) hi]
          rfl
        · rw [if_pos rfl, if_pos ⟨by omega, rfl⟩]
  have s2 : ∀ i, i < n → fiduciallaw48_difference_s1 (row n f) (row n g) (row i (fun i => dz (f i) (g i))) (i : Int) = if dz (f i) (g i) ≠ -2147483648 ∧ bfar (dz (f i) (g i)) = true then some (.done (.inl (0, 0, 0, 0, 0, [], 2))) else some (.next (row (i + 1) (fun i => dz (f i) (g i)), ((i + 1 : Nat) : Int))) := fun i hi => by
    have h1 := hf i hi
    have h2 := hg i hi
    unfold fiduciallaw48_difference_s1
    rw [row_len, if_pos (by simpa using hi), row_ix _ _ rfl hi, Option.bind_some, row_ix _ _ rfl hi, w64_id (z := (i : Int) + 1) (by omega) (by omega)]
    simp only [Option.bind_some]
    rw [row_len, chk_pos (by omega), chk_pos (by omega)]
    by_cases q1 : f i = -2147483648
    · have e : dz (f i) (g i) = -2147483648 := by simp [dz, q1]
      rw [if_neg (by simpa using q1), Option.bind_some, if_neg (by decide), if_neg (by simp [e]), row_succ, e]
      rfl
    · rw [if_pos (by simpa using q1), Option.bind_some]
      by_cases q2 : g i = -2147483648
      · have e : dz (f i) (g i) = -2147483648 := by simp [dz, q2]
        rw [if_neg (by simpa using q2), if_neg (by simp [e]), row_succ, e]
        rfl
      · have e : dz (f i) (g i) = f i - g i := by unfold dz; rw [if_neg (by omega)]
        rw [if_pos (by simpa using q2), w64_id (z := f i - g i) (by omega) (by omega), far2_eq, Option.bind_some, e]
        cases hb : bfar (f i - g i)
        · rw [if_neg (by decide), if_neg (by simp), row_succ, e]
          rfl
        · rw [if_pos rfl, if_pos ⟨by omega, rfl⟩]
  rcases first_of (fun i => dz (f i) (g i) ≠ -2147483648 ∧ bfar (dz (f i) (g i)) = true) n with ha | ⟨i, hi, hb, hj⟩
  · refine .inl ⟨?_, ?_⟩
    · refine loop_go (fun i => (row n (mixf (fun _ => -2147483648) (fun i => dz (f i) (g i)) i), (i : Int))) n (by unfold FUEL; omega) ?_ (fun i hi => by
        show terrain_Difference_s2 (row n f) (row n g) (row n (mixf (fun _ => -2147483648) (fun i => dz (f i) (g i)) i)) (i : Int) = _
        rw [s1 i hi, if_neg (ha i hi)]) ?_
      · show (row n (fun _ => -2147483648), (0 : Int)) = (row n (mixf (fun _ => -2147483648) (fun i => dz (f i) (g i)) 0), ((0 : Nat) : Int))
        rw [show row n (mixf (fun _ => -2147483648) (fun i => dz (f i) (g i)) 0) = row n (fun _ => -2147483648) from row_congr fun z _ => by unfold mixf; rw [if_neg (by omega)]]
        rfl
      · show terrain_Difference_s2 (row n f) (row n g) (row n (mixf (fun _ => -2147483648) (fun i => dz (f i) (g i)) n)) (n : Int) = _
        unfold terrain_Difference_s2
        rw [row_len, if_neg (by simp), show row n (mixf (fun _ => -2147483648) (fun i => dz (f i) (g i)) n) = row n (fun i => dz (f i) (g i)) from row_congr fun z hz => by unfold mixf; rw [if_pos hz]]
    · refine loop_go (fun i => (row i (fun i => dz (f i) (g i)), (i : Int))) n (by unfold FUEL; omega) rfl (fun i hi => by
        show fiduciallaw48_difference_s1 (row n f) (row n g) (row i (fun i => dz (f i) (g i))) (i : Int) = _
        rw [s2 i hi, if_neg (ha i hi)]) ?_
      show fiduciallaw48_difference_s1 (row n f) (row n g) (row n (fun i => dz (f i) (g i))) (n : Int) = _
      unfold fiduciallaw48_difference_s1
      rw [row_len, if_neg (by simp)]
  · refine .inr ⟨?_, ?_⟩
    · refine loop_go (fun i => (row n (mixf (fun _ => -2147483648) (fun i => dz (f i) (g i)) i), (i : Int))) i (by unfold FUEL; omega) ?_ (fun j hji => by
        show terrain_Difference_s2 (row n f) (row n g) (row n (mixf (fun _ => -2147483648) (fun i => dz (f i) (g i)) j)) (j : Int) = _
        rw [s1 j (by omega), if_neg (hj j hji)]) ?_
      · show (row n (fun _ => -2147483648), (0 : Int)) = (row n (mixf (fun _ => -2147483648) (fun i => dz (f i) (g i)) 0), ((0 : Nat) : Int))
        rw [show row n (mixf (fun _ => -2147483648) (fun i => dz (f i) (g i)) 0) = row n (fun _ => -2147483648) from row_congr fun z _ => by unfold mixf; rw [if_neg (by omega)]]
        rfl
      · show terrain_Difference_s2 (row n f) (row n g) (row n (mixf (fun _ => -2147483648) (fun i => dz (f i) (g i)) i)) (i : Int) = _
        rw [s1 i hi, if_pos hb]
    · refine loop_go (fun i => (row i (fun i => dz (f i) (g i)), (i : Int))) i (by unfold FUEL; omega) rfl (fun j hji => by
        show fiduciallaw48_difference_s1 (row n f) (row n g) (row j (fun i => dz (f i) (g i))) (j : Int) = _
        rw [s2 j (by omega), if_neg (hj j hji)]) ?_
      show fiduciallaw48_difference_s1 (row n f) (row n g) (row i (fun i => dz (f i) (g i))) (i : Int) = _
      rw [s2 i hi, if_pos hb]

theorem VG.at_ {x0 y0 s w h : Int} {z : List Int} {W H : Nat} (v : VG x0 y0 s w h z W H) {i : Nat} (hi : i < z.length) : z.getD i 0 = -2147483648 ∨ (-1048576 ≤ z.getD i 0 ∧ z.getD i 0 ≤ 1048576) := v.ok _ (by rw [getD_eq hi]; exact List.getElem_mem _)

theorem differences_true (a0 a1 a2 a3 a4 : Int) (z : List Int) (b0 b1 b2 b3 b4 : Int) (y : List Int) : fiduciallaw48_TerrainDifferences a0 a1 a2 a3 a4 z b0 b1 b2 b3 b4 y = some true := by
  unfold fiduciallaw48_TerrainDifferences
  rw [known48, Option.bind_some, if_neg (by decide), few_eq, few_eq, Option.bind_some]
  by_cases hl : z.length ≤ 150
  · rw [decide_eq_true (by omega : (z.length : Int) ≤ 150), if_neg (by decide), Option.bind_some]
    by_cases hl2 : y.length ≤ 150
    · rw [decide_eq_true (by omega : (y.length : Int) ≤ 150), Option.bind_some, if_neg (by decide)]
      have hA := check_eq a0 a1 a2 a3 a4 z (by omega)
      have hB := check_eq b0 b1 b2 b3 b4 y (by omega)
      have hA2 := checked_eq a0 a1 a2 a3 a4 z (by omega)
      have hB2 := checked_eq b0 b1 b2 b3 b4 y (by omega)
      have i0 : ix ([(a0, a1, a2, a3, a4, z), (b0, b1, b2, b3, b4, y)] : List (Int × Int × Int × Int × Int × List Int)) (0 : Int) = some (a0, a1, a2, a3, a4, z) := ix_get (i := 0) rfl rfl
      have i1 : ix ([(a0, a1, a2, a3, a4, z), (b0, b1, b2, b3, b4, y)] : List (Int × Int × Int × Int × Int × List Int)) (1 : Int) = some (b0, b1, b2, b3, b4, y) := ix_get (i := 1) rfl rfl
      have st0 : terrain_Difference_s1 a0 a1 a2 a3 a4 z b0 b1 b2 b3 b4 y 0 = if (code a0 a1 a2 a3 a4 z != 0) = true then some (.done (.inl (0, 0, 0, 0, 0, [], code a0 a1 a2 a3 a4 z))) else some (.next 1) := by
        unfold terrain_Difference_s1
        rw [if_pos (by decide), i0, Option.bind_some]
        show ((terrain_Check a0 a1 a2 a3 a4 z).bind _) = _
        rw [hA, Option.bind_some]
        rfl
      have st1 : terrain_Difference_s1 a0 a1 a2 a3 a4 z b0 b1 b2 b3 b4 y 1 = if (code b0 b1 b2 b3 b4 y != 0) = true then some (.done (.inl (0, 0, 0, 0, 0, [], code b0 b1 b2 b3 b4 y))) else some (.next 2) := by
        unfold terrain_Difference_s1
        rw [if_pos (by decide), i1, Option.bind_some]
        show ((terrain_Check b0 b1 b2 b3 b4 y).bind _) = _
        rw [hB, Option.bind_some]
        rfl
      -- both give the same
      have key : ∃ q0 q1 q2 q3 q4 qz k, qz.length ≤ 1000000 ∧ terrain_Difference a0 a1 a2 a3 a4 z b0 b1 b2 b3 b4 y = some (q0, q1, q2, q3, q4, qz, k) ∧ fiduciallaw48_difference a0 a1 a2 a3 a4 z b0 b1 b2 b3 b4 y = some (q0, q1, q2, q3, q4, qz, k) := by
        unfold terrain_Difference fiduciallaw48_difference
        rw [hA2, hB2, Option.bind_some]
        rcases code_cases a0 a1 a2 a3 a4 z with ⟨cA, W, H, vA⟩ | cA
        · rcases code_cases b0 b1 b2 b3 b4 y with ⟨cB, W2, H2, vB⟩ | cB
          · have hL : loopM FUEL (fun s : Int => terrain_Difference_s1 a0 a1 a2 a3 a4 z b0 b1 b2 b3 b4 y s) 0 = some (.inr ()) := by
              refine loop_go (fun i => (i : Int)) (s0 := 0) 2 (by unfold FUEL; omega) rfl (fun i hi => ?_) rfl
              obtain rfl | rfl : i = 0 ∨ i = 1 := by omega
              · exact st0.trans (by rw [cA]; rfl)
              · exact st1.trans (by rw [cB]; rfl)
            rw [hL, cA, cB]
            simp only [Option.bind_some]
            rw [if_neg (show ¬ ((0 : Int) != 0) = true by decide), if_neg (show ¬ ((0 : Int) != 0) = true by decide)]
            by_cases hq : a0 = b0 ∧ a1 = b1 ∧ a2 = b2 ∧ a3 = b3 ∧ a4 = b4
            · obtain ⟨rfl, rfl, rfl, rfl, rfl⟩ := hq
              have eg : (if (a0 != a0) = true then some true else if (a1 != a1) = true then some true else if (a2 != a2) = true then some true else if (a3 != a3) = true then some true else some (a4 != a4)) = some false := by simp
              rw [eg]
              simp only [Option.bind_some]
              rw [if_neg (by decide), if_neg (by decide), blank_eq (by omega), Option.bind_some]
              have e1 := vA.ew; have e2 := vA.eh; have e3 := vB.ew; have e4 := vB.eh
              obtain rfl : W = W2 := by omega
              obtain rfl : H = H2 := by omega
              have hln : y.length = z.length := by rw [vA.len, vB.len]
              have hd := diff_loops (n := z.length) (f := fun i => z.getD i 0) (g := fun i => y.getD i 0) (by omega) (fun i hi => vA.at_ hi) (fun i hi => vB.at_ (by omega))
              have hz := zr z
              have hy := zr y
              rw [hln] at hy
              rw [← hz, ← hy] at hd
              rcases hd with ⟨d1, d2⟩ | ⟨d1, d2⟩
              · rw [d1, d2]
                exact ⟨_, _, _, _, _, _, _, by rw [row_len]; omega, rfl, rfl⟩
              · rw [d1, d2]
                exact ⟨_, _, _, _, _, _, _, by simp, rfl, rfl⟩
            · have eg : (if (a0 != b0) = true then some true else if (a1 != b1) = true then some true else if (a2 != b2) = true then some true else if (a3 != b3) = true then some true else some (a4 != b4)) = some true := by
                by_cases h0 : a0 = b0 <;> by_cases h1 : a1 = b1 <;> by_cases h2 : a2 = b2 <;> by_cases h3 : a3 = b3 <;> by_cases h4 : a4 = b4 <;> simp_all
              rw [eg]
              exact ⟨0, 0, 0, 0, 0, [], 4, by simp, rfl, rfl⟩
          · have hL : loopM FUEL (fun s : Int => terrain_Difference_s1 a0 a1 a2 a3 a4 z b0 b1 b2 b3 b4 y s) 0 = some (.inl (0, 0, 0, 0, 0, [], code b0 b1 b2 b3 b4 y)) := by
              refine loop_go (fun i => (i : Int)) (s0 := 0) 1 (by unfold FUEL; omega) rfl (fun i hi => ?_) (st1.trans (if_pos (by simpa using cB)))
              obtain rfl : i = 0 := by omega
              exact st0.trans (by rw [cA]; rfl)
            rw [hL, cA, if_neg (show ¬ ((0 : Int) != 0) = true by decide), Option.bind_some, Option.bind_some, if_pos (show (code b0 b1 b2 b3 b4 y != 0) = true by simpa using cB)]
            exact ⟨0, 0, 0, 0, 0, [], _, by simp, rfl, rfl⟩
        · have hL : loopM FUEL (fun s : Int => terrain_Difference_s1 a0 a1 a2 a3 a4 z b0 b1 b2 b3 b4 y s) 0 = some (.inl (0, 0, 0, 0, 0, [], code a0 a1 a2 a3 a4 z)) :=
            loop_go (fun i => (i : Int)) (s0 := 0) 0 (by unfold FUEL; omega) rfl (fun i hi => by omega) (st0.trans (if_pos (by simpa using cA)))
          rw [hL, if_pos (show (code a0 a1 a2 a3 a4 z != 0) = true by simpa using cA)]
          exact ⟨0, 0, 0, 0, 0, [], _, by simp, rfl, rfl⟩
      obtain ⟨q0, q1, q2, q3, q4, qz, k, hq, k1, k2⟩ := key
      rw [k1, k2]
      simp only [Option.bind_some]
      rw [if_pos (by simp), same_self _ _ _ _ _ _ hq]
      rfl
    · rw [decide_eq_false (by omega : ¬ (y.length : Int) ≤ 150)]; rfl
  · rw [decide_eq_false (by omega : ¬ (z.length : Int) ≤ 150)]; rfl
end Go.Proofs.Ytcaeieofjchpjaa
