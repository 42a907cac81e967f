/-
  PLAIN: slices.Min.
-/
import Derived.Test.YtgakaghdiodakaaDoorP1
import Derived.Test.YtgakaghdiodakaaDoorM
set_option linter.unusedSimpArgs false
namespace Go.Proofs.YtgakaghdiodakaaDoor
open Go.E

def fMin (xs : List Int) (x : Int) : Int := xs.foldl (fun a v => if v < a then v else a) x

theorem fMin_mem : ∀ (xs : List Int) (x : Int), fMin xs x = x ∨ fMin xs x ∈ xs
  | [], x => .inl rfl
  | y :: xs, x => by
    rcases fMin_mem xs ((fun a v => if v < a then v else a) x y) with h | h
    · have e : fMin (y :: xs) x = ((fun a v => if v < a then v else a) x y) := h
      rw [e]
      dsimp only
      split
      · exact .inr (by simp)
      · exact .inl rfl
    · exact .inr (List.mem_cons_of_mem _ h)
theorem fMin_le : ∀ (xs : List Int) (x v : Int), v = x ∨ v ∈ xs → fMin xs x ≤ v
  | [], x, v, h => by
    rcases h with rfl | h
    · exact Int.le_refl _
    · cases h
  | y :: xs, x, v, h => by
    have e : fMin (y :: xs) x = fMin xs ((fun a v => if v < a then v else a) x y) := rfl
    rw [e]
    rcases h with rfl | h
    · refine Int.le_trans (fMin_le xs _ _ (.inl rfl)) ?_
      dsimp only
      split <;> omega
    · rcases List.mem_cons.1 h with rfl | h
      · refine Int.le_trans (fMin_le xs _ _ (.inl rfl)) ?_
        dsimp only
        split <;> omega
      · exact fMin_le xs _ v (.inr h)

theorem min_eq (x : Int) (xs : List Int) (hn : xs.length ≤ 1000000) : slices_Min_sint (x :: xs) = some (fMin xs x) := by
  unfold slices_Min_sint
  rw [if_neg (by simp; omega), ix_get (z := 0) (i := 0) rfl rfl, Option.bind_some]
  have : loopM FUEL (fun s : Int × Int => slices_Min_sint_s1 (x :: xs) s.1 s.2) (x, 1) = some (fMin xs x) := by
    refine loop_go (fun i => (fMin (xs.take i) x, ((i + 1 : Nat) : Int))) xs.length (by unfold FUEL; omega) rfl (fun i hi => ?_) ?_
    · show slices_Min_sint_s1 (x :: xs) _ ((i + 1 : Nat) : Int) = _
      unfold slices_Min_sint_s1
      rw [if_pos (by simp; omega), ix_get (i := i + 1) rfl (y := xs[i]) (by simp [hi]), Option.bind_some, w64_id (by omega) (by omega)]
      have e : fMin (xs.take (i + 1)) x = (fun a v => if v < a then v else a) (fMin (xs.take i) x) xs[i] := by
        unfold fMin
        rw [take_succ hi, List.foldl_append]
        rfl
      show some (Step.next (_, _)) = some (Step.next (fMin (xs.take (i + 1)) x, _))
      rw [e]
      congr 3
    · show slices_Min_sint_s1 (x :: xs) _ ((xs.length + 1 : Nat) : Int) = _
      unfold slices_Min_sint_s1
      rw [if_neg (by simp), List.take_length]
  rw [this]
  rfl

/-- The minimum: it is there, and none is beyond it. -/
theorem min_spec {xs : List Int} (h0 : xs ≠ []) (hn : xs.length ≤ 1000000) : ∃ M, slices_Min_sint xs = some M ∧ M ∈ xs ∧ ∀ v ∈ xs, M ≤ v := by
  match xs, h0 with
  | x :: xs, _ =>
    refine ⟨fMin xs x, min_eq x xs (by simp at hn; omega), ?_, fun v hv => fMin_le xs x v (by simpa using hv)⟩
    rcases fMin_mem xs x with h | h
    · rw [h]; simp
    · exact List.mem_cons_of_mem _ h

end Go.Proofs.YtgakaghdiodakaaDoor
