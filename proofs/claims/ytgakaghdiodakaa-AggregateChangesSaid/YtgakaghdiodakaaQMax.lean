/-
  PLAIN: slices.Max.
-/
import Derived.Test.YtgakaghdiodakaaP1
import Derived.Test.YtgakaghdiodakaaM
set_option linter.unusedSimpArgs false
namespace Go.Proofs.Ytgakaghdiodakaa
open Go.E

def fMax (xs : List Int) (x : Int) : Int := xs.foldl (fun a v => if a < v then v else a) x

theorem fMax_mem : ∀ (xs : List Int) (x : Int), fMax xs x = x ∨ fMax xs x ∈ xs
  | [], x => .inl rfl
  | y :: xs, x => by
    rcases fMax_mem xs ((fun a v => if a < v then v else a) x y) with h | h
    · have e : fMax (y :: xs) x = ((fun a v => if a < v then v else a) x y) := h
      rw [e]
      dsimp only
      split
      · exact .inr (by simp)
      · exact .inl rfl
    · exact .inr (List.mem_cons_of_mem _ h)
theorem fMax_le : ∀ (xs : List Int) (x v : Int), v = x ∨ v ∈ xs → v ≤ fMax xs x
  | [], x, v, h => by
    rcases h with rfl | h
    · exact Int.le_refl _
    · cases h
  | y :: xs, x, v, h => by
    have e : fMax (y :: xs) x = fMax xs ((fun a v => if a < v then v else a) x y) := rfl
    rw [e]
    rcases h with rfl | h
    · refine Int.le_trans ?_ (fMax_le xs _ _ (.inl rfl))
      dsimp only
      split <;> omega
    · rcases List.mem_cons.1 h with rfl | h
      · refine Int.le_trans ?_ (fMax_le xs _ _ (.inl rfl))
        dsimp only
        split <;> omega
      · exact fMax_le xs _ v (.inr h)

theorem max_eq (x : Int) (xs : List Int) (hn : xs.length ≤ 1000000) : slices_Max_sint (x :: xs) = some (fMax xs x) := by
  unfold slices_Max_sint
  rw [if_neg (by simp; omega), ix_get (z := 0) (i := 0) rfl rfl, Option.bind_some]
  have : loopM FUEL (fun s : Int × Int => slices_Max_sint_s1 (x :: xs) s.1 s.2) (x, 1) = some (fMax xs x) := by
    refine loop_go (fun i => (fMax (xs.take i) x, ((i + 1 : Nat) : Int))) xs.length (by unfold FUEL; omega) rfl (fun i hi => ?_) ?_
    · show slices_Max_sint_s1 (x :: xs) _ ((i + 1 : Nat) : Int) = _
      unfold slices_Max_sint_s1
      rw [if_pos (by simp; omega), ix_get (i := i + 1) rfl (y := xs[i]) (by simp [hi]), Option.bind_some, w64_id (by omega) (by omega)]
      have e : fMax (xs.take (i + 1)) x = (fun a v => if a < v then v else a) (fMax (xs.take i) x) xs[i] := by
        unfold fMax
        rw [take_succ hi, List.foldl_append]
        rfl
      show some (Step.next (_, _)) = some (Step.next (fMax (xs.take (i + 1)) x, _))
      rw [e]
      congr 3
    · show slices_Max_sint_s1 (x :: xs) _ ((xs.length + 1 : Nat) : Int) = _
      unfold slices_Max_sint_s1
      rw [if_neg (by simp), List.take_length]
  rw [this]
  rfl

/-- The maximum: it is there, and none is beyond it. -/
theorem max_spec {xs : List Int} (h0 : xs ≠ []) (hn : xs.length ≤ 1000000) : ∃ M, slices_Max_sint xs = some M ∧ M ∈ xs ∧ ∀ v ∈ xs, v ≤ M := by
  match xs, h0 with
  | x :: xs, _ =>
    refine ⟨fMax xs x, max_eq x xs (by simp at hn; omega), ?_, fun v hv => fMax_le xs x v (by simpa using hv)⟩
    rcases fMax_mem xs x with h | h
    · rw [h]; simp
    · exact List.mem_cons_of_mem _ h

end Go.Proofs.Ytgakaghdiodakaa
