/-
  PLAIN: the first place of a number in a list.
-/
import Derived.Test.YtgakaghdiodakaaP1
import Derived.Test.YtgakaghdiodakaaM
set_option linter.unusedSimpArgs false
namespace Go.Proofs.Ytgakaghdiodakaa
open Go.E

theorem index_spec (xs : List Int) (v : Int) (hn : xs.length ≤ 1000000) :
    (∃ i : Nat, i < xs.length ∧ xs[i]? = some v ∧ (∀ j : Nat, j < i → xs[j]? ≠ some v) ∧ slices_Index_sint xs v = some (i : Int)) ∨ (v ∉ xs ∧ slices_Index_sint xs v = some (-1)) := by
  unfold slices_Index_sint
  rcases loop_first (step := fun s => slices_Index_sint_s1 xs v s) (fun i => (i : Int)) (fun i => xs[i]? = some v) (fun i => .inl (i : Int)) (.inr ()) xs.length (s0 := 0) (by unfold FUEL; omega) rfl
    (fun i hi hp => by
      have hne : ¬ v = xs[i] := fun h => hp (by rw [List.getElem?_eq_getElem hi, h])
      unfold slices_Index_sint_s1
      rw [if_pos (by simpa using hi), ix_lt xs i hi, Option.bind_some, if_neg (by simpa using hne), w64_id (by omega) (by omega)]
      simp)
    (fun i hi hp _ => by
      rw [List.getElem?_eq_getElem hi] at hp
      unfold slices_Index_sint_s1
      rw [if_pos (by simpa using hi), ix_lt xs i hi, Option.bind_some, Option.some.inj hp, if_pos (by simp)])
    (by unfold slices_Index_sint_s1; rw [if_neg (by simp)]) with ⟨ha, hl⟩ | ⟨i, h1, h2, h3, hl⟩
  · refine .inr ⟨fun hm => ?_, by rw [hl]; rfl⟩
    obtain ⟨j, hj⟩ := List.getElem?_of_mem hm
    exact ha j (List.getElem?_eq_some_iff.1 hj).1 hj
  · exact .inl ⟨i, h1, h2, h3, by rw [hl]; rfl⟩

end Go.Proofs.Ytgakaghdiodakaa
