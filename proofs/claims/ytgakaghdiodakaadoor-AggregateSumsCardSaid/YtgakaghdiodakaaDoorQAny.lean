/-
  PLAIN: slices.ContainsFunc over numbers.
-/
import Derived.Test.YtgakaghdiodakaaDoorP1
import Derived.Test.YtgakaghdiodakaaDoorM
set_option linter.unusedSimpArgs false
namespace Go.Proofs.YtgakaghdiodakaaDoor
open Go.E

theorem any_int {xs : List Int} {f : Int → Option Bool} {g : Int → Bool} (hf : ∀ z, f z = some (g z)) (hn : xs.length ≤ 1000000) : slices_ContainsFunc_sint xs f = some (xs.any g) := by
  have key : ∃ x, loopM FUEL (fun s => slices_IndexFunc_sint_s1 xs f s) 0 = some x ∧ ((∃ z, x = .inl z ∧ 0 ≤ z ∧ xs.any g = true) ∨ (x = .inr () ∧ xs.any g = false)) := by
    refine loop_inv (fun i s => s = (i : Int) ∧ i ≤ xs.length ∧ ∀ j y, j < i → xs[j]? = some y → g y = false) _ xs.length (by unfold FUEL; omega) 0 ⟨rfl, by omega, fun j y hj => by omega⟩ ?_
    rintro i s ⟨rfl, hi, hall⟩
    unfold slices_IndexFunc_sint_s1
    by_cases hlt : i < xs.length
    · rw [if_pos (by simpa using hlt), ix_lt xs i hlt]
      simp only [Option.bind_some, hf]
      cases hg : g xs[i] with
      | true => exact .inr ⟨_, rfl, .inl ⟨_, rfl, by omega, List.any_eq_true.2 ⟨xs[i], List.getElem_mem hlt, hg⟩⟩⟩
      | false =>
        refine .inl ⟨_, rfl, ⟨by rw [w64_id] <;> omega, hlt, ?_⟩, hlt⟩
        intro j y hj hy
        rcases Nat.lt_succ_iff_lt_or_eq.1 hj with h | rfl
        · exact hall j y h hy
        · rw [List.getElem?_eq_getElem hlt] at hy; cases hy; exact hg
    · refine .inr ?_
      rw [if_neg (by simpa using hlt)]
      refine ⟨_, rfl, .inr ⟨rfl, ?_⟩⟩
      rw [List.any_eq_false]
      intro y hy
      obtain ⟨j, hj⟩ := List.getElem?_of_mem hy
      have := (List.getElem?_eq_some_iff.1 hj).1
      rw [hall j y (by omega) hj]; simp
  obtain ⟨x, hx, hq⟩ := key
  unfold slices_ContainsFunc_sint slices_IndexFunc_sint
  rw [hx]
  rcases hq with ⟨z, rfl, hz, hany⟩ | ⟨rfl, hany⟩
  · simp [hany, hz]
  · simp [hany]

end Go.Proofs.YtgakaghdiodakaaDoor
