/-
  PLAIN: raster.Check.
-/
import Derived.Test.YtbolefkhmfbnlaaQGrid
import Derived.Test.YtbolefkhmfbnlaaM
import Derived.KernelRfl
set_option linter.unusedSimpArgs false
namespace Go.Proofs.Ytbolefkhmfbnlaa
open Go.E

theorem any_int {xs : List Int} {f : Int → Option Bool} {g : Int → Bool} (hf : ∀ z, f z = some (g z)) (hn : xs.length ≤ 1000000) : slices_ContainsFunc_sint xs f = some (xs.any g) := by
  have key : ∃ x, loopM FUEL (fun s => slices_IndexFunc_sint_s1 xs f s) 0 = some x ∧ ((∃ z, x = .inl z ∧ 0 ≤ z ∧ xs.any g = true) ∨ (x = .inr () ∧ xs.any g = false)) := by
    refine loop_inv (fun i s => s = (i : Int) ∧ i ≤ xs.length ∧ ∀ j y, j < i → xs[j]? = some y → g y = false) _ xs.length (by unfold FUEL; omega) 0 ⟨rfl, by omega, fun j y hj => by omega⟩ ?_
    rintro i s ⟨rfl, hi, hall⟩
    unfold slices_IndexFunc_sint_s1
    by_cases hlt : i < xs.length
    · rw [if_pos (by simpa using hlt), ix_lt xs i hlt]
      simp only [Option.bind_some, hf]
      cases hg : g xs[i] with
      | true => exact .inr ⟨_, rfl, .inl ⟨_, rfl, by omega, List.any_eq_true.2 ⟨xs[i], List.getElem_mem hlt, hg⟩⟩⟩
      | false =>
        refine .inl ⟨_, rfl, ⟨by rw [w64_id] <;> omega, hlt, ?_⟩, hlt⟩
        intro j y hj hy
        rcases Nat.lt_succ_iff_lt_or_eq.1 hj with h | rfl
        · exact hall j y h hy
        · rw [List.getElem?_eq_getElem hlt] at hy; cases hy; exact hg
    · refine .inr ?_
      rw [if_neg (by simpa using hlt)]
      refine ⟨_, rfl, .inr ⟨rfl, ?_⟩⟩
      rw [List.any_eq_false]
      intro y hy
      obtain ⟨j, hj⟩ := List.getElem?_of_mem hy
      have := (List.getElem?_eq_some_iff.1 hj).1
      rw [hall j y (by omega) hj]; simp
  obtain ⟨x, hx, hq⟩ := key
  unfold slices_ContainsFunc_sint slices_IndexFunc_sint
  rw [hx]
  rcases hq with ⟨z, rfl, hz, hany⟩ | ⟨rfl, hany⟩
  · simp [hany, hz]
  · simp [hany]

theorem check_good {w h m : Int} {px : List Int} (hg : Good w h m px) : raster_Check w h m px = some 0 := by
  obtain ⟨h1, h2, h3, h4, h5, h6, h7, h8⟩ := hg
  have hm := mul_le64 (by omega : 0 ≤ w) h2 (by omega : 0 ≤ h) h4
  unfold raster_Check
  rw [any_int (g := fun z => decide (z < 0) || decide (m < z)) (fun z => by unfold raster_Check_c1; by_cases hz : z < 0 <;> simp [hz]) (by omega)]
  have e1 : ¬ (if m < (if h < w then h else w) then m else (if h < w then h else w)) < 1 := by split <;> split <;> omega
  have e2 : ¬ 64 < (if w < h then h else w) := by split <;> omega
  have e3 : ¬ (65535 < m) := by omega
  have e4 : w64 (w * h) = w * h := w64_id (by omega) (by omega)
  have e5 : px.any (fun z => decide (z < 0) || decide (m < z)) = false := by
    rw [List.any_eq_false]
    intro v hv
    have := h8 v hv
    simp; omega
  simp [e1, e2, e3, e4, e5, h7]

theorem check_bad {w h m : Int} {px : List Int} (hg : ¬ Good w h m px) : raster_Check w h m px = some 1 := by
  unfold raster_Check
  by_cases c1 : (if m < (if h < w then h else w) then m else (if h < w then h else w)) < 1
  · simp [c1]
  by_cases c2 : 64 < (if w < h then h else w)
  · simp [c1, c2]
  by_cases c3 : 65535 < m
  · simp [c1, c2, c3]
  have b : 1 ≤ w ∧ w ≤ 64 ∧ 1 ≤ h ∧ h ≤ 64 ∧ 1 ≤ m ∧ m ≤ 65535 := by
    split at c1 <;> split at c1 <;> split at c2 <;> omega
  obtain ⟨h1, h2, h3, h4, h5, h6⟩ := b
  have hm := mul_le64 (by omega : 0 ≤ w) h2 (by omega : 0 ≤ h) h4
  have e4 : w64 (w * h) = w * h := w64_id (by omega) (by omega)
  by_cases c4 : (px.length : Int) = w * h
  · rw [any_int (g := fun z => decide (z < 0) || decide (m < z)) (fun z => by unfold raster_Check_c1; by_cases hz : z < 0 <;> simp [hz]) (by omega)]
    have e5 : px.any (fun z => decide (z < 0) || decide (m < z)) = true := by
      by_cases h9 : px.any (fun z => decide (z < 0) || decide (m < z)) = true
      · exact h9
      · exfalso
        apply hg
        refine ⟨h1, h2, h3, h4, h5, h6, c4, fun v hv => ?_⟩
        rw [Bool.not_eq_true] at h9
        have := List.any_eq_false.1 h9 v hv
        simp at this
        omega
    simp [c1, c2, c3, e4, c4, e5]
  · simp [c1, c2, c3, e4, c4]

end Go.Proofs.Ytbolefkhmfbnlaa
