/-
  PLAIN: the document Check.
-/
import Derived.Test.YtbolefkhmfbnlaaQGrid
import Derived.Test.YtbolefkhmfbnlaaM
import Derived.KernelRfl
set_option linter.unusedSimpArgs false
namespace Go.Proofs.Ytbolefkhmfbnlaa
open Go.E

theorem refcheck_good {w h m : Int} {px : List Int} (hg : Good w h m px) : fiducialref13_Check w h m px = some 0 := by
  obtain ⟨h1, h2, h3, h4, h5, h6, h7, h8⟩ := hg
  have hm := mul_le64 (by omega : 0 ≤ w) h2 (by omega : 0 ≤ h) h4
  have e4 : w64 (w * h) = w * h := w64_id (by omega) (by omega)
  have key : ∃ x, loopM FUEL (fun s => fiducialref13_Check_s1 m px s) 0 = some x ∧ x = .inr () := by
    refine loop_inv (fun i s => s = (i : Int) ∧ i ≤ px.length) _ px.length (by unfold FUEL; omega) 0 ⟨rfl, by omega⟩ ?_
    rintro i s ⟨rfl, hi⟩
    unfold fiducialref13_Check_s1
    by_cases hlt : i < px.length
    · refine .inl ⟨((i + 1 : Nat) : Int), ?_, ⟨rfl, hlt⟩, hlt⟩
      rw [if_pos (by simpa using hlt), ix_lt px i hlt]
      have := h8 px[i] (List.getElem_mem hlt)
      have q1 : ¬ px[i] < 0 := by omega
      have q2 : ¬ m < px[i] := by omega
      simp only [Option.bind_some, q1, q2, decide_false, Bool.false_eq_true, if_false]
      rw [w64_id (by omega) (by omega)]; simp
    · exact .inr ⟨_, by rw [if_neg (by simpa using hlt)], rfl⟩
  obtain ⟨x, hx, rfl⟩ := key
  unfold fiducialref13_Check
  have a1 : ¬ w < 1 := by omega
  have a2 : ¬ 64 < w := by omega
  have a3 : ¬ h < 1 := by omega
  have a4 : ¬ 64 < h := by omega
  have a5 : ¬ m < 1 := by omega
  have a6 : ¬ 65535 < m := by omega
  simp [a1, a2, a3, a4, a5, a6, e4, h7, hx]

theorem refcheck_bad {w h m : Int} {px : List Int} (hg : ¬ Good w h m px) : fiducialref13_Check w h m px = some 1 := by
  unfold fiducialref13_Check
  by_cases a1 : w < 1
  · simp [a1]
  by_cases a2 : 64 < w
  · simp [a1, a2]
  by_cases a3 : h < 1
  · simp [a1, a2, a3]
  by_cases a4 : 64 < h
  · simp [a1, a2, a3, a4]
  by_cases a5 : m < 1
  · simp [a1, a2, a3, a4, a5]
  by_cases a6 : 65535 < m
  · simp [a1, a2, a3, a4, a5, a6]
  have hm := mul_le64 (by omega : 0 ≤ w) (by omega) (by omega : 0 ≤ h) (by omega)
  have e4 : w64 (w * h) = w * h := w64_id (by omega) (by omega)
  by_cases c4 : (px.length : Int) = w * h
  · have key : ∃ x, loopM FUEL (fun s => fiducialref13_Check_s1 m px s) 0 = some x ∧ x = .inl 1 := by
      refine loop_inv (fun i s => s = (i : Int) ∧ i ≤ px.length ∧ ∀ j v, j < i → px[j]? = some v → 0 ≤ v ∧ v ≤ m) _ px.length (by unfold FUEL; omega) 0 ⟨rfl, by omega, fun j v hj => by omega⟩ ?_
      rintro i s ⟨rfl, hi, hall⟩
      unfold fiducialref13_Check_s1
      by_cases hlt : i < px.length
      · rw [if_pos (by simpa using hlt), ix_lt px i hlt]
        by_cases q1 : px[i] < 0
        · exact .inr ⟨_, by simp [q1], rfl⟩
        by_cases q2 : m < px[i]
        · exact .inr ⟨_, by simp [q2], rfl⟩
        refine .inl ⟨((i + 1 : Nat) : Int), ?_, ⟨rfl, hlt, ?_⟩, hlt⟩
        · simp only [Option.bind_some, q1, q2, decide_false, Bool.false_eq_true, if_false]
          rw [w64_id (by omega) (by omega)]; simp
        · intro j v hj hv
          rcases Nat.lt_succ_iff_lt_or_eq.1 hj with h | rfl
          · exact hall j v h hv
          · rw [List.getElem?_eq_getElem hlt] at hv; cases hv; omega
      · exfalso
        apply hg
        refine ⟨by omega, by omega, by omega, by omega, by omega, by omega, c4, fun v hv => ?_⟩
        obtain ⟨j, hj⟩ := List.getElem?_of_mem hv
        have := (List.getElem?_eq_some_iff.1 hj).1
        exact hall j v (by omega) hj
    obtain ⟨x, hx, rfl⟩ := key
    simp [a1, a2, a3, a4, a5, a6, e4, c4, hx]
  · simp [a1, a2, a3, a4, a5, a6, e4, c4]

end Go.Proofs.Ytbolefkhmfbnlaa
