/-
  PLAIN, chapter 21: the words.
-/
import Derived.Test.YtdgmeplpkehdnaaP21d0
set_option linter.unusedSimpArgs false
namespace Go.Proofs.Ytdgmeplpkehdnaa
open Go.E

theorem code_of {w h m : Int} {px : List Int} {p : List Tst} (hg : Good w h m px) (hp : patB p = true) : fiduciallaw21_code w h m px p = some 0 := by
  unfold fiduciallaw21_code
  rw [refcheck_good hg, pattern_eq, hp]
  rfl
theorem code_bad {w h m : Int} {px : List Int} {p : List Tst} (hb : ¬ (Good w h m px ∧ patB p = true)) : fiduciallaw21_code w h m px p = some 1 := by
  unfold fiduciallaw21_code
  by_cases hg : Good w h m px
  · have hp : patB p = false := by
      cases hq : patB p with
      | false => rfl
      | true => exact absurd ⟨hg, hq⟩ hb
    rw [refcheck_good hg, pattern_eq, hp]
    rfl
  · rw [refcheck_bad hg]
    rfl

theorem words_true (w h m : Int) (px : List Int) (p : List Tst) (x y : Int) : fiduciallaw21_DescriptorWords w h m px p x y = some true := by
  unfold fiduciallaw21_DescriptorWords
  rw [known21, Option.bind_some, few21]
  by_cases hf : px.length ≤ 600 ∧ p.length ≤ 70
  case neg =>
    rw [decide_eq_false hf]
    rfl
  rw [decide_eq_true hf]
  simp only [Bool.not_true, Bool.false_eq_true, if_false, Option.bind_some]
  by_cases hb : Good w h m px ∧ patB p = true
  · obtain ⟨hg, hp⟩ := hb
    have hc := code_of hg hp
    obtain ⟨W, H, g, rfl, rfl, rfl, bd⟩ := hg.grid
    rw [describe_good bd hp, Option.bind_some, hc]
    simp only [Option.bind_some, beq_self_eq_true, if_true]
    rw [inside_eq, Option.bind_some]
    by_cases hin : 0 ≤ x ∧ x < (W : Int) ∧ 0 ≤ y ∧ y < (H : Int)
    · rw [if_pos hin, decide_eq_true hin, lawword_eq bd hp ⟨hin.1, hin.2.1⟩ ⟨hin.2.2.1, hin.2.2.2⟩]
      cases hq : (wordR W H g p x y).2 with
      | true => simp [hq]
      | false => simp [hq]
    · rw [if_neg hin, decide_eq_false hin]
      rfl
  · rw [describe_bad (by omega) hb, code_bad hb]
    rfl

end Go.Proofs.Ytdgmeplpkehdnaa
