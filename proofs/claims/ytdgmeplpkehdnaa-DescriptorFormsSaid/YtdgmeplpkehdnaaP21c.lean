/-
  PLAIN, chapter 21: the forms of patterns.
-/
import Derived.Test.YtdgmeplpkehdnaaP21b
set_option linter.unusedSimpArgs false
namespace Go.Proofs.Ytdgmeplpkehdnaa
open Go.E

theorem standard_ok : (descriptor_Standard).bind (fun y10 => (if (((y10).length : Int) != 64) = true then some false else (loopM FUEL (fun (s : Int) => fiduciallaw21_DescriptorForms_s1 y10 s) 0).bind fun | .inl r => some r | .inr _ => (descriptor_Check y10).bind fun y28 => some (y28 == 0))) = some true := by kernel_rfl

theorem forms21_true (p : List Tst) : fiduciallaw21_DescriptorForms p = some true := by
  unfold fiduciallaw21_DescriptorForms
  rw [known21, Option.bind_some]
  by_cases hb : 70 < (p.length : Int)
  · simp only [hb, Bool.not_true, Bool.false_eq_true, if_false, decide_true, if_true]
  have hn : p.length ≤ 1000000 := by omega
  rw [check21_eq hn, pattern_eq]
  cases hp : patB p <;> simp only [hb, Bool.not_true, Bool.not_false, Bool.false_eq_true, if_false, decide_false, if_true, Option.bind_some, beq_self_eq_true, show ((1 : Int) == 0) = false from rfl, bne_self_eq_false]
  · exact standard_ok
  · exact standard_ok

end Go.Proofs.Ytdgmeplpkehdnaa
