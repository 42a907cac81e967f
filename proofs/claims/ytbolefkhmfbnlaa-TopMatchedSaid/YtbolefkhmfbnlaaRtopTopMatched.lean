/-
  THE ROW: TopMatched: for every input the law returns true.
-/
import Derived.Test.YtbolefkhmfbnlaaRtop
import Derived.Test.YtbolefkhmfbnlaaW1
import Derived.Test.YtbolefkhmfbnlaaW2
import Derived.Test.YtbolefkhmfbnlaaW3
import Derived.Test.YtbolefkhmfbnlaaW4
import Derived.Test.YtbolefkhmfbnlaaW5
import Derived.Test.YtbolefkhmfbnlaaPMatched
namespace Go.Proofs.Ytbolefkhmfbnlaa
open Go.ChangeShapes Go.WideShapes Go.ChangeAt Go.RowKit Go.E

set_option maxRecDepth 100000 in
theorem lifted (os : Os) (started : os.Started) (H : Type) (enc : TypeId × Value → H) :
    ReturnsInHanded {} Try.checked os 5 .any (Rows.topMatchedSpec.pre6 enc Try.prog Try.f5 Rows.topMatchedRow.domain false) (Rows.topMatchedSpec.post enc Try.prog Try.f5 false true false false) := by
  refine returnsInHanded_of_change (C := Try.checked) Try.own started (by kernel_rfl) Try.func5
    (ChangeSpec.witness6 (enc := enc) (C := Try.checked) false ⟨#[], #[.agg #[.int .i64 0, .int .i64 0, .int .i64 0, .slice none 0 0], .slice none 0 0], []⟩ 8 (by kernel_rfl) (by kernel_rfl) (by kernel_rfl) (by kernel_rfl)) ?_
  intro W base args ds gs before hval0 hW hcnd _
  have hval : ∀ (j : Nat) t v, Try.f5.params[j]? = some t → args[j]? = some v → Value.okWide Try.prog W .any base t v := hval0
  have hW' := hW
  obtain ⟨p, q, hA0, hV, rfl, hfz, hnd⟩ := hW
  have hA : DataW.TrodAll enc Try.prog W 0 (fun _ => true) true Try.f5.params.toList args.toList ds p := hA0
  rw [Try.params5] at hA hval
  obtain ⟨v0, v1, d0, d1, p0, p1, rfl, rfl, rfl, h0, h1⟩ := trodAll_two hA
  obtain ⟨rfl, rfl⟩ := trodVars_none hV
  obtain ⟨n0_0, n0_1, n0_2, a0_3, q0_3, c0_3, xs0_3, e0, w0_0, w0_1, w0_2, hs0_3, px0_3⟩ := op24 (Se.of_trod h0)
  obtain rfl := agg_to e0 (by simp)
  obtain ⟨a1_0, q1_0, c1_0, xs1_0, e1, hs1_0, px1_0⟩ := op52 (Se.of_trod h1)
  obtain ⟨za1, zq1, zc1, rfl⟩ := okWide_slice Try.underlying52 (hval 1 52 v1 rfl rfl)
  cases e1
  refine ((fiducialtop_TopMatched_walk (m := mW W) hs0_3 hs1_0 (matched_true ..)) W (sat_mW W)).mono ?_
  rintro e W' ⟨v, m', L, rfl, hext, _, _, _, _, rfl⟩
  exact ⟨_, rfl, post_true Try.laidOut hW' rfl Try.underlying4 (readable_of (by kernel_rfl)) rfl rfl rfl rfl hext⟩

theorem holds : Rows.TopMatchedSaid :=
  OpenClaim.holds_of_wide 5 Try.f5 rfl rfl rfl rfl rfl rfl rfl ⟨rfl, rfl, rfl, rfl, rfl⟩ rfl rfl rfl rfl rfl (by kernel_rfl) Try.func5 (by kernel_rfl)
    (of_decide_eq_true (by kernel_rfl)) (by unfold Func.isWrapper; first | (rw [if_pos (by decide +kernel)]; kernel_rfl) | (rw [if_neg (by decide +kernel)]; exact ⟨rfl, rfl⟩))
    (fun os started H enc _ => lifted os started H enc)

end Go.Proofs.Ytbolefkhmfbnlaa
