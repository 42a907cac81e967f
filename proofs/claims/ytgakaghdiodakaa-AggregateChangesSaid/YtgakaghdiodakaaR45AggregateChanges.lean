/-
  THE ROW: AggregateChanges: for every input the law returns true.
-/
import Derived.Test.YtgakaghdiodakaaR45
import Derived.Test.YtgakaghdiodakaaW1
import Derived.Test.YtgakaghdiodakaaW2
import Derived.Test.YtgakaghdiodakaaW3
import Derived.Test.YtgakaghdiodakaaW4
import Derived.Test.YtgakaghdiodakaaW5
import Derived.Test.YtgakaghdiodakaaP45f
namespace Go.Proofs.Ytgakaghdiodakaa
open Go.ChangeShapes Go.WideShapes Go.ChangeAt Go.RowKit Go.E

set_option maxRecDepth 100000 in
theorem lifted (os : Os) (started : os.Started) (H : Type) (enc : TypeId × Value → H) :
    ReturnsInHanded {} Try.checked os 5 .any (Rows.aggregateChangesSpec.pre6 enc Try.prog Try.f5 Rows.aggregateChangesRow.domain false) (Rows.aggregateChangesSpec.post enc Try.prog Try.f5 false true false false) := by
  refine returnsInHanded_of_change (C := Try.checked) Try.own started (by kernel_rfl) Try.func5
    (ChangeSpec.witness6 (enc := enc) (C := Try.checked) false ⟨#[], #[.slice none 0 0, .agg #[.int .i64 0, .int .i64 0, .int .i64 0, .int .i64 0], .agg #[.int .u8 0, .int .u8 0]], []⟩ 8 (by kernel_rfl) (by kernel_rfl) (by kernel_rfl) (by kernel_rfl)) ?_
  intro W base args ds gs before hval0 hW hcnd _
  have hval : ∀ (j : Nat) t v, Try.f5.params[j]? = some t → args[j]? = some v → Value.okWide Try.prog W .any base t v := hval0
  have hW' := hW
  obtain ⟨p, q, hA0, hV, rfl, hfz, hnd⟩ := hW
  have hA : DataW.TrodAll enc Try.prog W 0 (fun _ => true) true Try.f5.params.toList args.toList ds p := hA0
  rw [Try.params5] at hA hval
  obtain ⟨v0, v1, v2, d0, d1, d2, p0, p1, p2, rfl, rfl, rfl, h0, h1, h2⟩ := trodAll_three hA
  obtain ⟨rfl, rfl⟩ := trodVars_none hV
  obtain ⟨a0_0, q0_0, c0_0, xs0_0, e0, hs0_0, px0_0⟩ := op22 (Se.of_trod h0)
  obtain ⟨za0, zq0, zc0, rfl⟩ := okWide_slice Try.underlying22 (hval 0 22 v0 rfl rfl)
  cases e0
  obtain ⟨n1_0, n1_1, n1_2, n1_3, e1, w1_0, w1_1, w1_2, w1_3⟩ := op41 (Se.of_trod h1)
  obtain rfl := agg_to e1 (by simp)
  obtain ⟨n2_0, n2_1, e2, w2_0, w2_1⟩ := op42 (Se.of_trod h2)
  obtain rfl := agg_to e2 (by simp)
  refine ((fiduciallaw45_AggregateChanges_walk (m := mW W) hs0_0 (changes_true _ _ _ _ _ _ _ (wf_u8 w2_0) (wf_u8 w2_1))) W (sat_mW W)).mono ?_
  rintro e W' ⟨v, m', L, rfl, hext, _, _, _, _, rfl⟩
  exact ⟨_, rfl, post_true Try.laidOut hW' rfl Try.underlying4 (readable_of (by kernel_rfl)) rfl rfl rfl rfl hext⟩

theorem holds : Rows.AggregateChangesSaid :=
  OpenClaim.holds_of_wide 5 Try.f5 rfl rfl rfl rfl rfl rfl rfl ⟨rfl, rfl, rfl, rfl, rfl⟩ rfl rfl rfl rfl rfl (by kernel_rfl) Try.func5 (by kernel_rfl)
    (of_decide_eq_true (by kernel_rfl)) (by unfold Func.isWrapper; first | (rw [if_pos (by decide +kernel)]; kernel_rfl) | (rw [if_neg (by decide +kernel)]; exact ⟨rfl, rfl⟩))
    (fun os started H enc _ => lifted os started H enc)

end Go.Proofs.Ytgakaghdiodakaa
