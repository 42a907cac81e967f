/-
  THE ROW: AggregateGrids: for every input the law returns true.
-/
import Derived.Test.YtgakaghdiodakaaR45
import Derived.Test.YtgakaghdiodakaaW1
import Derived.Test.YtgakaghdiodakaaW2
import Derived.Test.YtgakaghdiodakaaW3
import Derived.Test.YtgakaghdiodakaaW4
import Derived.Test.YtgakaghdiodakaaW5
import Derived.Test.YtgakaghdiodakaaP45e
namespace Go.Proofs.Ytgakaghdiodakaa
open Go.ChangeShapes Go.WideShapes Go.ChangeAt Go.RowKit Go.E

set_option maxRecDepth 100000 in
theorem lifted (os : Os) (started : os.Started) (H : Type) (enc : TypeId × Value → H) :
    ReturnsInHanded {} Try.checked os 7 .any (Rows.aggregateGridsSpec.pre6 enc Try.prog Try.f7 Rows.aggregateGridsRow.domain false) (Rows.aggregateGridsSpec.post enc Try.prog Try.f7 false true false false) := by
  refine returnsInHanded_of_change (C := Try.checked) Try.own started (by kernel_rfl) Try.func7
    (ChangeSpec.witness6 (enc := enc) (C := Try.checked) false ⟨#[], #[.agg #[.int .i64 0, .int .i64 0, .int .i64 0, .slice none 0 0], .agg #[.int .i64 0, .int .i64 0], .slice none 0 0], []⟩ 8 (by kernel_rfl) (by kernel_rfl) (by kernel_rfl) (by kernel_rfl)) ?_
  intro W base args ds gs before hval0 hW hcnd _
  have hval : ∀ (j : Nat) t v, Try.f7.params[j]? = some t → args[j]? = some v → Value.okWide Try.prog W .any base t v := hval0
  have hW' := hW
  obtain ⟨p, q, hA0, hV, rfl, hfz, hnd⟩ := hW
  have hA : DataW.TrodAll enc Try.prog W 0 (fun _ => true) true Try.f7.params.toList args.toList ds p := hA0
  rw [Try.params7] at hA hval
  obtain ⟨v0, v1, v2, d0, d1, d2, p0, p1, p2, rfl, rfl, rfl, h0, h1, h2⟩ := trodAll_three hA
  obtain ⟨rfl, rfl⟩ := trodVars_none hV
  obtain ⟨n0_0, n0_1, n0_2, a0_3, q0_3, c0_3, xs0_3, e0, w0_0, w0_1, w0_2, hs0_3, px0_3⟩ := op50 (Se.of_trod h0)
  obtain rfl := agg_to e0 (by simp)
  obtain ⟨n1_0, n1_1, e1, w1_0, w1_1⟩ := op23 (Se.of_trod h1)
  obtain rfl := agg_to e1 (by simp)
  obtain ⟨a2_0, q2_0, c2_0, xs2_0, e2, hs2_0, px2_0⟩ := op24 (Se.of_trod h2)
  obtain ⟨za2, zq2, zc2, rfl⟩ := okWide_slice Try.underlying24 (hval 2 24 v2 rfl rfl)
  cases e2
  refine ((fiduciallaw45_AggregateGrids_walk (m := mW W) hs0_3 hs2_0 (grids_true ..)) W (sat_mW W)).mono ?_
  rintro e W' ⟨v, m', L, rfl, hext, _, _, _, _, rfl⟩
  exact ⟨_, rfl, post_true Try.laidOut hW' rfl Try.underlying4 (readable_of (by kernel_rfl)) rfl rfl rfl rfl hext⟩

theorem holds : Rows.AggregateGridsSaid :=
  OpenClaim.holds_of_wide 7 Try.f7 rfl rfl rfl rfl rfl rfl rfl ⟨rfl, rfl, rfl, rfl, rfl⟩ rfl rfl rfl rfl rfl (by kernel_rfl) Try.func7 (by kernel_rfl)
    (of_decide_eq_true (by kernel_rfl)) (by unfold Func.isWrapper; first | (rw [if_pos (by decide +kernel)]; kernel_rfl) | (rw [if_neg (by decide +kernel)]; exact ⟨rfl, rfl⟩))
    (fun os started H enc _ => lifted os started H enc)

end Go.Proofs.Ytgakaghdiodakaa
