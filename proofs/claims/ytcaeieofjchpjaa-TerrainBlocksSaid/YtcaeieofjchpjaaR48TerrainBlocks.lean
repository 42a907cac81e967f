/-
  THE ROW: TerrainBlocks: for every input the law returns true.
-/
import Derived.Test.YtcaeieofjchpjaaR48
import Derived.Test.YtcaeieofjchpjaaW1
import Derived.Test.YtcaeieofjchpjaaW2
import Derived.Test.YtcaeieofjchpjaaW3
import Derived.Test.YtcaeieofjchpjaaW4
import Derived.Test.YtcaeieofjchpjaaW5
import Derived.Test.YtcaeieofjchpjaaP48h
namespace Go.Proofs.Ytcaeieofjchpjaa
open Go.ChangeShapes Go.WideShapes Go.ChangeAt Go.RowKit Go.E

set_option maxRecDepth 100000 in
theorem lifted (os : Os) (started : os.Started) (H : Type) (enc : TypeId × Value → H) :
    ReturnsInHanded {} Try.checked os 5 .any (Rows.terrainBlocksSpec.pre6 enc Try.prog Try.f5 Rows.terrainBlocksRow.domain false) (Rows.terrainBlocksSpec.post enc Try.prog Try.f5 false true false false) := by
  refine returnsInHanded_of_change (C := Try.checked) Try.own started (by kernel_rfl) Try.func5
    (ChangeSpec.witness6 (enc := enc) (C := Try.checked) false ⟨#[], #[.agg #[.int .u8 0, .int .u8 0, .int .u8 0, .int .u8 0, .int .u8 0, .int .u8 0], .int .i16 0, .int .u8 0], []⟩ 8 (by kernel_rfl) (by kernel_rfl) (by kernel_rfl) (by kernel_rfl)) ?_
  intro W base args ds gs before hval0 hW hcnd _
  have hval : ∀ (j : Nat) t v, Try.f5.params[j]? = some t → args[j]? = some v → Value.okWide Try.prog W .any base t v := hval0
  have hW' := hW
  obtain ⟨p, q, hA0, hV, rfl, hfz, hnd⟩ := hW
  have hA : DataW.TrodAll enc Try.prog W 0 (fun _ => true) true Try.f5.params.toList args.toList ds p := hA0
  rw [Try.params5] at hA hval
  obtain ⟨v0, v1, v2, d0, d1, d2, p0, p1, p2, rfl, rfl, rfl, h0, h1, h2⟩ := trodAll_three hA
  obtain ⟨rfl, rfl⟩ := trodVars_none hV
  obtain ⟨n0_0, n0_1, n0_2, n0_3, n0_4, n0_5, e0, w0_0, w0_1, w0_2, w0_3, w0_4, w0_5⟩ := op40 (Se.of_trod h0)
  obtain rfl := agg_to e0 (by simp)
  obtain ⟨n1_0, e1, w1_0⟩ := op41 (Se.of_trod h1)
  obtain ⟨z1, rfl⟩ := okWide_int Try.underlying41 (hval 1 41 v1 rfl rfl)
  cases e1
  obtain ⟨n2_0, e2, w2_0⟩ := op5 (Se.of_trod h2)
  obtain ⟨z2, rfl⟩ := okWide_int Try.underlying5 (hval 2 5 v2 rfl rfl)
  cases e2
  refine ((fiduciallaw48_TerrainBlocks_walk (m := mW W)  (blocks_true _ _ _ _ _ _ _ _ (wf_u8 w0_0) (wf_u8 w0_1) (wf_u8 w0_2) (wf_u8 w0_3) (wf_u8 w0_4) (wf_u8 w0_5) (wf_i16 w1_0) (wf_u8 w2_0))) W (sat_mW W)).mono ?_
  rintro e W' ⟨v, m', L, rfl, hext, _, _, _, _, rfl⟩
  exact ⟨_, rfl, post_true Try.laidOut hW' rfl Try.underlying4 (readable_of (by kernel_rfl)) rfl rfl rfl rfl hext⟩

theorem holds : Rows.TerrainBlocksSaid :=
  OpenClaim.holds_of_wide 5 Try.f5 rfl rfl rfl rfl rfl rfl rfl ⟨rfl, rfl, rfl, rfl, rfl⟩ rfl rfl rfl rfl rfl (by kernel_rfl) Try.func5 (by kernel_rfl)
    (of_decide_eq_true (by kernel_rfl)) (by unfold Func.isWrapper; first | (rw [if_pos (by decide +kernel)]; kernel_rfl) | (rw [if_neg (by decide +kernel)]; exact ⟨rfl, rfl⟩))
    (fun os started H enc _ => lifted os started H enc)

end Go.Proofs.Ytcaeieofjchpjaa
