/-
  THE ROW: TerrainOpens: for every input the law returns true.
-/
import Derived.Test.YtcaeieofjchpjaaR48
import Derived.Test.YtcaeieofjchpjaaV1
import Derived.Test.YtcaeieofjchpjaaV2
import Derived.Test.YtcaeieofjchpjaaV3
import Derived.Test.YtcaeieofjchpjaaP48h
namespace Go.Proofs.Ytcaeieofjchpjaa
open Go.ChangeShapes Go.WideShapes Go.ChangeAt Go.RowKit Go.E

set_option maxRecDepth 100000 in
theorem lifted (os : Os) (started : os.Started) (H : Type) (enc : TypeId × Value → H) :
    ReturnsInHanded {} Try.checked os 8 .any (Rows.terrainOpensSpec.pre6 enc Try.prog Try.f8 Rows.terrainOpensRow.domain false) (Rows.terrainOpensSpec.post enc Try.prog Try.f8 false true false false) := by
  refine returnsInHanded_of_change (C := Try.checked) Try.own started (by kernel_rfl) Try.func8
    (ChangeSpec.witness6 (enc := enc) (C := Try.checked) false ⟨#[], #[.agg #[.int .i64 0, .int .i64 0, .int .i64 0, .int .i64 0, .int .i64 0, .slice none 0 0], .int .u8 0, .slice none 0 0], []⟩ 8 (by kernel_rfl) (by kernel_rfl) (by kernel_rfl) (by kernel_rfl)) ?_
  intro W base args ds gs before hval0 hW hcnd _
  have hval : ∀ (j : Nat) t v, Try.f8.params[j]? = some t → args[j]? = some v → Value.okWide Try.prog W .any base t v := hval0
  have hW' := hW
  obtain ⟨p, q, hA0, hV, rfl, hfz, hnd⟩ := hW
  have hA : DataW.TrodAll enc Try.prog W 0 (fun _ => true) true Try.f8.params.toList args.toList ds p := hA0
  rw [Try.params8] at hA hval
  obtain ⟨v0, v1, v2, d0, d1, d2, p0, p1, p2, rfl, rfl, rfl, h0, h1, h2⟩ := trodAll_three hA
  obtain ⟨rfl, rfl⟩ := trodVars_none hV
  obtain ⟨n0_0, n0_1, n0_2, n0_3, n0_4, a0_5, q0_5, c0_5, xs0_5, e0, w0_0, w0_1, w0_2, w0_3, w0_4, hs0_5, px0_5⟩ := op25 (Se.of_trod h0)
  obtain rfl := agg_to e0 (by simp)
  obtain ⟨n1_0, e1, w1_0⟩ := op5 (Se.of_trod h1)
  obtain ⟨z1, rfl⟩ := okWide_int Try.underlying5 (hval 1 5 v1 rfl rfl)
  cases e1
  obtain ⟨a2_0, q2_0, c2_0, xs2_0, e2, hs2_0, px2_0⟩ := op52 (Se.of_trod h2)
  obtain ⟨za2, zq2, zc2, rfl⟩ := okWide_slice Try.underlying52 (hval 2 52 v2 rfl rfl)
  cases e2
  refine ((fiduciallaw48_TerrainOpens_walk (m := mW W) hs0_5 hs2_0 (opens_true _ _ _ _ _ _ _ _ (wf_u8 w1_0) (fun v hv => wf_u8 (px2_0 v hv)))) W (sat_mW W)).mono ?_
  rintro e W' ⟨v, m', L, rfl, hext, _, _, _, _, rfl⟩
  exact ⟨_, rfl, post_true Try.laidOut hW' rfl Try.underlying4 (readable_of (by kernel_rfl)) rfl rfl rfl rfl hext⟩

theorem holds : Rows.TerrainOpensSaid :=
  OpenClaim.holds_of_wide 8 Try.f8 rfl rfl rfl rfl rfl rfl rfl ⟨rfl, rfl, rfl, rfl, rfl⟩ rfl rfl rfl rfl rfl (by kernel_rfl) Try.func8 (by kernel_rfl)
    (of_decide_eq_true (by kernel_rfl)) (by unfold Func.isWrapper; first | (rw [if_pos (by decide +kernel)]; kernel_rfl) | (rw [if_neg (by decide +kernel)]; exact ⟨rfl, rfl⟩))
    (fun os started H enc _ => lifted os started H enc)

end Go.Proofs.Ytcaeieofjchpjaa
