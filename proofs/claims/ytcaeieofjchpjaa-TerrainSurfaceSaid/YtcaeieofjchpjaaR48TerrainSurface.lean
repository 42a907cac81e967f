/-
  THE ROW: TerrainSurface: for every input the law returns true.
-/
import Derived.Test.YtcaeieofjchpjaaR48
import Derived.Test.YtcaeieofjchpjaaW1
import Derived.Test.YtcaeieofjchpjaaW2
import Derived.Test.YtcaeieofjchpjaaW3
import Derived.Test.YtcaeieofjchpjaaP48f
namespace Go.Proofs.Ytcaeieofjchpjaa
open Go.ChangeShapes Go.WideShapes Go.ChangeAt Go.RowKit Go.E

set_option maxRecDepth 100000 in
theorem lifted (os : Os) (started : os.Started) (H : Type) (enc : TypeId × Value → H) :
    ReturnsInHanded {} Try.checked os 3 .any (Rows.terrainSurfaceSpec.pre6 enc Try.prog Try.f3 Rows.terrainSurfaceRow.domain false) (Rows.terrainSurfaceSpec.post enc Try.prog Try.f3 false true false false) := by
  refine returnsInHanded_of_change (C := Try.checked) Try.own started (by kernel_rfl) Try.func3
    (ChangeSpec.witness6 (enc := enc) (C := Try.checked) false ⟨#[], #[.slice none 0 0, .agg #[.int .i64 0, .int .i64 0, .int .i64 0, .int .i64 0, .int .i64 0, .slice none 0 0]], []⟩ 8 (by kernel_rfl) (by kernel_rfl) (by kernel_rfl) (by kernel_rfl)) ?_
  intro W base args ds gs before hval0 hW hcnd _
  have hval : ∀ (j : Nat) t v, Try.f3.params[j]? = some t → args[j]? = some v → Value.okWide Try.prog W .any base t v := hval0
  have hW' := hW
  obtain ⟨p, q, hA0, hV, rfl, hfz, hnd⟩ := hW
  have hA : DataW.TrodAll enc Try.prog W 0 (fun _ => true) true Try.f3.params.toList args.toList ds p := hA0
  rw [Try.params3] at hA hval
  obtain ⟨v0, v1, d0, d1, p0, p1, rfl, rfl, rfl, h0, h1⟩ := trodAll_two hA
  obtain ⟨rfl, rfl⟩ := trodVars_none hV
  obtain ⟨a0_0, q0_0, c0_0, xs0_0, e0, hs0_0, px0_0⟩ := op22 (Se.of_trod h0)
  obtain ⟨za0, zq0, zc0, rfl⟩ := okWide_slice Try.underlying22 (hval 0 22 v0 rfl rfl)
  cases e0
  obtain ⟨n1_0, n1_1, n1_2, n1_3, n1_4, a1_5, q1_5, c1_5, xs1_5, e1, w1_0, w1_1, w1_2, w1_3, w1_4, hs1_5, px1_5⟩ := op25 (Se.of_trod h1)
  obtain rfl := agg_to e1 (by simp)
  refine ((fiduciallaw48_TerrainSurface_walk (m := mW W) hs0_0 hs1_5 (surface_true ..)) W (sat_mW W)).mono ?_
  rintro e W' ⟨v, m', L, rfl, hext, _, _, _, _, rfl⟩
  exact ⟨_, rfl, post_true Try.laidOut hW' rfl Try.underlying4 (readable_of (by kernel_rfl)) rfl rfl rfl rfl hext⟩

theorem holds : Rows.TerrainSurfaceSaid :=
  OpenClaim.holds_of_wide 3 Try.f3 rfl rfl rfl rfl rfl rfl rfl ⟨rfl, rfl, rfl, rfl, rfl⟩ rfl rfl rfl rfl rfl (by kernel_rfl) Try.func3 (by kernel_rfl)
    (of_decide_eq_true (by kernel_rfl)) (by unfold Func.isWrapper; first | (rw [if_pos (by decide +kernel)]; kernel_rfl) | (rw [if_neg (by decide +kernel)]; exact ⟨rfl, rfl⟩))
    (fun os started H enc _ => lifted os started H enc)

end Go.Proofs.Ytcaeieofjchpjaa
