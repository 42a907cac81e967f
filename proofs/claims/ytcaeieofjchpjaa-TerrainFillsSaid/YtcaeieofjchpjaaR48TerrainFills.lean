/-
  THE ROW: TerrainFills: for every input the law returns true.
-/
import Derived.Test.YtcaeieofjchpjaaR48
import Derived.Test.YtcaeieofjchpjaaW1
import Derived.Test.YtcaeieofjchpjaaW2
import Derived.Test.YtcaeieofjchpjaaW3
import Derived.Test.YtcaeieofjchpjaaW4
import Derived.Test.YtcaeieofjchpjaaW5
import Derived.Test.YtcaeieofjchpjaaW6
import Derived.Test.YtcaeieofjchpjaaP48c
namespace Go.Proofs.Ytcaeieofjchpjaa
open Go.ChangeShapes Go.WideShapes Go.ChangeAt Go.RowKit Go.E

set_option maxRecDepth 100000 in
theorem lifted (os : Os) (started : os.Started) (H : Type) (enc : TypeId × Value → H) :
    ReturnsInHanded {} Try.checked os 10 .any (Rows.terrainFillsSpec.pre6 enc Try.prog Try.f10 Rows.terrainFillsRow.domain false) (Rows.terrainFillsSpec.post enc Try.prog Try.f10 false true false false) := by
  refine returnsInHanded_of_change (C := Try.checked) Try.own started (by kernel_rfl) Try.func10
    (ChangeSpec.witness6 (enc := enc) (C := Try.checked) false ⟨#[], #[.agg #[.int .i64 0, .int .i64 0, .int .i64 0, .int .i64 0, .int .i64 0, .slice none 0 0], .slice none 0 0], []⟩ 8 (by kernel_rfl) (by kernel_rfl) (by kernel_rfl) (by kernel_rfl)) ?_
  intro W base args ds gs before hval0 hW hcnd _
  have hval : ∀ (j : Nat) t v, Try.f10.params[j]? = some t → args[j]? = some v → Value.okWide Try.prog W .any base t v := hval0
  have hW' := hW
  obtain ⟨p, q, hA0, hV, rfl, hfz, hnd⟩ := hW
  have hA : DataW.TrodAll enc Try.prog W 0 (fun _ => true) true Try.f10.params.toList args.toList ds p := hA0
  rw [Try.params10] at hA hval
  obtain ⟨v0, v1, d0, d1, p0, p1, rfl, rfl, rfl, h0, h1⟩ := trodAll_two hA
  obtain ⟨rfl, rfl⟩ := trodVars_none hV
  obtain ⟨n0_0, n0_1, n0_2, n0_3, n0_4, a0_5, q0_5, c0_5, xs0_5, e0, w0_0, w0_1, w0_2, w0_3, w0_4, hs0_5, px0_5⟩ := op25 (Se.of_trod h0)
  obtain rfl := agg_to e0 (by simp)
  obtain ⟨a1_0, q1_0, c1_0, xs1_0, e1, hs1_0, px1_0⟩ := op34 (Se.of_trod h1)
  obtain ⟨za1, zq1, zc1, rfl⟩ := okWide_slice Try.underlying34 (hval 1 34 v1 rfl rfl)
  cases e1
  refine ((fiduciallaw48_TerrainFills_walk (m := mW W) hs0_5 hs1_0 (fills_true ..)) W (sat_mW W)).mono ?_
  rintro e W' ⟨v, m', L, rfl, hext, _, _, _, _, rfl⟩
  exact ⟨_, rfl, post_true Try.laidOut hW' rfl Try.underlying4 (readable_of (by kernel_rfl)) rfl rfl rfl rfl hext⟩

theorem holds : Rows.TerrainFillsSaid :=
  OpenClaim.holds_of_wide 10 Try.f10 rfl rfl rfl rfl rfl rfl rfl ⟨rfl, rfl, rfl, rfl, rfl⟩ rfl rfl rfl rfl rfl (by kernel_rfl) Try.func10 (by kernel_rfl)
    (of_decide_eq_true (by kernel_rfl)) (by unfold Func.isWrapper; first | (rw [if_pos (by decide +kernel)]; kernel_rfl) | (rw [if_neg (by decide +kernel)]; exact ⟨rfl, rfl⟩))
    (fun os started H enc _ => lifted os started H enc)

end Go.Proofs.Ytcaeieofjchpjaa
