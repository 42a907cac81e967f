/-
  THE ROW: DescriptorUpright: for every input the law returns true.
-/
import Derived.Test.YtdgmeplpkehdnaaR21
import Derived.Test.YtdgmeplpkehdnaaW1
import Derived.Test.YtdgmeplpkehdnaaW2
import Derived.Test.YtdgmeplpkehdnaaW3
import Derived.Test.YtdgmeplpkehdnaaW4
import Derived.Test.YtdgmeplpkehdnaaW5
import Derived.Test.YtdgmeplpkehdnaaW6
import Derived.Test.YtdgmeplpkehdnaaP21i
namespace Go.Proofs.Ytdgmeplpkehdnaa
open Go.ChangeShapes Go.WideShapes Go.ChangeAt Go.RowKit Go.E

set_option maxRecDepth 100000 in
theorem lifted (os : Os) (started : os.Started) (H : Type) (enc : TypeId × Value → H) :
    ReturnsInHanded {} Try.checked os 10 .any (Rows.descriptorUprightSpec.pre6 enc Try.prog Try.f10 Rows.descriptorUprightRow.domain false) (Rows.descriptorUprightSpec.post enc Try.prog Try.f10 false true false false) := by
  refine returnsInHanded_of_change (C := Try.checked) Try.own started (by kernel_rfl) Try.func10
    (ChangeSpec.witness6 (enc := enc) (C := Try.checked) false ⟨#[], #[.agg #[.int .i64 0, .int .i64 0, .int .i64 0, .slice none 0 0], .slice none 0 0, .agg #[.int .i64 0, .int .i64 0, .int .i64 0]], []⟩ 8 (by kernel_rfl) (by kernel_rfl) (by kernel_rfl) (by kernel_rfl)) ?_
  intro W base args ds gs before hval0 hW hcnd _
  have hval : ∀ (j : Nat) t v, Try.f10.params[j]? = some t → args[j]? = some v → Value.okWide Try.prog W .any base t v := hval0
  have hW' := hW
  obtain ⟨p, q, hA0, hV, rfl, hfz, hnd⟩ := hW
  have hA : DataW.TrodAll enc Try.prog W 0 (fun _ => true) true Try.f10.params.toList args.toList ds p := hA0
  rw [Try.params10] at hA hval
  obtain ⟨v0, v1, v2, d0, d1, d2, p0, p1, p2, rfl, rfl, rfl, h0, h1, h2⟩ := trodAll_three hA
  obtain ⟨rfl, rfl⟩ := trodVars_none hV
  obtain ⟨n0_0, n0_1, n0_2, a0_3, q0_3, c0_3, xs0_3, e0, w0_0, w0_1, w0_2, hs0_3, px0_3⟩ := op29 (Se.of_trod h0)
  obtain rfl := agg_to e0 (by simp)
  obtain ⟨a1_0, q1_0, c1_0, xs1_0, e1, hs1_0, px1_0⟩ := op30 (Se.of_trod h1)
  obtain ⟨za1, zq1, zc1, rfl⟩ := okWide_slice Try.underlying30 (hval 1 30 v1 rfl rfl)
  cases e1
  obtain ⟨n2_0, n2_1, n2_2, e2, w2_0, w2_1, w2_2⟩ := op68 (Se.of_trod h2)
  obtain rfl := agg_to e2 (by simp)
  refine ((fiduciallaw21_DescriptorUpright_walk (m := mW W) hs0_3 hs1_0 (upright_true ..)) W (sat_mW W)).mono ?_
  rintro e W' ⟨v, m', L, rfl, hext, _, _, _, _, rfl⟩
  exact ⟨_, rfl, post_true Try.laidOut hW' rfl Try.underlying4 (readable_of (by kernel_rfl)) rfl rfl rfl rfl hext⟩

theorem holds : Rows.DescriptorUprightSaid :=
  OpenClaim.holds_of_wide 10 Try.f10 rfl rfl rfl rfl rfl rfl rfl ⟨rfl, rfl, rfl, rfl, rfl⟩ rfl rfl rfl rfl rfl (by kernel_rfl) Try.func10 (by kernel_rfl)
    (of_decide_eq_true (by kernel_rfl)) (by unfold Func.isWrapper; first | (rw [if_pos (by decide +kernel)]; kernel_rfl) | (rw [if_neg (by decide +kernel)]; exact ⟨rfl, rfl⟩))
    (fun os started H enc _ => lifted os started H enc)

end Go.Proofs.Ytdgmeplpkehdnaa
