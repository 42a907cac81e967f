/-
  THE ROW: DescriptorDistances: for every input the law returns true.
-/
import Derived.Test.YtdgmeplpkehdnaaR21
import Derived.Test.YtdgmeplpkehdnaaW1
import Derived.Test.YtdgmeplpkehdnaaW2
import Derived.Test.YtdgmeplpkehdnaaP21a
namespace Go.Proofs.Ytdgmeplpkehdnaa
open Go.ChangeShapes Go.WideShapes Go.ChangeAt Go.RowKit Go.E

set_option maxRecDepth 100000 in
theorem lifted (os : Os) (started : os.Started) (H : Type) (enc : TypeId × Value → H) :
    ReturnsInHanded {} Try.checked os 3 .any (Rows.descriptorDistancesSpec.pre6 enc Try.prog Try.f3 Rows.descriptorDistancesRow.domain false) (Rows.descriptorDistancesSpec.post enc Try.prog Try.f3 false true false false) := by
  refine returnsInHanded_of_change (C := Try.checked) Try.own started (by kernel_rfl) Try.func3
    (ChangeSpec.witness6 (enc := enc) (C := Try.checked) false ⟨#[], #[.int .u64 0, .int .u64 0, .int .u64 0], []⟩ 8 (by kernel_rfl) (by kernel_rfl) (by kernel_rfl) (by kernel_rfl)) ?_
  intro W base args ds gs before hval0 hW hcnd _
  have hval : ∀ (j : Nat) t v, Try.f3.params[j]? = some t → args[j]? = some v → Value.okWide Try.prog W .any base t v := hval0
  have hW' := hW
  obtain ⟨p, q, hA0, hV, rfl, hfz, hnd⟩ := hW
  have hA : DataW.TrodAll enc Try.prog W 0 (fun _ => true) true Try.f3.params.toList args.toList ds p := hA0
  rw [Try.params3] at hA hval
  obtain ⟨v0, v1, v2, d0, d1, d2, p0, p1, p2, rfl, rfl, rfl, h0, h1, h2⟩ := trodAll_three hA
  obtain ⟨rfl, rfl⟩ := trodVars_none hV
  obtain ⟨n0_0, e0, w0_0⟩ := op22 (Se.of_trod h0)
  obtain ⟨z0, rfl⟩ := okWide_int Try.underlying22 (hval 0 22 v0 rfl rfl)
  cases e0
  obtain ⟨n1_0, e1, w1_0⟩ := op22 (Se.of_trod h1)
  obtain ⟨z1, rfl⟩ := okWide_int Try.underlying22 (hval 1 22 v1 rfl rfl)
  cases e1
  obtain ⟨n2_0, e2, w2_0⟩ := op22 (Se.of_trod h2)
  obtain ⟨z2, rfl⟩ := okWide_int Try.underlying22 (hval 2 22 v2 rfl rfl)
  cases e2
  refine ((fiduciallaw21_DescriptorDistances_walk (m := mW W)  (distances_true _ _ _ (wf_u64 w0_0) (wf_u64 w1_0) (wf_u64 w2_0))) W (sat_mW W)).mono ?_
  rintro e W' ⟨v, m', L, rfl, hext, _, _, _, _, rfl⟩
  exact ⟨_, rfl, post_true Try.laidOut hW' rfl Try.underlying4 (readable_of (by kernel_rfl)) rfl rfl rfl rfl hext⟩

theorem holds : Rows.DescriptorDistancesSaid :=
  OpenClaim.holds_of_wide 3 Try.f3 rfl rfl rfl rfl rfl rfl rfl ⟨rfl, rfl, rfl, rfl, rfl⟩ rfl rfl rfl rfl rfl (by kernel_rfl) Try.func3 (by kernel_rfl)
    (of_decide_eq_true (by kernel_rfl)) (by unfold Func.isWrapper; first | (rw [if_pos (by decide +kernel)]; kernel_rfl) | (rw [if_neg (by decide +kernel)]; exact ⟨rfl, rfl⟩))
    (fun os started H enc _ => lifted os started H enc)

end Go.Proofs.Ytdgmeplpkehdnaa
