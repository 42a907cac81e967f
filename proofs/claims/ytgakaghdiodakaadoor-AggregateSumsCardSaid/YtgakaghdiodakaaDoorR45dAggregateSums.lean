/-
  THE ROW: AggregateSums: for every input the law returns true.
-/
import Derived.Test.YtgakaghdiodakaaDoorR45d
import Derived.Test.YtgakaghdiodakaaDoorCards
import Derived.Test.YtgakaghdiodakaaDoorTie
import Derived.SevenTiedAt
import Derived.Test.YtgakaghdiodakaaDoorW1
import Derived.Test.YtgakaghdiodakaaDoorW2
import Derived.Test.YtgakaghdiodakaaDoorW3
import Derived.Test.YtgakaghdiodakaaDoorW4
import Derived.Test.YtgakaghdiodakaaDoorP45g4
namespace Go.Proofs.YtgakaghdiodakaaDoor
open Go.ChangeShapes Go.WideShapes Go.ChangeAt Go.RowKit Go.E

set_option maxRecDepth 100000 in
theorem lifted (os : Os) (started : os.Started) (H : Type) (enc : TypeId × Value → H) :
    ReturnsInHanded {} Tryd.checked os 4 .any (fun w args => (Rows.aggregateSumsSpec.pre enc Tryd.prog Tryd.f4 [] false w args ∧ laidMetH Tryd.prog Rows.aggregateSumsRow.laid w) ∧ sizedMet enc Tryd.prog Tryd.f4 (OpenSpec.ofChange Rows.aggregateSumsSpec) false w args) (Rows.aggregateSumsSpec.post enc Tryd.prog Tryd.f4 false true false false) := by
  refine returnsInHanded_of_change_and (C := Tryd.checked) (X := fun w _ => laidMetH Tryd.prog Rows.aggregateSumsRow.laid w) (fun _ _ _ hh h => h.of_heap hh) Tryd.own started (by kernel_rfl) Tryd.func4
    (ChangeSpec.witness_at (enc := enc) (C := Tryd.checked) (os := os) (X := fun w _ => laidMetH Tryd.prog Rows.aggregateSumsRow.laid w) false (laidWorld os) #[.agg #[.int .i64 0, .int .i64 0, .int .i64 0, .slice none 0 0], .agg #[.int .i64 0, .int .i64 0], .slice none 0 0] 8 rfl (by kernel_rfl) (by kernel_rfl) (by kernel_rfl) (by kernel_rfl) (by kernel_rfl) (laid_met os _)) ?_
  intro W base args ds gs before hval0 hW _ _ hL _
  have hval : ∀ (j : Nat) t v, Tryd.f4.params[j]? = some t → args[j]? = some v → Value.okWide Tryd.prog W .any base t v := hval0
  have hW' := hW
  obtain ⟨p, q, hA0, hV, rfl, hfz, hnd⟩ := hW
  have hA : DataW.TrodAll enc Tryd.prog W 0 (fun _ => true) true Tryd.f4.params.toList args.toList ds p := hA0
  rw [Tryd.params4] at hA hval
  obtain ⟨v0, v1, v2, d0, d1, d2, p0, p1, p2, rfl, rfl, rfl, h0, h1, h2⟩ := trodAll_three hA
  obtain ⟨rfl, rfl⟩ := trodVars_none hV
  obtain ⟨n0_0, n0_1, n0_2, a0_3, q0_3, c0_3, xs0_3, e0, w0_0, w0_1, w0_2, hs0_3, px0_3⟩ := op24 (Se.of_trod h0)
  obtain rfl := agg_to e0 (by simp)
  obtain ⟨n1_0, n1_1, e1, w1_0, w1_1⟩ := op25 (Se.of_trod h1)
  obtain rfl := agg_to e1 (by simp)
  obtain ⟨a2_0, q2_0, c2_0, xs2_0, e2, hs2_0, px2_0⟩ := op22 (Se.of_trod h2)
  obtain ⟨za2, zq2, zc2, rfl⟩ := okWide_slice Tryd.underlying22 (hval 2 22 v2 rfl rfl)
  cases e2
  obtain ⟨tg, fr, hg⟩ := steps_of_laid hL
  refine ((fiduciallaw45_AggregateSums_walk (m := mW W) hg hs0_3 hs2_0 (sums_true ..)) W (sat_mW W)).mono ?_
  rintro e W' ⟨v, m', L, rfl, hext, _, _, _, _, rfl⟩
  exact ⟨_, rfl, post_true Tryd.laidOut hW' rfl Tryd.underlying4 (readable_of (by kernel_rfl)) rfl rfl rfl rfl hext⟩

theorem holds : Rows.AggregateSumsSaid :=
  OpenClaim.holds_of_wide 4 Tryd.f4 rfl rfl rfl rfl rfl rfl rfl ⟨rfl, rfl, rfl, rfl, rfl⟩ rfl rfl rfl rfl rfl (by kernel_rfl) Tryd.func4 (by kernel_rfl)
    (of_decide_eq_true (by kernel_rfl)) (by unfold Func.isWrapper; first | (rw [if_pos (by decide +kernel)]; kernel_rfl) | (rw [if_neg (by decide +kernel)]; exact ⟨rfl, rfl⟩))
    (fun os started H enc _ => lifted os started H enc)

theorem card_holds : Rows.AggregateSumsCardSaid :=
  Claim7.holds_tied_plain_at .later [] [.data] true (true, "4c11e76413753e2dc1d11f891f06d72ff3e613b76cafe95c8383fd6638aa6eb0") false
    holds (fun _ h => by cases h) (by kernel_rfl) (fun _ h => by cases h) aggregateSums_row_tie rfl ⟨rfl, rfl⟩ (by kernel_rfl) rfl
    (fun f fn hf hfn => by
      obtain rfl : f = 4 := Option.some.inj ((show Tryd.prog.funcNamed "fiducial/fiduciallaw45.AggregateSums" = some 4 by kernel_rfl).symm.trans hf) |>.symm
      obtain rfl : fn = Tryd.f4 := (Option.some.inj (Tryd.func4.symm.trans hfn)).symm
      refine ⟨by kernel_rfl, fun j t ht => ?_⟩
      have hall : Tryd.f4.params.toList.all (fun t => !Tryd.prog.wantsStandIn t) = true := by kernel_rfl
      have := List.all_eq_true.1 hall t (by rw [← Array.getElem?_toList] at ht; exact List.mem_of_getElem? ht)
      have h2 : Tryd.prog.wantsStandIn t = false := by simpa using this
      exact h2)
    (by kernel_rfl)

end Go.Proofs.YtgakaghdiodakaaDoor
