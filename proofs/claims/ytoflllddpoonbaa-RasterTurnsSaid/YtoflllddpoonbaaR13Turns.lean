/-
  THE ROW: RasterTurns.
-/
import Derived.Test.YtoflllddpoonbaaRows
import Derived.Test.YtoflllddpoonbaaEng10
import Derived.Test.YtoflllddpoonbaaW1
import Derived.Test.YtoflllddpoonbaaW2
import Derived.Test.YtoflllddpoonbaaP13c
import Derived.ProofKit
namespace Go.Proofs.Ytoflllddpoonbaa
open Go.ChangeShapes Go.WideShapes Go.ChangeAt Go.RowKit Go.E

theorem Try.own : ownKnob Try.prog.godebug = none := by kernel_rfl
theorem Try.laidOut : laidOutB Try.prog = true := by kernel_rfl
theorem cells3 : Try.prog.cellsOf 3 = 1 := by kernel_rfl
theorem cells22 : Try.prog.cellsOf 22 = 1 := by kernel_rfl
theorem cells24 : Try.prog.cellsOf 24 = 4 := by kernel_rfl

theorem open_i64s {H : Type} {enc : TypeId × Value → H} {W : World} {sp : Nat → Bool} {cs : List Value} (h : Se enc Try.prog W sp 22 cs) :
    ∃ a q c xs, cs = [.slice a q c] ∧ SlR (FE (I1 .i64)) 1 (mW W) (.slice a q c) xs ∧ ∀ x ∈ xs, (Lit.int .i64 x).wf = true :=
  h.slice Try.underlying22 cells3 (by decide) (fun cs' h' _ => by
    obtain ⟨n, rfl, hn⟩ := h'.int Try.underlying3
    exact ⟨n, rfl, hn⟩)

theorem open_raster {H : Type} {enc : TypeId × Value → H} {W : World} {sp : Nat → Bool} {cs : Array Value} (h : Se enc Try.prog W sp 24 cs.toList) :
    ∃ n0 n1 n2 a q c xs, cs = #[.int .i64 n0, .int .i64 n1, .int .i64 n2, .slice a q c] ∧ SlR (FE (I1 .i64)) 1 (mW W) (.slice a q c) xs ∧ (∀ x ∈ xs, (Lit.int .i64 x).wf = true) ∧
      (Lit.int .i64 n0).wf = true ∧ (Lit.int .i64 n1).wf = true ∧ (Lit.int .i64 n2).wf = true := by
  obtain ⟨hl, hf⟩ := h.struct Try.underlying24
  rw [cells24] at hl
  obtain ⟨l⟩ := cs
  simp only at hl hf
  match l, hl with
  | [c0, c1, c2, c3], _ =>
    have f0 := hf _ (List.mem_cons_self ..)
    have f1 := hf _ (List.mem_cons_of_mem _ (List.mem_cons_self ..))
    have f2 := hf _ (List.mem_cons_of_mem _ (List.mem_cons_of_mem _ (List.mem_cons_self ..)))
    have f3 := hf _ (List.mem_cons_of_mem _ (List.mem_cons_of_mem _ (List.mem_cons_of_mem _ (List.mem_cons_self ..))))
    simp only [cells3, cells22] at f0 f1 f2 f3
    obtain ⟨n0, e0, w0⟩ := f0.int Try.underlying3
    obtain ⟨n1, e1, w1⟩ := f1.int Try.underlying3
    obtain ⟨n2, e2, w2⟩ := f2.int Try.underlying3
    obtain ⟨a, q, c, xs, e3, hs, hx⟩ := open_i64s f3
    cases e0; cases e1; cases e2; cases e3
    exact ⟨n0, n1, n2, a, q, c, xs, rfl, hs, hx, w0, w1, w2⟩

theorem readable13 : ([24, 22, 3, 4, 35, 48, 58] : List TypeId).all (fun t => Try.prog.readableRec t && Nat.blt t Try.prog.types.size) = true := by kernel_rfl

theorem readable_of {l : List TypeId} (hl : l.all (fun t => [24, 22, 3, 4, 35, 48, 58].contains t) = true) : ∀ t ∈ l, Try.prog.readableRec t = true ∧ t < Try.prog.types.size := fun t ht => by
  have h1 := List.all_eq_true.1 hl t ht
  have h2 := List.all_eq_true.1 readable13 t (by simpa using h1)
  simp only [Bool.and_eq_true, Nat.blt_eq] at h2
  exact h2

set_option maxRecDepth 100000 in
theorem turns_lifted (os : Os) (started : os.Started) (H : Type) (enc : TypeId × Value → H) :
    ReturnsInHanded {} Try.checked os 3 .any (Rows.rasterTurnsSpec.pre6 enc Try.prog Try.f3 Rows.rasterTurnsRow.domain false) (Rows.rasterTurnsSpec.post enc Try.prog Try.f3 false true false false) := by
  refine returnsInHanded_of_change (C := Try.checked) Try.own started (by kernel_rfl) Try.func3
    (ChangeSpec.witness6 (enc := enc) (C := Try.checked) false ⟨#[], #[.agg #[.int .i64 0, .int .i64 0, .int .i64 0, .slice none 0 0]], []⟩ 8 (by kernel_rfl) (by kernel_rfl) (by kernel_rfl) (by kernel_rfl)) ?_
  intro W base args ds gs before hval0 hW hcnd _
  have hval : ∀ (j : Nat) t v, Try.f3.params[j]? = some t → args[j]? = some v → Value.okWide Try.prog W .any base t v := hval0
  have hW' := hW
  obtain ⟨p, q, hA0, hV, rfl, hfz, hnd⟩ := hW
  have hA : DataW.TrodAll enc Try.prog W 0 (fun _ => true) true Try.f3.params.toList args.toList ds p := hA0
  rw [Try.params3] at hA hval
  obtain ⟨v0, d0, rfl, rfl, h0⟩ := trodAll_one hA
  obtain ⟨rfl, rfl⟩ := trodVars_none hV
  obtain ⟨cs, rfl, _⟩ := okWide_struct Try.underlying24 (hval 0 24 v0 rfl rfl)
  obtain ⟨n0, n1, n2, a, q, c, xs, rfl, hs, _⟩ := open_raster (Se.of_trod h0)
  refine ((fiduciallaw13_RasterTurns_walk (m := mW W) hs (turns_true n0 n1 n2 xs)) W (sat_mW W)).mono ?_
  rintro e W' ⟨v, m', L, rfl, hext, _, _, _, _, rfl⟩
  exact ⟨_, rfl, post_true Try.laidOut hW' rfl Try.underlying4 (readable_of (by kernel_rfl)) rfl rfl rfl rfl hext⟩

theorem turns_holds : Rows.RasterTurnsSaid :=
  OpenClaim.holds_of_wide 3 Try.f3 rfl rfl rfl rfl rfl rfl rfl ⟨rfl, rfl, rfl, rfl, rfl⟩ rfl rfl rfl rfl rfl (by kernel_rfl) Try.func3 (by kernel_rfl)
    (of_decide_eq_true (by kernel_rfl)) (by unfold Func.isWrapper; first | (rw [if_pos (by decide +kernel)]; kernel_rfl) | (rw [if_neg (by decide +kernel)]; exact ⟨rfl, rfl⟩))
    (fun os started H enc _ => turns_lifted os started H enc)

end Go.Proofs.Ytoflllddpoonbaa
