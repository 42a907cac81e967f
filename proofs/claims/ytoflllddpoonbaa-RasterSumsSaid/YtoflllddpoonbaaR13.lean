/-
  ROWS, chapter 13: the arguments, opened.
-/
import Derived.Test.YtoflllddpoonbaaRows
import Derived.Test.YtoflllddpoonbaaEng10
import Derived.ProofKit
namespace Go.Proofs.Ytoflllddpoonbaa
open Go.ChangeShapes Go.WideShapes Go.ChangeAt Go.RowKit Go.E

theorem Try.own : ownKnob Try.prog.godebug = none := by kernel_rfl
theorem Try.laidOut : laidOutB Try.prog = true := by kernel_rfl
theorem cells3 : Try.prog.cellsOf 3 = 1 := by kernel_rfl
theorem cells22 : Try.prog.cellsOf 22 = 1 := by kernel_rfl
theorem cells24 : Try.prog.cellsOf 24 = 4 := by kernel_rfl

theorem open_i64s {H : Type} {enc : TypeId × Value → H} {W : World} {sp : Nat → Bool} {cs : List Value} (h : Se enc Try.prog W sp 22 cs) :
    ∃ a q c xs, cs = [.slice a q c] ∧ SlR (FE (I1 .i64)) 1 (mW W) (.slice a q c) xs ∧ ∀ x ∈ xs, (Lit.int .i64 x).wf = true :=
  h.slice Try.underlying22 cells3 (by decide) (fun cs' h' _ => by
    obtain ⟨n, rfl, hn⟩ := h'.int Try.underlying3
    exact ⟨n, rfl, hn⟩)

theorem open_raster {H : Type} {enc : TypeId × Value → H} {W : World} {sp : Nat → Bool} {cs : Array Value} (h : Se enc Try.prog W sp 24 cs.toList) :
    ∃ n0 n1 n2 a q c xs, cs = #[.int .i64 n0, .int .i64 n1, .int .i64 n2, .slice a q c] ∧ SlR (FE (I1 .i64)) 1 (mW W) (.slice a q c) xs ∧ (∀ x ∈ xs, (Lit.int .i64 x).wf = true) ∧
      (Lit.int .i64 n0).wf = true ∧ (Lit.int .i64 n1).wf = true ∧ (Lit.int .i64 n2).wf = true := by
  obtain ⟨hl, hf⟩ := h.struct Try.underlying24
  rw [cells24] at hl
  obtain ⟨l⟩ := cs
  simp only at hl hf
  match l, hl with
  | [c0, c1, c2, c3], _ =>
    have f0 := hf _ (List.mem_cons_self ..)
    have f1 := hf _ (List.mem_cons_of_mem _ (List.mem_cons_self ..))
    have f2 := hf _ (List.mem_cons_of_mem _ (List.mem_cons_of_mem _ (List.mem_cons_self ..)))
    have f3 := hf _ (List.mem_cons_of_mem _ (List.mem_cons_of_mem _ (List.mem_cons_of_mem _ (List.mem_cons_self ..))))
    simp only [cells3, cells22] at f0 f1 f2 f3
    obtain ⟨n0, e0, w0⟩ := f0.int Try.underlying3
    obtain ⟨n1, e1, w1⟩ := f1.int Try.underlying3
    obtain ⟨n2, e2, w2⟩ := f2.int Try.underlying3
    obtain ⟨a, q, c, xs, e3, hs, hx⟩ := open_i64s f3
    cases e0; cases e1; cases e2; cases e3
    exact ⟨n0, n1, n2, a, q, c, xs, rfl, hs, hx, w0, w1, w2⟩

theorem readable13 : ([24, 22, 3, 4, 35, 48, 58] : List TypeId).all (fun t => Try.prog.readableRec t && Nat.blt t Try.prog.types.size) = true := by kernel_rfl

theorem readable_of {l : List TypeId} (hl : l.all (fun t => [24, 22, 3, 4, 35, 48, 58].contains t) = true) : ∀ t ∈ l, Try.prog.readableRec t = true ∧ t < Try.prog.types.size := fun t ht => by
  have h1 := List.all_eq_true.1 hl t ht
  have h2 := List.all_eq_true.1 readable13 t (by simpa using h1)
  simp only [Bool.and_eq_true, Nat.blt_eq] at h2
  exact h2

theorem agg_of {v : Value} (h : v.cells.toList.length ≠ 1) : ∃ cs, v = .agg cs := by
  cases v <;> simp [Value.cells] at h ⊢

theorem cells58 : Try.prog.cellsOf 58 = 2 := by kernel_rfl
theorem cells35 : Try.prog.cellsOf 35 = 3 := by kernel_rfl
theorem cells48 : Try.prog.cellsOf 48 = 4 := by kernel_rfl

theorem open_two {H : Type} {enc : TypeId × Value → H} {W : World} {sp : Nat → Bool} {v : Value} (h : Se enc Try.prog W sp 58 v.cells.toList) : ∃ n0 n1, v = .agg #[.int .i64 n0, .int .i64 n1] := by
  obtain ⟨hl, hf⟩ := h.array Try.underlying58
  rw [cells58] at hl
  obtain ⟨⟨l⟩, rfl⟩ := agg_of (v := v) (by omega)
  simp only [Value.cells, cells3] at hl hf
  match l, hl with
  | [c0, c1], _ =>
    obtain ⟨n0, e0, _⟩ := (hf 0 (by decide)).int Try.underlying3
    obtain ⟨n1, e1, _⟩ := (hf 1 (by decide)).int Try.underlying3
    cases e0; cases e1
    exact ⟨_, _, rfl⟩
theorem open_three {H : Type} {enc : TypeId × Value → H} {W : World} {sp : Nat → Bool} {v : Value} (h : Se enc Try.prog W sp 35 v.cells.toList) : ∃ n0 n1 n2, v = .agg #[.int .i64 n0, .int .i64 n1, .int .i64 n2] := by
  obtain ⟨hl, hf⟩ := h.array Try.underlying35
  rw [cells35] at hl
  obtain ⟨⟨l⟩, rfl⟩ := agg_of (v := v) (by omega)
  simp only [Value.cells, cells3] at hl hf
  match l, hl with
  | [c0, c1, c2], _ =>
    obtain ⟨n0, e0, _⟩ := (hf 0 (by decide)).int Try.underlying3
    obtain ⟨n1, e1, _⟩ := (hf 1 (by decide)).int Try.underlying3
    obtain ⟨n2, e2, _⟩ := (hf 2 (by decide)).int Try.underlying3
    cases e0; cases e1; cases e2
    exact ⟨_, _, _, rfl⟩
theorem open_four {H : Type} {enc : TypeId × Value → H} {W : World} {sp : Nat → Bool} {v : Value} (h : Se enc Try.prog W sp 48 v.cells.toList) : ∃ n0 n1 n2 n3, v = .agg #[.int .i64 n0, .int .i64 n1, .int .i64 n2, .int .i64 n3] := by
  obtain ⟨hl, hf⟩ := h.array Try.underlying48
  rw [cells48] at hl
  obtain ⟨⟨l⟩, rfl⟩ := agg_of (v := v) (by omega)
  simp only [Value.cells, cells3] at hl hf
  match l, hl with
  | [c0, c1, c2, c3], _ =>
    obtain ⟨n0, e0, _⟩ := (hf 0 (by decide)).int Try.underlying3
    obtain ⟨n1, e1, _⟩ := (hf 1 (by decide)).int Try.underlying3
    obtain ⟨n2, e2, _⟩ := (hf 2 (by decide)).int Try.underlying3
    obtain ⟨n3, e3, _⟩ := (hf 3 (by decide)).int Try.underlying3
    cases e0; cases e1; cases e2; cases e3
    exact ⟨_, _, _, _, rfl⟩

theorem agg24 {H : Type} {enc : TypeId × Value → H} {W : World} {sp : Nat → Bool} {v : Value} (h : Se enc Try.prog W sp 24 v.cells.toList) :
    ∃ n0 n1 n2 a q c xs, v = .agg #[.int .i64 n0, .int .i64 n1, .int .i64 n2, .slice a q c] ∧ SlR (FE (I1 .i64)) 1 (mW W) (.slice a q c) xs := by
  have hl := (h.struct Try.underlying24).1
  rw [cells24] at hl
  obtain ⟨cs, rfl⟩ := agg_of (v := v) (by omega)
  obtain ⟨n0, n1, n2, a, q, c, xs, rfl, hs, _⟩ := open_raster h
  exact ⟨n0, n1, n2, a, q, c, xs, rfl, hs⟩
end Go.Proofs.Ytoflllddpoonbaa
