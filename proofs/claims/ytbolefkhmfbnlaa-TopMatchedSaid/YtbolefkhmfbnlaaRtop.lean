/-
  ROWS, chapter top: the arguments, opened.
-/
import Derived.Test.YtbolefkhmfbnlaaTab
import Derived.Test.YtbolefkhmfbnlaaEng10
import Derived.ProofKit
set_option linter.unusedVariables false
set_option maxRecDepth 100000
namespace Go.Proofs.Ytbolefkhmfbnlaa
open Go.ChangeShapes Go.WideShapes Go.ChangeAt Go.RowKit Go.E

theorem Try.own : ownKnob Try.prog.godebug = none := by kernel_rfl
theorem Try.laidOut : laidOutB Try.prog = true := by kernel_rfl
theorem wf_u64 {n : Int} (h : (Lit.int .u64 n).wf = true) : 0 ≤ n ∧ n < 18446744073709551616 := by
  simp only [Lit.wf, Bool.and_eq_true, decide_eq_true_eq] at h
  have h1 : IntKind.u64.min = 0 := by rfl
  have h2 : IntKind.u64.max = 18446744073709551615 := by rfl
  omega
theorem wf_u8 {n : Int} (h : (Lit.int .u8 n).wf = true) : 0 ≤ n ∧ n < 256 := by
  simp only [Lit.wf, Bool.and_eq_true, decide_eq_true_eq] at h
  have h1 : IntKind.u8.min = 0 := by rfl
  have h2 : IntKind.u8.max = 255 := by rfl
  omega
theorem wf_i16 {n : Int} (h : (Lit.int .i16 n).wf = true) : -32768 ≤ n ∧ n < 32768 := by
  simp only [Lit.wf, Bool.and_eq_true, decide_eq_true_eq] at h
  have h1 : IntKind.i16.min = -32768 := by rfl
  have h2 : IntKind.i16.max = 32767 := by rfl
  omega
theorem wf_i64 {n : Int} (h : (Lit.int .i64 n).wf = true) : -9223372036854775808 ≤ n ∧ n ≤ 9223372036854775807 := by
  simp only [Lit.wf, Bool.and_eq_true, decide_eq_true_eq] at h
  have h1 : IntKind.i64.min = -9223372036854775808 := by rfl
  have h2 : IntKind.i64.max = 9223372036854775807 := by rfl
  omega
theorem agg_to {v : Value} {l : List Value} (h : v.cells.toList = l) (hl : l.length ≠ 1) : v = .agg l.toArray := by
  subst h
  cases v <;> simp [Value.cells] at hl ⊢
theorem cells3 : Try.prog.cellsOf 3 = 1 := by kernel_rfl
theorem op3 {H : Type} {enc : TypeId × Value → H} {W : World} {sp : Nat → Bool} {cs : List Value} (h : Se enc Try.prog W sp 3 cs) :
    ∃ (n0 : Int), cs = [.int .i64 n0] ∧ (Lit.int .i64 n0).wf = true := by
  obtain ⟨n0, rfl, w0⟩ := h.int Try.underlying3
  exact ⟨n0, rfl, w0⟩
def Pr3 (x : Int) : Prop := (Lit.int .i64 x).wf = true
theorem cells22 : Try.prog.cellsOf 22 = 1 := by kernel_rfl
theorem op22 {H : Type} {enc : TypeId × Value → H} {W : World} {sp : Nat → Bool} {cs : List Value} (h : Se enc Try.prog W sp 22 cs) :
    ∃ (a0 : Option Addr) (q0 : Nat) (c0 : Nat) (xs0 : List Int), cs = [.slice a0 q0 c0] ∧ SlR (FE (I1 .i64)) 1 (mW W) (.slice a0 q0 c0) xs0 ∧ (∀ x ∈ xs0, Pr3 x) := by
  obtain ⟨a0, q0, c0, xs0, e0, hs0, px0⟩ := h.slice (El := (FE (I1 .i64))) (k := 1) (Pr := Pr3) Try.underlying22 cells3 (by decide) (fun cs' h' _ => by
    obtain ⟨n0, rfl, w0⟩ := op3 h'
    exact ⟨n0, rfl, w0⟩)
  exact ⟨a0, q0, c0, xs0, e0, hs0, px0⟩
theorem cells24 : Try.prog.cellsOf 24 = 4 := by kernel_rfl
theorem op24 {H : Type} {enc : TypeId × Value → H} {W : World} {sp : Nat → Bool} {cs : List Value} (h : Se enc Try.prog W sp 24 cs) :
    ∃ (n0 : Int) (n1 : Int) (n2 : Int) (a3 : Option Addr) (q3 : Nat) (c3 : Nat) (xs3 : List Int), cs = [.int .i64 n0, .int .i64 n1, .int .i64 n2, .slice a3 q3 c3] ∧ (Lit.int .i64 n0).wf = true ∧ (Lit.int .i64 n1).wf = true ∧ (Lit.int .i64 n2).wf = true ∧ SlR (FE (I1 .i64)) 1 (mW W) (.slice a3 q3 c3) xs3 ∧ (∀ x ∈ xs3, Pr3 x) := by
  obtain ⟨hl, hf⟩ := h.struct Try.underlying24
  rw [cells24] at hl
  match cs, hl with
  | [c_0, c_1, c_2, c_3], _ =>
    have f0 := hf _ (List.mem_cons_self ..)
    simp only [cells3] at f0
    have g0 : Se enc Try.prog W sp 3 [c_0] := f0
    obtain ⟨nf0_0, e0, wf0_0⟩ := op3 g0
    have f1 := hf _ (List.mem_cons_of_mem _ (List.mem_cons_self ..))
    simp only [cells3] at f1
    have g1 : Se enc Try.prog W sp 3 [c_1] := f1
    obtain ⟨nf1_0, e1, wf1_0⟩ := op3 g1
    have f2 := hf _ (List.mem_cons_of_mem _ (List.mem_cons_of_mem _ (List.mem_cons_self ..)))
    simp only [cells3] at f2
    have g2 : Se enc Try.prog W sp 3 [c_2] := f2
    obtain ⟨nf2_0, e2, wf2_0⟩ := op3 g2
    have f3 := hf _ (List.mem_cons_of_mem _ (List.mem_cons_of_mem _ (List.mem_cons_of_mem _ (List.mem_cons_self ..))))
    simp only [cells22] at f3
    have g3 : Se enc Try.prog W sp 22 [c_3] := f3
    obtain ⟨af3_0, qf3_0, cf3_0, xsf3_0, e3, hsf3_0, pxf3_0⟩ := op22 g3
    cases e0
    cases e1
    cases e2
    cases e3
    exact ⟨nf0_0, nf1_0, nf2_0, af3_0, qf3_0, cf3_0, xsf3_0, rfl, wf0_0, wf1_0, wf2_0, hsf3_0, pxf3_0⟩
theorem cells92 : Try.prog.cellsOf 92 = 4 := by kernel_rfl
theorem op92 {H : Type} {enc : TypeId × Value → H} {W : World} {sp : Nat → Bool} {cs : List Value} (h : Se enc Try.prog W sp 92 cs) :
    ∃ (n0 : Int) (n1 : Int) (n2 : Int) (n3 : Int), cs = [.int .i64 n0, .int .i64 n1, .int .i64 n2, .int .i64 n3] ∧ (Lit.int .i64 n0).wf = true ∧ (Lit.int .i64 n1).wf = true ∧ (Lit.int .i64 n2).wf = true ∧ (Lit.int .i64 n3).wf = true := by
  obtain ⟨hl, hf⟩ := h.array Try.underlying92
  rw [cells92] at hl
  match cs, hl with
  | [c_0, c_1, c_2, c_3], _ =>
    have f0 := hf 0 (by decide)
    simp only [cells3] at f0
    have g0 : Se enc Try.prog W sp 3 [c_0] := f0
    obtain ⟨nf0_0, e0, wf0_0⟩ := op3 g0
    have f1 := hf 1 (by decide)
    simp only [cells3] at f1
    have g1 : Se enc Try.prog W sp 3 [c_1] := f1
    obtain ⟨nf1_0, e1, wf1_0⟩ := op3 g1
    have f2 := hf 2 (by decide)
    simp only [cells3] at f2
    have g2 : Se enc Try.prog W sp 3 [c_2] := f2
    obtain ⟨nf2_0, e2, wf2_0⟩ := op3 g2
    have f3 := hf 3 (by decide)
    simp only [cells3] at f3
    have g3 : Se enc Try.prog W sp 3 [c_3] := f3
    obtain ⟨nf3_0, e3, wf3_0⟩ := op3 g3
    cases e0
    cases e1
    cases e2
    cases e3
    exact ⟨nf0_0, nf1_0, nf2_0, nf3_0, rfl, wf0_0, wf1_0, wf2_0, wf3_0⟩
theorem cells94 : Try.prog.cellsOf 94 = 8 := by kernel_rfl
theorem op94 {H : Type} {enc : TypeId × Value → H} {W : World} {sp : Nat → Bool} {cs : List Value} (h : Se enc Try.prog W sp 94 cs) :
    ∃ (n0 : Int) (n1 : Int) (n2 : Int) (n3 : Int) (n4 : Int) (n5 : Int) (n6 : Int) (n7 : Int), cs = [.int .i64 n0, .int .i64 n1, .int .i64 n2, .int .i64 n3, .int .i64 n4, .int .i64 n5, .int .i64 n6, .int .i64 n7] ∧ (Lit.int .i64 n0).wf = true ∧ (Lit.int .i64 n1).wf = true ∧ (Lit.int .i64 n2).wf = true ∧ (Lit.int .i64 n3).wf = true ∧ (Lit.int .i64 n4).wf = true ∧ (Lit.int .i64 n5).wf = true ∧ (Lit.int .i64 n6).wf = true ∧ (Lit.int .i64 n7).wf = true := by
  obtain ⟨hl, hf⟩ := h.struct Try.underlying94
  rw [cells94] at hl
  match cs, hl with
  | [c_0, c_1, c_2, c_3, c_4, c_5, c_6, c_7], _ =>
    have f0 := hf _ (List.mem_cons_self ..)
    simp only [cells92] at f0
    have g0 : Se enc Try.prog W sp 92 [c_0, c_1, c_2, c_3] := f0
    obtain ⟨nf0_0, nf0_1, nf0_2, nf0_3, e0, wf0_0, wf0_1, wf0_2, wf0_3⟩ := op92 g0
    have f1 := hf _ (List.mem_cons_of_mem _ (List.mem_cons_self ..))
    simp only [cells92] at f1
    have g1 : Se enc Try.prog W sp 92 [c_4, c_5, c_6, c_7] := f1
    obtain ⟨nf1_0, nf1_1, nf1_2, nf1_3, e1, wf1_0, wf1_1, wf1_2, wf1_3⟩ := op92 g1
    cases e0
    cases e1
    exact ⟨nf0_0, nf0_1, nf0_2, nf0_3, nf1_0, nf1_1, nf1_2, nf1_3, rfl, wf0_0, wf0_1, wf0_2, wf0_3, wf1_0, wf1_1, wf1_2, wf1_3⟩
def Pr94 (x : Int × Int × Int × Int × Int × Int × Int × Int) : Prop := (Lit.int .i64 x.1).wf = true ∧ (Lit.int .i64 x.2.1).wf = true ∧ (Lit.int .i64 x.2.2.1).wf = true ∧ (Lit.int .i64 x.2.2.2.1).wf = true ∧ (Lit.int .i64 x.2.2.2.2.1).wf = true ∧ (Lit.int .i64 x.2.2.2.2.2.1).wf = true ∧ (Lit.int .i64 x.2.2.2.2.2.2.1).wf = true ∧ (Lit.int .i64 x.2.2.2.2.2.2.2).wf = true
theorem cells52 : Try.prog.cellsOf 52 = 1 := by kernel_rfl
theorem op52 {H : Type} {enc : TypeId × Value → H} {W : World} {sp : Nat → Bool} {cs : List Value} (h : Se enc Try.prog W sp 52 cs) :
    ∃ (a0 : Option Addr) (q0 : Nat) (c0 : Nat) (xs0 : List (Int × Int × Int × Int × Int × Int × Int × Int)), cs = [.slice a0 q0 c0] ∧ SlR (FE T8) 8 (mW W) (.slice a0 q0 c0) xs0 ∧ (∀ x ∈ xs0, Pr94 x) := by
  obtain ⟨a0, q0, c0, xs0, e0, hs0, px0⟩ := h.slice (El := (FE T8)) (k := 8) (Pr := Pr94) Try.underlying52 cells94 (by decide) (fun cs' h' _ => by
    obtain ⟨n0, n1, n2, n3, n4, n5, n6, n7, rfl, w0, w1, w2, w3, w4, w5, w6, w7⟩ := op94 h'
    exact ⟨(n0, n1, n2, n3, n4, n5, n6, n7), rfl, ⟨w0, w1, w2, w3, w4, w5, w6, w7⟩⟩)
  exact ⟨a0, q0, c0, xs0, e0, hs0, px0⟩
theorem readableAll : ([3, 4, 22, 24, 52, 92, 94] : List TypeId).all (fun t => Try.prog.readableRec t && Nat.blt t Try.prog.types.size) = true := by kernel_rfl
theorem readable_of {l : List TypeId} (hl : l.all (fun t => [3, 4, 22, 24, 52, 92, 94].contains t) = true) : ∀ t ∈ l, Try.prog.readableRec t = true ∧ t < Try.prog.types.size := fun t ht => by
  have h1 := List.all_eq_true.1 hl t ht
  have h2 := List.all_eq_true.1 readableAll t (by simpa using h1)
  simp only [Bool.and_eq_true, Nat.blt_eq] at h2
  exact h2
end Go.Proofs.Ytbolefkhmfbnlaa
