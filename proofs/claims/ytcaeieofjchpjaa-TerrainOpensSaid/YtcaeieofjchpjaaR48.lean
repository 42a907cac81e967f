/-
  ROWS, chapter 48: the arguments, opened.
-/
import Derived.Test.YtcaeieofjchpjaaTab
import Derived.Test.YtcaeieofjchpjaaEng10
import Derived.ProofKit
set_option linter.unusedVariables false
set_option maxRecDepth 100000
namespace Go.Proofs.Ytcaeieofjchpjaa
open Go.ChangeShapes Go.WideShapes Go.ChangeAt Go.RowKit Go.E

theorem Try.own : ownKnob Try.prog.godebug = none := by kernel_rfl
theorem Try.laidOut : laidOutB Try.prog = true := by kernel_rfl
theorem wf_u64 {n : Int} (h : (Lit.int .u64 n).wf = true) : 0 ≤ n ∧ n < 18446744073709551616 := by
  simp only [Lit.wf, Bool.and_eq_true, decide_eq_true_eq] at h
  have h1 : IntKind.u64.min = 0 := by rfl
  have h2 : IntKind.u64.max = 18446744073709551615 := by rfl
  omega
theorem wf_u8 {n : Int} (h : (Lit.int .u8 n).wf = true) : 0 ≤ n ∧ n < 256 := by
  simp only [Lit.wf, Bool.and_eq_true, decide_eq_true_eq] at h
  have h1 : IntKind.u8.min = 0 := by rfl
  have h2 : IntKind.u8.max = 255 := by rfl
  omega
theorem wf_i16 {n : Int} (h : (Lit.int .i16 n).wf = true) : -32768 ≤ n ∧ n < 32768 := by
  simp only [Lit.wf, Bool.and_eq_true, decide_eq_true_eq] at h
  have h1 : IntKind.i16.min = -32768 := by rfl
  have h2 : IntKind.i16.max = 32767 := by rfl
  omega
theorem wf_i64 {n : Int} (h : (Lit.int .i64 n).wf = true) : -9223372036854775808 ≤ n ∧ n ≤ 9223372036854775807 := by
  simp only [Lit.wf, Bool.and_eq_true, decide_eq_true_eq] at h
  have h1 : IntKind.i64.min = -9223372036854775808 := by rfl
  have h2 : IntKind.i64.max = 9223372036854775807 := by rfl
  omega
theorem agg_to {v : Value} {l : List Value} (h : v.cells.toList = l) (hl : l.length ≠ 1) : v = .agg l.toArray := by
  subst h
  cases v <;> simp [Value.cells] at hl ⊢
theorem cells3 : Try.prog.cellsOf 3 = 1 := by kernel_rfl
theorem op3 {H : Type} {enc : TypeId × Value → H} {W : World} {sp : Nat → Bool} {cs : List Value} (h : Se enc Try.prog W sp 3 cs) :
    ∃ (n0 : Int), cs = [.int .i64 n0] ∧ (Lit.int .i64 n0).wf = true := by
  obtain ⟨n0, rfl, w0⟩ := h.int Try.underlying3
  exact ⟨n0, rfl, w0⟩
theorem cells60 : Try.prog.cellsOf 60 = 3 := by kernel_rfl
theorem op60 {H : Type} {enc : TypeId × Value → H} {W : World} {sp : Nat → Bool} {cs : List Value} (h : Se enc Try.prog W sp 60 cs) :
    ∃ (n0 : Int) (n1 : Int) (n2 : Int), cs = [.int .i64 n0, .int .i64 n1, .int .i64 n2] ∧ (Lit.int .i64 n0).wf = true ∧ (Lit.int .i64 n1).wf = true ∧ (Lit.int .i64 n2).wf = true := by
  obtain ⟨hl, hf⟩ := h.struct Try.underlying60
  rw [cells60] at hl
  match cs, hl with
  | [c_0, c_1, c_2], _ =>
    have f0 := hf _ (List.mem_cons_self ..)
    simp only [cells3] at f0
    have g0 : Se enc Try.prog W sp 3 [c_0] := f0
    obtain ⟨nf0_0, e0, wf0_0⟩ := op3 g0
    have f1 := hf _ (List.mem_cons_of_mem _ (List.mem_cons_self ..))
    simp only [cells3] at f1
    have g1 : Se enc Try.prog W sp 3 [c_1] := f1
    obtain ⟨nf1_0, e1, wf1_0⟩ := op3 g1
    have f2 := hf _ (List.mem_cons_of_mem _ (List.mem_cons_of_mem _ (List.mem_cons_self ..)))
    simp only [cells3] at f2
    have g2 : Se enc Try.prog W sp 3 [c_2] := f2
    obtain ⟨nf2_0, e2, wf2_0⟩ := op3 g2
    cases e0
    cases e1
    cases e2
    exact ⟨nf0_0, nf1_0, nf2_0, rfl, wf0_0, wf1_0, wf2_0⟩
def Pr60 (x : Int × Int × Int) : Prop := (Lit.int .i64 x.1).wf = true ∧ (Lit.int .i64 x.2.1).wf = true ∧ (Lit.int .i64 x.2.2).wf = true
theorem cells22 : Try.prog.cellsOf 22 = 1 := by kernel_rfl
theorem op22 {H : Type} {enc : TypeId × Value → H} {W : World} {sp : Nat → Bool} {cs : List Value} (h : Se enc Try.prog W sp 22 cs) :
    ∃ (a0 : Option Addr) (q0 : Nat) (c0 : Nat) (xs0 : List (Int × Int × Int)), cs = [.slice a0 q0 c0] ∧ SlR (FE T3) 3 (mW W) (.slice a0 q0 c0) xs0 ∧ (∀ x ∈ xs0, Pr60 x) := by
  obtain ⟨a0, q0, c0, xs0, e0, hs0, px0⟩ := h.slice (El := (FE T3)) (k := 3) (Pr := Pr60) Try.underlying22 cells60 (by decide) (fun cs' h' _ => by
    obtain ⟨n0, n1, n2, rfl, w0, w1, w2⟩ := op60 h'
    exact ⟨(n0, n1, n2), rfl, ⟨w0, w1, w2⟩⟩)
  exact ⟨a0, q0, c0, xs0, e0, hs0, px0⟩
def Pr3 (x : Int) : Prop := (Lit.int .i64 x).wf = true
theorem cells23 : Try.prog.cellsOf 23 = 1 := by kernel_rfl
theorem op23 {H : Type} {enc : TypeId × Value → H} {W : World} {sp : Nat → Bool} {cs : List Value} (h : Se enc Try.prog W sp 23 cs) :
    ∃ (a0 : Option Addr) (q0 : Nat) (c0 : Nat) (xs0 : List Int), cs = [.slice a0 q0 c0] ∧ SlR (FE (I1 .i64)) 1 (mW W) (.slice a0 q0 c0) xs0 ∧ (∀ x ∈ xs0, Pr3 x) := by
  obtain ⟨a0, q0, c0, xs0, e0, hs0, px0⟩ := h.slice (El := (FE (I1 .i64))) (k := 1) (Pr := Pr3) Try.underlying23 cells3 (by decide) (fun cs' h' _ => by
    obtain ⟨n0, rfl, w0⟩ := op3 h'
    exact ⟨n0, rfl, w0⟩)
  exact ⟨a0, q0, c0, xs0, e0, hs0, px0⟩
theorem cells25 : Try.prog.cellsOf 25 = 6 := by kernel_rfl
theorem op25 {H : Type} {enc : TypeId × Value → H} {W : World} {sp : Nat → Bool} {cs : List Value} (h : Se enc Try.prog W sp 25 cs) :
    ∃ (n0 : Int) (n1 : Int) (n2 : Int) (n3 : Int) (n4 : Int) (a5 : Option Addr) (q5 : Nat) (c5 : Nat) (xs5 : List Int), cs = [.int .i64 n0, .int .i64 n1, .int .i64 n2, .int .i64 n3, .int .i64 n4, .slice a5 q5 c5] ∧ (Lit.int .i64 n0).wf = true ∧ (Lit.int .i64 n1).wf = true ∧ (Lit.int .i64 n2).wf = true ∧ (Lit.int .i64 n3).wf = true ∧ (Lit.int .i64 n4).wf = true ∧ SlR (FE (I1 .i64)) 1 (mW W) (.slice a5 q5 c5) xs5 ∧ (∀ x ∈ xs5, Pr3 x) := by
  obtain ⟨hl, hf⟩ := h.struct Try.underlying25
  rw [cells25] at hl
  match cs, hl with
  | [c_0, c_1, c_2, c_3, c_4, c_5], _ =>
    have f0 := hf _ (List.mem_cons_self ..)
    simp only [cells3] at f0
    have g0 : Se enc Try.prog W sp 3 [c_0] := f0
    obtain ⟨nf0_0, e0, wf0_0⟩ := op3 g0
    have f1 := hf _ (List.mem_cons_of_mem _ (List.mem_cons_self ..))
    simp only [cells3] at f1
    have g1 : Se enc Try.prog W sp 3 [c_1] := f1
    obtain ⟨nf1_0, e1, wf1_0⟩ := op3 g1
    have f2 := hf _ (List.mem_cons_of_mem _ (List.mem_cons_of_mem _ (List.mem_cons_self ..)))
    simp only [cells3] at f2
    have g2 : Se enc Try.prog W sp 3 [c_2] := f2
    obtain ⟨nf2_0, e2, wf2_0⟩ := op3 g2
    have f3 := hf _ (List.mem_cons_of_mem _ (List.mem_cons_of_mem _ (List.mem_cons_of_mem _ (List.mem_cons_self ..))))
    simp only [cells3] at f3
    have g3 : Se enc Try.prog W sp 3 [c_3] := f3
    obtain ⟨nf3_0, e3, wf3_0⟩ := op3 g3
    have f4 := hf _ (List.mem_cons_of_mem _ (List.mem_cons_of_mem _ (List.mem_cons_of_mem _ (List.mem_cons_of_mem _ (List.mem_cons_self ..)))))
    simp only [cells3] at f4
    have g4 : Se enc Try.prog W sp 3 [c_4] := f4
    obtain ⟨nf4_0, e4, wf4_0⟩ := op3 g4
    have f5 := hf _ (List.mem_cons_of_mem _ (List.mem_cons_of_mem _ (List.mem_cons_of_mem _ (List.mem_cons_of_mem _ (List.mem_cons_of_mem _ (List.mem_cons_self ..))))))
    simp only [cells23] at f5
    have g5 : Se enc Try.prog W sp 23 [c_5] := f5
    obtain ⟨af5_0, qf5_0, cf5_0, xsf5_0, e5, hsf5_0, pxf5_0⟩ := op23 g5
    cases e0
    cases e1
    cases e2
    cases e3
    cases e4
    cases e5
    exact ⟨nf0_0, nf1_0, nf2_0, nf3_0, nf4_0, af5_0, qf5_0, cf5_0, xsf5_0, rfl, wf0_0, wf1_0, wf2_0, wf3_0, wf4_0, hsf5_0, pxf5_0⟩
theorem cells5 : Try.prog.cellsOf 5 = 1 := by kernel_rfl
theorem op5 {H : Type} {enc : TypeId × Value → H} {W : World} {sp : Nat → Bool} {cs : List Value} (h : Se enc Try.prog W sp 5 cs) :
    ∃ (n0 : Int), cs = [.int .u8 n0] ∧ (Lit.int .u8 n0).wf = true := by
  obtain ⟨n0, rfl, w0⟩ := h.int Try.underlying5
  exact ⟨n0, rfl, w0⟩
theorem cells40 : Try.prog.cellsOf 40 = 6 := by kernel_rfl
theorem op40 {H : Type} {enc : TypeId × Value → H} {W : World} {sp : Nat → Bool} {cs : List Value} (h : Se enc Try.prog W sp 40 cs) :
    ∃ (n0 : Int) (n1 : Int) (n2 : Int) (n3 : Int) (n4 : Int) (n5 : Int), cs = [.int .u8 n0, .int .u8 n1, .int .u8 n2, .int .u8 n3, .int .u8 n4, .int .u8 n5] ∧ (Lit.int .u8 n0).wf = true ∧ (Lit.int .u8 n1).wf = true ∧ (Lit.int .u8 n2).wf = true ∧ (Lit.int .u8 n3).wf = true ∧ (Lit.int .u8 n4).wf = true ∧ (Lit.int .u8 n5).wf = true := by
  obtain ⟨hl, hf⟩ := h.struct Try.underlying40
  rw [cells40] at hl
  match cs, hl with
  | [c_0, c_1, c_2, c_3, c_4, c_5], _ =>
    have f0 := hf _ (List.mem_cons_self ..)
    simp only [cells5] at f0
    have g0 : Se enc Try.prog W sp 5 [c_0] := f0
    obtain ⟨nf0_0, e0, wf0_0⟩ := op5 g0
    have f1 := hf _ (List.mem_cons_of_mem _ (List.mem_cons_self ..))
    simp only [cells5] at f1
    have g1 : Se enc Try.prog W sp 5 [c_1] := f1
    obtain ⟨nf1_0, e1, wf1_0⟩ := op5 g1
    have f2 := hf _ (List.mem_cons_of_mem _ (List.mem_cons_of_mem _ (List.mem_cons_self ..)))
    simp only [cells5] at f2
    have g2 : Se enc Try.prog W sp 5 [c_2] := f2
    obtain ⟨nf2_0, e2, wf2_0⟩ := op5 g2
    have f3 := hf _ (List.mem_cons_of_mem _ (List.mem_cons_of_mem _ (List.mem_cons_of_mem _ (List.mem_cons_self ..))))
    simp only [cells5] at f3
    have g3 : Se enc Try.prog W sp 5 [c_3] := f3
    obtain ⟨nf3_0, e3, wf3_0⟩ := op5 g3
    have f4 := hf _ (List.mem_cons_of_mem _ (List.mem_cons_of_mem _ (List.mem_cons_of_mem _ (List.mem_cons_of_mem _ (List.mem_cons_self ..)))))
    simp only [cells5] at f4
    have g4 : Se enc Try.prog W sp 5 [c_4] := f4
    obtain ⟨nf4_0, e4, wf4_0⟩ := op5 g4
    have f5 := hf _ (List.mem_cons_of_mem _ (List.mem_cons_of_mem _ (List.mem_cons_of_mem _ (List.mem_cons_of_mem _ (List.mem_cons_of_mem _ (List.mem_cons_self ..))))))
    simp only [cells5] at f5
    have g5 : Se enc Try.prog W sp 5 [c_5] := f5
    obtain ⟨nf5_0, e5, wf5_0⟩ := op5 g5
    cases e0
    cases e1
    cases e2
    cases e3
    cases e4
    cases e5
    exact ⟨nf0_0, nf1_0, nf2_0, nf3_0, nf4_0, nf5_0, rfl, wf0_0, wf1_0, wf2_0, wf3_0, wf4_0, wf5_0⟩
theorem cells41 : Try.prog.cellsOf 41 = 1 := by kernel_rfl
theorem op41 {H : Type} {enc : TypeId × Value → H} {W : World} {sp : Nat → Bool} {cs : List Value} (h : Se enc Try.prog W sp 41 cs) :
    ∃ (n0 : Int), cs = [.int .i16 n0] ∧ (Lit.int .i16 n0).wf = true := by
  obtain ⟨n0, rfl, w0⟩ := h.int Try.underlying41
  exact ⟨n0, rfl, w0⟩
def Pr5 (x : Int) : Prop := (Lit.int .u8 x).wf = true
theorem cells52 : Try.prog.cellsOf 52 = 1 := by kernel_rfl
theorem op52 {H : Type} {enc : TypeId × Value → H} {W : World} {sp : Nat → Bool} {cs : List Value} (h : Se enc Try.prog W sp 52 cs) :
    ∃ (a0 : Option Addr) (q0 : Nat) (c0 : Nat) (xs0 : List Int), cs = [.slice a0 q0 c0] ∧ SlR (FE (I1 .u8)) 1 (mW W) (.slice a0 q0 c0) xs0 ∧ (∀ x ∈ xs0, Pr5 x) := by
  obtain ⟨a0, q0, c0, xs0, e0, hs0, px0⟩ := h.slice (El := (FE (I1 .u8))) (k := 1) (Pr := Pr5) Try.underlying52 cells5 (by decide) (fun cs' h' _ => by
    obtain ⟨n0, rfl, w0⟩ := op5 h'
    exact ⟨n0, rfl, w0⟩)
  exact ⟨a0, q0, c0, xs0, e0, hs0, px0⟩
theorem cells4 : Try.prog.cellsOf 4 = 1 := by kernel_rfl
theorem op4 {H : Type} {enc : TypeId × Value → H} {W : World} {sp : Nat → Bool} {cs : List Value} (h : Se enc Try.prog W sp 4 cs) :
    ∃ (b0 : Bool), cs = [.bool b0] ∧ True := by
  obtain ⟨b0, rfl⟩ := h.bool Try.underlying4
  exact ⟨b0, rfl, trivial⟩
def Pr4 (x : Bool) : Prop := True
theorem cells34 : Try.prog.cellsOf 34 = 1 := by kernel_rfl
theorem op34 {H : Type} {enc : TypeId × Value → H} {W : World} {sp : Nat → Bool} {cs : List Value} (h : Se enc Try.prog W sp 34 cs) :
    ∃ (a0 : Option Addr) (q0 : Nat) (c0 : Nat) (xs0 : List Bool), cs = [.slice a0 q0 c0] ∧ SlR (FE B1) 1 (mW W) (.slice a0 q0 c0) xs0 ∧ (∀ x ∈ xs0, Pr4 x) := by
  obtain ⟨a0, q0, c0, xs0, e0, hs0, px0⟩ := h.slice (El := (FE B1)) (k := 1) (Pr := Pr4) Try.underlying34 cells4 (by decide) (fun cs' h' _ => by
    obtain ⟨b0, rfl, w0⟩ := op4 h'
    exact ⟨b0, rfl, w0⟩)
  exact ⟨a0, q0, c0, xs0, e0, hs0, px0⟩
theorem readableAll : ([3, 4, 5, 22, 23, 25, 34, 40, 41, 52, 60] : List TypeId).all (fun t => Try.prog.readableRec t && Nat.blt t Try.prog.types.size) = true := by kernel_rfl
theorem readable_of {l : List TypeId} (hl : l.all (fun t => [3, 4, 5, 22, 23, 25, 34, 40, 41, 52, 60].contains t) = true) : ∀ t ∈ l, Try.prog.readableRec t = true ∧ t < Try.prog.types.size := fun t ht => by
  have h1 := List.all_eq_true.1 hl t ht
  have h2 := List.all_eq_true.1 readableAll t (by simpa using h1)
  simp only [Bool.and_eq_true, Nat.blt_eq] at h2
  exact h2
end Go.Proofs.Ytcaeieofjchpjaa
