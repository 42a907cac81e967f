/-
  ROWS, chapter 50: the arguments, opened.
-/
import Derived.Test.YtomlpofoaokmdaaTab
import Derived.Test.YtomlpofoaokmdaaEng10
import Derived.ProofKit
set_option linter.unusedVariables false
set_option maxRecDepth 100000
namespace Go.Proofs.Ytomlpofoaokmdaa
open Go.ChangeShapes Go.WideShapes Go.ChangeAt Go.RowKit Go.E

theorem Try.own : ownKnob Try.prog.godebug = none := by kernel_rfl
theorem Try.laidOut : laidOutB Try.prog = true := by kernel_rfl
theorem wf_u64 {n : Int} (h : (Lit.int .u64 n).wf = true) : 0 ≤ n ∧ n < 18446744073709551616 := by
  simp only [Lit.wf, Bool.and_eq_true, decide_eq_true_eq] at h
  have h1 : IntKind.u64.min = 0 := by rfl
  have h2 : IntKind.u64.max = 18446744073709551615 := by rfl
  omega
theorem wf_u8 {n : Int} (h : (Lit.int .u8 n).wf = true) : 0 ≤ n ∧ n < 256 := by
  simp only [Lit.wf, Bool.and_eq_true, decide_eq_true_eq] at h
  have h1 : IntKind.u8.min = 0 := by rfl
  have h2 : IntKind.u8.max = 255 := by rfl
  omega
theorem wf_i16 {n : Int} (h : (Lit.int .i16 n).wf = true) : -32768 ≤ n ∧ n < 32768 := by
  simp only [Lit.wf, Bool.and_eq_true, decide_eq_true_eq] at h
  have h1 : IntKind.i16.min = -32768 := by rfl
  have h2 : IntKind.i16.max = 32767 := by rfl
  omega
theorem wf_i64 {n : Int} (h : (Lit.int .i64 n).wf = true) : -9223372036854775808 ≤ n ∧ n ≤ 9223372036854775807 := by
  simp only [Lit.wf, Bool.and_eq_true, decide_eq_true_eq] at h
  have h1 : IntKind.i64.min = -9223372036854775808 := by rfl
  have h2 : IntKind.i64.max = 9223372036854775807 := by rfl
  omega
theorem agg_to {v : Value} {l : List Value} (h : v.cells.toList = l) (hl : l.length ≠ 1) : v = .agg l.toArray := by
  subst h
  cases v <;> simp [Value.cells] at hl ⊢
theorem cells3 : Try.prog.cellsOf 3 = 1 := by kernel_rfl
theorem op3 {H : Type} {enc : TypeId × Value → H} {W : World} {sp : Nat → Bool} {cs : List Value} (h : Se enc Try.prog W sp 3 cs) :
    ∃ (n0 : Int), cs = [.int .i64 n0] ∧ (Lit.int .i64 n0).wf = true := by
  obtain ⟨n0, rfl, w0⟩ := h.int Try.underlying3
  exact ⟨n0, rfl, w0⟩
def Pr3 (x : Int) : Prop := (Lit.int .i64 x).wf = true
theorem cells23 : Try.prog.cellsOf 23 = 1 := by kernel_rfl
theorem op23 {H : Type} {enc : TypeId × Value → H} {W : World} {sp : Nat → Bool} {cs : List Value} (h : Se enc Try.prog W sp 23 cs) :
    ∃ (a0 : Option Addr) (q0 : Nat) (c0 : Nat) (xs0 : List Int), cs = [.slice a0 q0 c0] ∧ SlR (FE (I1 .i64)) 1 (mW W) (.slice a0 q0 c0) xs0 ∧ (∀ x ∈ xs0, Pr3 x) := by
  obtain ⟨a0, q0, c0, xs0, e0, hs0, px0⟩ := h.slice (El := (FE (I1 .i64))) (k := 1) (Pr := Pr3) Try.underlying23 cells3 (by decide) (fun cs' h' _ => by
    obtain ⟨n0, rfl, w0⟩ := op3 h'
    exact ⟨n0, rfl, w0⟩)
  exact ⟨a0, q0, c0, xs0, e0, hs0, px0⟩
def Pr23 (x : List Int) : Prop := (∀ y ∈ x, Pr3 y)
theorem cells22 : Try.prog.cellsOf 22 = 1 := by kernel_rfl
theorem op22 {H : Type} {enc : TypeId × Value → H} {W : World} {sp : Nat → Bool} {cs : List Value} (h : Se enc Try.prog W sp 22 cs) :
    ∃ (a0 : Option Addr) (q0 : Nat) (c0 : Nat) (xs0 : List (List Int)), cs = [.slice a0 q0 c0] ∧ SlR (RowE (FE (I1 .i64)) 1) 1 (mW W) (.slice a0 q0 c0) xs0 ∧ (∀ x ∈ xs0, Pr23 x) := by
  obtain ⟨a0, q0, c0, xs0, e0, hs0, px0⟩ := h.slice (El := (RowE (FE (I1 .i64)) 1)) (k := 1) (Pr := Pr23) Try.underlying22 cells23 (by decide) (fun cs' h' _ => by
    obtain ⟨a0, q0, c0, xs0, rfl, hs0, px0⟩ := op23 h'
    exact ⟨xs0, ⟨_, rfl, hs0⟩, px0⟩)
  exact ⟨a0, q0, c0, xs0, e0, hs0, px0⟩
theorem readableAll : ([3, 4, 22, 23] : List TypeId).all (fun t => Try.prog.readableRec t && Nat.blt t Try.prog.types.size) = true := by kernel_rfl
theorem readable_of {l : List TypeId} (hl : l.all (fun t => [3, 4, 22, 23].contains t) = true) : ∀ t ∈ l, Try.prog.readableRec t = true ∧ t < Try.prog.types.size := fun t ht => by
  have h1 := List.all_eq_true.1 hl t ht
  have h2 := List.all_eq_true.1 readableAll t (by simpa using h1)
  simp only [Bool.and_eq_true, Nat.blt_eq] at h2
  exact h2
end Go.Proofs.Ytomlpofoaokmdaa
