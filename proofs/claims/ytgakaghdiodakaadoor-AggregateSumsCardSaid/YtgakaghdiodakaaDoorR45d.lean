/-
  ROWS, chapter 45d: the arguments, opened.
-/
import Derived.Test.YtgakaghdiodakaaDoorTab
import Derived.Test.YtgakaghdiodakaaDoorEng10
import Derived.ProofKit
import Derived.LaidLaws
import Derived.JoinedOf
import Derived.Handed
set_option linter.unusedVariables false
set_option maxRecDepth 100000
namespace Go.Proofs.YtgakaghdiodakaaDoor
open Go.ChangeShapes Go.WideShapes Go.ChangeAt Go.RowKit Go.E

theorem Tryd.own : ownKnob Tryd.prog.godebug = none := by kernel_rfl
theorem Tryd.laidOut : laidOutB Tryd.prog = true := by kernel_rfl
theorem wf_u64 {n : Int} (h : (Lit.int .u64 n).wf = true) : 0 ≤ n ∧ n < 18446744073709551616 := by
  simp only [Lit.wf, Bool.and_eq_true, decide_eq_true_eq] at h
  have h1 : IntKind.u64.min = 0 := by rfl
  have h2 : IntKind.u64.max = 18446744073709551615 := by rfl
  omega
theorem wf_u8 {n : Int} (h : (Lit.int .u8 n).wf = true) : 0 ≤ n ∧ n < 256 := by
  simp only [Lit.wf, Bool.and_eq_true, decide_eq_true_eq] at h
  have h1 : IntKind.u8.min = 0 := by rfl
  have h2 : IntKind.u8.max = 255 := by rfl
  omega
theorem wf_i16 {n : Int} (h : (Lit.int .i16 n).wf = true) : -32768 ≤ n ∧ n < 32768 := by
  simp only [Lit.wf, Bool.and_eq_true, decide_eq_true_eq] at h
  have h1 : IntKind.i16.min = -32768 := by rfl
  have h2 : IntKind.i16.max = 32767 := by rfl
  omega
theorem wf_i64 {n : Int} (h : (Lit.int .i64 n).wf = true) : -9223372036854775808 ≤ n ∧ n ≤ 9223372036854775807 := by
  simp only [Lit.wf, Bool.and_eq_true, decide_eq_true_eq] at h
  have h1 : IntKind.i64.min = -9223372036854775808 := by rfl
  have h2 : IntKind.i64.max = 9223372036854775807 := by rfl
  omega
theorem agg_to {v : Value} {l : List Value} (h : v.cells.toList = l) (hl : l.length ≠ 1) : v = .agg l.toArray := by
  subst h
  cases v <;> simp [Value.cells] at hl ⊢
theorem cells3 : Tryd.prog.cellsOf 3 = 1 := by kernel_rfl
theorem op3 {H : Type} {enc : TypeId × Value → H} {W : World} {sp : Nat → Bool} {cs : List Value} (h : Se enc Tryd.prog W sp 3 cs) :
    ∃ (n0 : Int), cs = [.int .i64 n0] ∧ (Lit.int .i64 n0).wf = true := by
  obtain ⟨n0, rfl, w0⟩ := h.int Tryd.underlying3
  exact ⟨n0, rfl, w0⟩
def Pr3 (x : Int) : Prop := (Lit.int .i64 x).wf = true
theorem cells22 : Tryd.prog.cellsOf 22 = 1 := by kernel_rfl
theorem op22 {H : Type} {enc : TypeId × Value → H} {W : World} {sp : Nat → Bool} {cs : List Value} (h : Se enc Tryd.prog W sp 22 cs) :
    ∃ (a0 : Option Addr) (q0 : Nat) (c0 : Nat) (xs0 : List Int), cs = [.slice a0 q0 c0] ∧ SlR (FE (I1 .i64)) 1 (mW W) (.slice a0 q0 c0) xs0 ∧ (∀ x ∈ xs0, Pr3 x) := by
  obtain ⟨a0, q0, c0, xs0, e0, hs0, px0⟩ := h.slice (El := (FE (I1 .i64))) (k := 1) (Pr := Pr3) Tryd.underlying22 cells3 (by decide) (fun cs' h' _ => by
    obtain ⟨n0, rfl, w0⟩ := op3 h'
    exact ⟨n0, rfl, w0⟩)
  exact ⟨a0, q0, c0, xs0, e0, hs0, px0⟩
theorem cells24 : Tryd.prog.cellsOf 24 = 4 := by kernel_rfl
theorem op24 {H : Type} {enc : TypeId × Value → H} {W : World} {sp : Nat → Bool} {cs : List Value} (h : Se enc Tryd.prog W sp 24 cs) :
    ∃ (n0 : Int) (n1 : Int) (n2 : Int) (a3 : Option Addr) (q3 : Nat) (c3 : Nat) (xs3 : List Int), cs = [.int .i64 n0, .int .i64 n1, .int .i64 n2, .slice a3 q3 c3] ∧ (Lit.int .i64 n0).wf = true ∧ (Lit.int .i64 n1).wf = true ∧ (Lit.int .i64 n2).wf = true ∧ SlR (FE (I1 .i64)) 1 (mW W) (.slice a3 q3 c3) xs3 ∧ (∀ x ∈ xs3, Pr3 x) := by
  obtain ⟨hl, hf⟩ := h.struct Tryd.underlying24
  rw [cells24] at hl
  match cs, hl with
  | [c_0, c_1, c_2, c_3], _ =>
    have f0 := hf _ (List.mem_cons_self ..)
    simp only [cells3] at f0
    have g0 : Se enc Tryd.prog W sp 3 [c_0] := f0
    obtain ⟨nf0_0, e0, wf0_0⟩ := op3 g0
    have f1 := hf _ (List.mem_cons_of_mem _ (List.mem_cons_self ..))
    simp only [cells3] at f1
    have g1 : Se enc Tryd.prog W sp 3 [c_1] := f1
    obtain ⟨nf1_0, e1, wf1_0⟩ := op3 g1
    have f2 := hf _ (List.mem_cons_of_mem _ (List.mem_cons_of_mem _ (List.mem_cons_self ..)))
    simp only [cells3] at f2
    have g2 : Se enc Tryd.prog W sp 3 [c_2] := f2
    obtain ⟨nf2_0, e2, wf2_0⟩ := op3 g2
    have f3 := hf _ (List.mem_cons_of_mem _ (List.mem_cons_of_mem _ (List.mem_cons_of_mem _ (List.mem_cons_self ..))))
    simp only [cells22] at f3
    have g3 : Se enc Tryd.prog W sp 22 [c_3] := f3
    obtain ⟨af3_0, qf3_0, cf3_0, xsf3_0, e3, hsf3_0, pxf3_0⟩ := op22 g3
    cases e0
    cases e1
    cases e2
    cases e3
    exact ⟨nf0_0, nf1_0, nf2_0, af3_0, qf3_0, cf3_0, xsf3_0, rfl, wf0_0, wf1_0, wf2_0, hsf3_0, pxf3_0⟩
theorem cells25 : Tryd.prog.cellsOf 25 = 2 := by kernel_rfl
theorem op25 {H : Type} {enc : TypeId × Value → H} {W : World} {sp : Nat → Bool} {cs : List Value} (h : Se enc Tryd.prog W sp 25 cs) :
    ∃ (n0 : Int) (n1 : Int), cs = [.int .i64 n0, .int .i64 n1] ∧ (Lit.int .i64 n0).wf = true ∧ (Lit.int .i64 n1).wf = true := by
  obtain ⟨hl, hf⟩ := h.array Tryd.underlying25
  rw [cells25] at hl
  match cs, hl with
  | [c_0, c_1], _ =>
    have f0 := hf 0 (by decide)
    simp only [cells3] at f0
    have g0 : Se enc Tryd.prog W sp 3 [c_0] := f0
    obtain ⟨nf0_0, e0, wf0_0⟩ := op3 g0
    have f1 := hf 1 (by decide)
    simp only [cells3] at f1
    have g1 : Se enc Tryd.prog W sp 3 [c_1] := f1
    obtain ⟨nf1_0, e1, wf1_0⟩ := op3 g1
    cases e0
    cases e1
    exact ⟨nf0_0, nf1_0, rfl, wf0_0, wf1_0⟩
theorem readableAll : ([3, 4, 22, 24, 25] : List TypeId).all (fun t => Tryd.prog.readableRec t && Nat.blt t Tryd.prog.types.size) = true := by kernel_rfl
theorem readable_of {l : List TypeId} (hl : l.all (fun t => [3, 4, 22, 24, 25].contains t) = true) : ∀ t ∈ l, Tryd.prog.readableRec t = true ∧ t < Tryd.prog.types.size := fun t ht => by
  have h1 := List.all_eq_true.1 hl t ht
  have h2 := List.all_eq_true.1 readableAll t (by simpa using h1)
  simp only [Bool.and_eq_true, Nat.blt_eq] at h2
  exact h2

/-! ### The listed variable -/

theorem Tryd.g0 : Tryd.prog.globalNamed "fiducial/aggregate.steps" = some 0 := by kernel_rfl
theorem Tryd.g0Type : (Tryd.prog.globals[0]?).map (·.type) = some 62 := by kernel_rfl
theorem lcells25 : Tryd.prog.cellsOf 25 = 2 := by kernel_rfl
theorem lcells62 : Tryd.prog.cellsOf 62 = 16 := by kernel_rfl
theorem lcells3 : Tryd.prog.cellsOf 3 = 1 := by kernel_rfl

noncomputable def laidWorld (os : Os) : World :=
  { World.holding Tryd.prog os ⟨#[], #[], []⟩ with heap := (World.holding Tryd.prog os ⟨#[], #[], []⟩).heap.modify 0 fun
      | .cells _ t frozen => .cells #[.int .i64 1, .int .i64 0, .int .i64 (-1), .int .i64 0, .int .i64 0, .int .i64 1, .int .i64 0, .int .i64 (-1), .int .i64 1, .int .i64 1, .int .i64 (-1), .int .i64 (-1), .int .i64 1, .int .i64 (-1), .int .i64 (-1), .int .i64 1] t frozen
      | o => o }
theorem laid_met (os : Os) (args : Array Value) : laidMet Tryd.prog Rows.aggregatePathsRow.laid ((laidWorld os).forCall (fun _ _ => 0) ⟨#[], args, []⟩).memory :=
  laidMet_of_run' 8 (by kernel_rfl) (by kernel_rfl)

theorem mapM_get {α β : Type} {f : α → Option β} : ∀ {l : List α} {r : List β}, l.mapM f = some r → ∀ (i : Nat) a, l[i]? = some a → ∃ b, r[i]? = some b ∧ f a = some b
  | [], _, _, i, a, ha => by simp at ha
  | x :: l, r, h, i, a, ha => by
    simp only [List.mapM_cons, Option.bind_eq_bind, Option.bind_eq_some_iff] at h
    obtain ⟨b, hb, bs, hbs, hr⟩ := h
    obtain rfl := Option.some.inj hr
    cases i with
    | zero =>
      simp only [List.getElem?_cons_zero, Option.some.injEq] at ha
      subst ha
      exact ⟨b, rfl, hb⟩
    | succ i =>
      simp only [List.getElem?_cons_succ] at ha ⊢
      exact mapM_get hbs i a ha
theorem trod_arr {H : Type} {enc : TypeId × Value → H} {P : Program} {W : World} {base : Nat} {sp : Nat → Bool} {held : Bool} {fuel q : Nat} {t e : TypeId} {cs : List Value} {x : DataW H × List MemPlace} (ht : P.underlying t = some (.array q e)) (h : DataW.trod enc P W base sp held fuel t cs = some x) :
    cs.length = P.cellsOf t ∧ ∃ xs : List (DataW H × List MemPlace), x.1 = .agg (xs.map (·.1)) ∧ ∀ i, i < q → ∃ f' y, xs[i]? = some y ∧ DataW.trod enc P W base sp held f' e ((cs.drop (i * P.cellsOf e)).take (P.cellsOf e)) = some y := by
  cases fuel with
  | zero => simp [DataW.trod] at h
  | succ n =>
    unfold DataW.trod at h
    rw [ht] at h
    simp only at h
    split at h
    · rename_i hl
      obtain ⟨xs, hxs, hx⟩ := Option.map_eq_some_iff.1 h
      refine ⟨hl, xs, by rw [← hx], fun i hi => ?_⟩
      obtain ⟨b, hb1, hb2⟩ := mapM_get hxs i i (by simp [hi])
      exact ⟨n, b, hb1, hb2⟩
    · cases h
theorem int_of {H : Type} {enc : TypeId × Value → H} {W : World} {base : Nat} {sp : Nat → Bool} {held : Bool} {fuel : Nat} {cs : List Value} {x : DataW H × List MemPlace} {a : Int} (h : DataW.trod enc Tryd.prog W base sp held fuel 3 cs = some x) (hx : x.1 = .lit (.int .i64 a)) : cs = [.int .i64 a] := by
  obtain ⟨n, h1, h2, _⟩ := DataW.trod_int Tryd.underlying3 h
  subst h2
  simp only [DataW.lit.injEq, Lit.int.injEq, true_and] at hx
  rw [h1, hx]
theorem pair_of {H : Type} {enc : TypeId × Value → H} {W : World} {base : Nat} {sp : Nat → Bool} {held : Bool} {fuel : Nat} {cs : List Value} {x : DataW H × List MemPlace} {a b : Int} (h : DataW.trod enc Tryd.prog W base sp held fuel 25 cs = some x) (hx : x.1 = .agg [.lit (.int .i64 a), .lit (.int .i64 b)]) : cs = [.int .i64 a, .int .i64 b] := by
  obtain ⟨hl, xs, h1, hf⟩ := trod_arr Tryd.underlying25 h
  rw [lcells25] at hl
  rw [h1] at hx
  have hm : xs.map (·.1) = [.lit (.int .i64 a), .lit (.int .i64 b)] := DataW.agg.inj hx
  have key : ∀ (i : Nat) y, xs[i]? = some y → ([.lit (.int .i64 a), .lit (.int .i64 b)] : List (DataW H))[i]? = some y.1 := fun i y hy => by rw [← hm, List.getElem?_map, hy]; rfl
  match cs, hl with
  | [c0, c1], _ =>
    obtain ⟨f0, y0, e0, g0⟩ := hf 0 (by decide)
    obtain ⟨f1, y1, e1, g1⟩ := hf 1 (by decide)
    simp only [lcells3] at g0 g1
    have k0 : [c0] = [.int .i64 a] := int_of (x := y0) g0 (Option.some.inj (key 0 y0 e0)).symm
    have k1 : [c1] = [.int .i64 b] := int_of (x := y1) g1 (Option.some.inj (key 1 y1 e1)).symm
    rw [(List.cons.inj k0).1, (List.cons.inj k1).1]
theorem steps_of_laid {W : World} (h : laidMet Tryd.prog Rows.aggregatePathsRow.laid W) : ∃ T fr, W.heap[0]? = some (.cells ([.int .i64 1, .int .i64 0, .int .i64 (-1), .int .i64 0, .int .i64 0, .int .i64 1, .int .i64 0, .int .i64 (-1), .int .i64 1, .int .i64 1, .int .i64 (-1), .int .i64 (-1), .int .i64 1, .int .i64 (-1), .int .i64 (-1), .int .i64 1] : List Value).toArray T fr) := by
  obtain ⟨ps, hv, _, _⟩ := h
  obtain ⟨g, t, cs, fuel, p, q, h1, h2, h3, h4, _, _⟩ := hv
  obtain rfl := Option.some.inj (Tryd.g0.symm.trans h1)
  obtain rfl := Option.some.inj (Tryd.g0Type.symm.trans h2)
  obtain ⟨hl, xs, hx, hf⟩ := trod_arr Tryd.underlying62 h4
  rw [lcells62] at hl
  have hm : xs.map (·.1) = [.agg [.lit (.int .i64 (1)), .lit (.int .i64 (0))], .agg [.lit (.int .i64 (-1)), .lit (.int .i64 (0))], .agg [.lit (.int .i64 (0)), .lit (.int .i64 (1))], .agg [.lit (.int .i64 (0)), .lit (.int .i64 (-1))], .agg [.lit (.int .i64 (1)), .lit (.int .i64 (1))], .agg [.lit (.int .i64 (-1)), .lit (.int .i64 (-1))], .agg [.lit (.int .i64 (1)), .lit (.int .i64 (-1))], .agg [.lit (.int .i64 (-1)), .lit (.int .i64 (1))]] := (DataW.agg.inj hx).symm
  have key : ∀ (i : Nat) y, xs[i]? = some y → ([.agg [.lit (.int .i64 (1)), .lit (.int .i64 (0))], .agg [.lit (.int .i64 (-1)), .lit (.int .i64 (0))], .agg [.lit (.int .i64 (0)), .lit (.int .i64 (1))], .agg [.lit (.int .i64 (0)), .lit (.int .i64 (-1))], .agg [.lit (.int .i64 (1)), .lit (.int .i64 (1))], .agg [.lit (.int .i64 (-1)), .lit (.int .i64 (-1))], .agg [.lit (.int .i64 (1)), .lit (.int .i64 (-1))], .agg [.lit (.int .i64 (-1)), .lit (.int .i64 (1))]] : List (DataW Unit))[i]? = some y.1 := fun i y hy => by rw [← hm, List.getElem?_map, hy]; rfl
  have hcs : cs.toList = [.int .i64 1, .int .i64 0, .int .i64 (-1), .int .i64 0, .int .i64 0, .int .i64 1, .int .i64 0, .int .i64 (-1), .int .i64 1, .int .i64 1, .int .i64 (-1), .int .i64 (-1), .int .i64 1, .int .i64 (-1), .int .i64 (-1), .int .i64 1] := by
    generalize cs.toList = l at hl hf
    match l, hl with
    | [c0, c1, c2, c3, c4, c5, c6, c7, c8, c9, c10, c11, c12, c13, c14, c15], _ =>
      obtain ⟨f0, y0, e0, g0⟩ := hf 0 (by decide)
      obtain ⟨f1, y1, e1, g1⟩ := hf 1 (by decide)
      obtain ⟨f2, y2, e2, g2⟩ := hf 2 (by decide)
      obtain ⟨f3, y3, e3, g3⟩ := hf 3 (by decide)
      obtain ⟨f4, y4, e4, g4⟩ := hf 4 (by decide)
      obtain ⟨f5, y5, e5, g5⟩ := hf 5 (by decide)
      obtain ⟨f6, y6, e6, g6⟩ := hf 6 (by decide)
      obtain ⟨f7, y7, e7, g7⟩ := hf 7 (by decide)
      simp only [lcells25] at g0 g1 g2 g3 g4 g5 g6 g7
      have k0 : [c0, c1] = [.int .i64 (1), .int .i64 (0)] := pair_of (x := y0) g0 (Option.some.inj (key 0 y0 e0)).symm
      cases k0
      have k1 : [c2, c3] = [.int .i64 (-1), .int .i64 (0)] := pair_of (x := y1) g1 (Option.some.inj (key 1 y1 e1)).symm
      cases k1
      have k2 : [c4, c5] = [.int .i64 (0), .int .i64 (1)] := pair_of (x := y2) g2 (Option.some.inj (key 2 y2 e2)).symm
      cases k2
      have k3 : [c6, c7] = [.int .i64 (0), .int .i64 (-1)] := pair_of (x := y3) g3 (Option.some.inj (key 3 y3 e3)).symm
      cases k3
      have k4 : [c8, c9] = [.int .i64 (1), .int .i64 (1)] := pair_of (x := y4) g4 (Option.some.inj (key 4 y4 e4)).symm
      cases k4
      have k5 : [c10, c11] = [.int .i64 (-1), .int .i64 (-1)] := pair_of (x := y5) g5 (Option.some.inj (key 5 y5 e5)).symm
      cases k5
      have k6 : [c12, c13] = [.int .i64 (1), .int .i64 (-1)] := pair_of (x := y6) g6 (Option.some.inj (key 6 y6 e6)).symm
      cases k6
      have k7 : [c14, c15] = [.int .i64 (-1), .int .i64 (1)] := pair_of (x := y7) g7 (Option.some.inj (key 7 y7 e7)).symm
      cases k7
      rfl
  have hc2 : cs = ([.int .i64 1, .int .i64 0, .int .i64 (-1), .int .i64 0, .int .i64 0, .int .i64 1, .int .i64 0, .int .i64 (-1), .int .i64 1, .int .i64 1, .int .i64 (-1), .int .i64 (-1), .int .i64 1, .int .i64 (-1), .int .i64 (-1), .int .i64 1] : List Value).toArray := by rw [← hcs]
  unfold World.var? at h3
  rw [Tryd.g0, Option.bind_some] at h3
  split at h3
  · rename_i c T fr hb
    obtain rfl := Option.some.inj h3
    exact ⟨T, fr, by rw [hb, hc2]⟩
  · cases h3
end Go.Proofs.YtgakaghdiodakaaDoor
