/-
  PLAIN: loops with fuel, numbers that stay in their range, elements.
-/
import Derived.Test.YtbolefkhmfbnlaaEng0
namespace Go.E

theorem loop_ex {S X : Type} {step : S → Option (Step S X)} (I : Nat → S → Prop) (Q : X → Prop) (n : Nat)
    (hs : ∀ i s, I i s → (∃ s', step s = some (.next s') ∧ I (i + 1) s' ∧ i < n) ∨ (∃ x, step s = some (.done x) ∧ Q x)) :
    ∀ (d i : Nat) (s : S) (f : Nat), n - i ≤ d → d < f → I i s → ∃ x, loopM f step s = some x ∧ Q x
  | d, i, s, 0, _, hf, _ => by omega
  | d, i, s, f + 1, hd, hf, hi => by
    simp only [loopM]
    rcases hs i s hi with ⟨s', h1, h2, h3⟩ | ⟨x, h1, h2⟩
    · rw [h1]
      cases d with
      | zero => omega
      | succ d => exact loop_ex I Q n hs d (i + 1) s' f (by omega) (by omega) h2
    · rw [h1]
      exact ⟨x, rfl, h2⟩

/-- A loop of at most n rounds: an invariant that counts them. -/
theorem loop_inv {S X : Type} {step : S → Option (Step S X)} (I : Nat → S → Prop) (Q : X → Prop) (n : Nat) (hn : n < FUEL) (s : S) (h0 : I 0 s)
    (hs : ∀ i s, I i s → (∃ s', step s = some (.next s') ∧ I (i + 1) s' ∧ i < n) ∨ (∃ x, step s = some (.done x) ∧ Q x)) : ∃ x, loopM FUEL step s = some x ∧ Q x :=
  loop_ex I Q n hs n 0 s FUEL (by omega) hn h0

theorem w64_id {z : Int} (h1 : -9223372036854775808 ≤ z) (h2 : z ≤ 9223372036854775807) : w64 z = z := by
  unfold w64 IntKind.wrap
  simp only [IntKind.bits, IntKind.signed]
  simp
  omega

theorem ix_get {α : Type} {xs : List α} {i : Nat} {z : Int} (hz : z = i) {y : α} (h : xs[i]? = some y) : ix xs z = some y := by
  subst hz
  have := (List.getElem?_eq_some_iff.1 h).1
  unfold ix
  rw [if_pos (by omega)]
  simpa using h

theorem ix_lt {α : Type} (xs : List α) (i : Nat) (h : i < xs.length) : ix xs (i : Int) = some xs[i] := ix_get rfl (List.getElem?_eq_getElem h)

end Go.E
