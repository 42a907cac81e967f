/-
  PLAIN: loops told by the states that they go through; lists that are searched.
-/
import Derived.Test.YtbolefkhmfbnlaaP0
namespace Go.E

theorem loop_run {S X : Type} {step : S → Option (Step S X)} (st : Nat → S) (n : Nat) (x : X)
    (h : ∀ i, i < n → step (st i) = some (.next (st (i + 1)))) (hd : step (st n) = some (.done x)) :
    ∀ (d i f : Nat), i + d = n → d < f → loopM f step (st i) = some x
  | d, i, 0, _, hf => by omega
  | 0, i, f + 1, hi, _ => by
    obtain rfl : i = n := by omega
    simp only [loopM]
    rw [hd]; rfl
  | d + 1, i, f + 1, hi, hf => by
    simp only [loopM]
    rw [h i (by omega)]
    exact loop_run st n x h hd d (i + 1) f (by omega) (by omega)

/-- A loop that goes through the states st 0, .., st n and then ends. -/
theorem loop_go {S X : Type} {step : S → Option (Step S X)} (st : Nat → S) (n : Nat) {s0 : S} {x : X} (hn : n < FUEL) (h0 : s0 = st 0)
    (h : ∀ i, i < n → step (st i) = some (.next (st (i + 1)))) (hd : step (st n) = some (.done x)) : loopM FUEL step s0 = some x := by
  rw [h0]
  exact loop_run st n x h hd n 0 FUEL (by omega) hn

theorem first_of (P : Nat → Prop) : ∀ n : Nat, (∀ i, i < n → ¬ P i) ∨ ∃ i, i < n ∧ P i ∧ ∀ j, j < i → ¬ P j
  | 0 => .inl fun i hi => by omega
  | n + 1 => by
    rcases first_of P n with h | ⟨i, h1, h2, h3⟩
    · rcases Classical.em (P n) with hp | hp
      · exact .inr ⟨n, by omega, hp, h⟩
      · refine .inl fun i hi => ?_
        rcases Nat.lt_succ_iff_lt_or_eq.1 hi with h9 | rfl
        · exact h i h9
        · exact hp
    · exact .inr ⟨i, by omega, h2, h3⟩

/-- A loop that may end early, at the first number with P. -/
theorem loop_first {S X : Type} {step : S → Option (Step S X)} (st : Nat → S) (P : Nat → Prop) (e : Nat → X) (d : X) (n : Nat) {s0 : S} (hn : n < FUEL) (h0 : s0 = st 0)
    (h : ∀ i, i < n → ¬ P i → step (st i) = some (.next (st (i + 1)))) (hx : ∀ i, i < n → P i → (∀ j, j < i → ¬ P j) → step (st i) = some (.done (e i))) (hd : step (st n) = some (.done d)) :
    ((∀ i, i < n → ¬ P i) ∧ loopM FUEL step s0 = some d) ∨ ∃ i, i < n ∧ P i ∧ (∀ j, j < i → ¬ P j) ∧ loopM FUEL step s0 = some (e i) := by
  rcases first_of P n with hp | ⟨i, h1, h2, h3⟩
  · exact .inl ⟨hp, loop_go st n hn h0 (fun i hi => h i hi (hp i hi)) hd⟩
  · exact .inr ⟨i, h1, h2, h3, loop_go st i (by omega) h0 (fun j hj => h j (by omega) (h3 j hj)) (hx i h1 h2 h3)⟩

/-- The search of slices.IndexFunc. -/
theorem find_loop {α : Type} {step : Int → Option (Step Int (Int ⊕ Unit))} (xs : List α) (f : α → Option Bool) (g : α → Bool) (hn : xs.length ≤ 1000000)
    (hs : ∀ s : Int, step s = if decide (s < (xs.length : Int)) = true then (ix xs s).bind fun v => (f v).bind fun b => if b = true then some (.done (.inl s)) else some (.next (w64 (s + 1))) else some (.done (.inr ())))
    (hf : ∀ v, v ∈ xs → f v = some (g v)) :
    (xs.any g = false ∧ loopM FUEL step 0 = some (.inr ())) ∨ ∃ i : Nat, xs.any g = true ∧ i < xs.length ∧ (∀ y, xs[i]? = some y → g y = true) ∧ (∀ j y, j < i → xs[j]? = some y → g y = false) ∧ loopM FUEL step 0 = some (.inl (i : Int)) := by
  rcases loop_first (step := step) (fun i => (i : Int)) (fun i => ∃ y, xs[i]? = some y ∧ g y = true) (fun i => .inl (i : Int)) (.inr ()) xs.length (s0 := 0) (by unfold FUEL; omega) rfl
    (fun i hi hp => by
      rw [hs, if_pos (by simpa using hi), ix_lt xs i hi, Option.bind_some, hf _ (List.getElem_mem hi), Option.bind_some]
      have : g xs[i] = false := by
        cases hg : g xs[i] with
        | false => rfl
        | true => exact absurd ⟨_, List.getElem?_eq_getElem hi, hg⟩ hp
      rw [this, if_neg (by decide), w64_id (by omega) (by omega)]
      simp)
    (fun i hi hp _ => by
      obtain ⟨y, hy, hg⟩ := hp
      rw [List.getElem?_eq_getElem hi] at hy
      cases hy
      rw [hs, if_pos (by simpa using hi), ix_lt xs i hi, Option.bind_some, hf _ (List.getElem_mem hi), Option.bind_some, hg, if_pos rfl])
    (by rw [hs, if_neg (by simp)]) with ⟨h1, h2⟩ | ⟨i, h1, h2, h3, h4⟩
  · refine .inl ⟨?_, h2⟩
    rw [List.any_eq_false]
    intro y hy
    obtain ⟨j, hj⟩ := List.getElem?_of_mem hy
    intro hg
    exact h1 j (List.getElem?_eq_some_iff.1 hj).1 ⟨y, hj, hg⟩
  · obtain ⟨y, hy, hg⟩ := h2
    refine .inr ⟨i, List.any_eq_true.2 ⟨y, List.mem_of_getElem? hy, hg⟩, h1, fun z hz => by rw [hy] at hz; cases hz; exact hg, fun j z hj hz => ?_, h4⟩
    cases hgz : g z with
    | false => rfl
    | true => exact absurd ⟨z, hz, hgz⟩ (h3 j hj)

/-- slices.ContainsFunc: the search, and whether it ended early. -/
theorem any_loop {α : Type} {step : Int → Option (Step Int (Int ⊕ Unit))} {xs : List α} {f : α → Option Bool} (g : α → Bool) (hn : xs.length ≤ 1000000)
    (hs : ∀ s : Int, step s = if decide (s < (xs.length : Int)) = true then (ix xs s).bind fun v => (f v).bind fun b => if b = true then some (.done (.inl s)) else some (.next (w64 (s + 1))) else some (.done (.inr ())))
    (hf : ∀ v, v ∈ xs → f v = some (g v)) : ∃ z : Int ⊕ Unit, loopM FUEL step 0 = some z ∧ ((z = .inr () ∧ xs.any g = false) ∨ ∃ i : Nat, z = .inl (i : Int) ∧ xs.any g = true) := by
  rcases find_loop xs f g hn hs hf with ⟨h1, h2⟩ | ⟨i, h1, _, _, _, h5⟩
  · exact ⟨_, h2, .inl ⟨rfl, h1⟩⟩
  · exact ⟨_, h5, .inr ⟨i, rfl, h1⟩⟩

theorem any_congr {α : Type} {g g' : α → Bool} : ∀ {xs : List α}, (∀ v, v ∈ xs → g v = g' v) → xs.any g = xs.any g'
  | [], _ => rfl
  | x :: xs, h => by
    simp only [List.any_cons]
    rw [h x (by simp), any_congr (xs := xs) (fun v hv => h v (by simp [hv]))]

theorem getD_eq {α : Type} {xs : List α} {i : Nat} (h : i < xs.length) (d : α) : xs.getD i d = xs[i] := by simp [h]
theorem ix_getD {α : Type} {xs : List α} {i : Nat} {z : Int} (hz : z = i) (h : i < xs.length) (d : α) : ix xs z = some (xs.getD i d) := by
  subst hz
  rw [ix_lt xs i h, getD_eq h]

theorem take_succ {α : Type} {xs : List α} {i : Nat} (h : i < xs.length) : xs.take (i + 1) = xs.take i ++ [xs[i]] := by
  rw [List.take_add_one, List.getElem?_eq_getElem h]; rfl

/-- The loop of slices.Equal. -/
theorem eq_loop {α : Type} {step : Int → Option (Step Int (Bool ⊕ Unit))} (eqb : α → α → Bool) (heq : ∀ a b, eqb a b = true ↔ a = b) {xs ys : List α} (hn : xs.length ≤ 1000000) (hl : xs.length = ys.length)
    (hs : ∀ s : Int, step s = if decide (s < (xs.length : Int)) = true then (ix xs s).bind fun v => (ix ys s).bind fun w => if (!eqb v w) = true then some (.done (.inl false)) else some (.next (w64 (s + 1))) else some (.done (.inr ()))) :
    (xs = ys ∧ loopM FUEL step 0 = some (.inr ())) ∨ (xs ≠ ys ∧ loopM FUEL step 0 = some (.inl false)) := by
  rcases loop_first (step := step) (fun i => (i : Int)) (fun i => xs[i]? ≠ ys[i]?) (fun _ => .inl false) (.inr ()) xs.length (s0 := 0) (by unfold FUEL; omega) rfl
    (fun i hi hp => by
      have he : xs[i] = ys[i]'(by omega) := by
        have h9 : xs[i]? = ys[i]? := Classical.byContradiction hp
        rw [List.getElem?_eq_getElem hi, List.getElem?_eq_getElem (by omega)] at h9
        exact Option.some.inj h9
      rw [hs, if_pos (by simpa using hi), ix_lt xs i hi, Option.bind_some, ix_lt ys i (by omega), Option.bind_some, (heq _ _).2 he, if_neg (by decide), w64_id (by omega) (by omega)]
      simp)
    (fun i hi hp _ => by
      have he : eqb xs[i] (ys[i]'(by omega)) = false := by
        cases h : eqb xs[i] (ys[i]'(by omega)) with
        | false => rfl
        | true =>
          exfalso
          apply hp
          rw [List.getElem?_eq_getElem hi, List.getElem?_eq_getElem (by omega), (heq _ _).1 h]
      rw [hs, if_pos (by simpa using hi), ix_lt xs i hi, Option.bind_some, ix_lt ys i (by omega), Option.bind_some, he]
      rfl)
    (by rw [hs, if_neg (by simp)]) with ⟨h1, h2⟩ | ⟨i, h1, h2, _, h4⟩
  · refine .inl ⟨?_, h2⟩
    apply List.ext_getElem?
    intro j
    by_cases hj : j < xs.length
    · exact Classical.byContradiction (h1 j hj)
    · rw [List.getElem?_eq_none (by omega), List.getElem?_eq_none (by omega)]
  · exact .inr ⟨fun h => h2 (by rw [h]), h4⟩

/-- A loop that appends one element a round. -/
theorem map_loop {α β : Type} {step : List β × Int → Option (Step (List β × Int) (List β))} (xs : List α) (f : α → β) (hn : xs.length ≤ 1000000)
    (hs : ∀ (i : Nat) (hi : i < xs.length) (l : List β), l.length = i → step (l, (i : Int)) = some (.next (l ++ [f xs[i]], ((i + 1 : Nat) : Int))))
    (hd : ∀ l, step (l, (xs.length : Int)) = some (.done l)) : loopM FUEL step ([], 0) = some (xs.map f) := by
  refine loop_go (fun i => ((xs.take i).map f, (i : Int))) xs.length (by unfold FUEL; omega) (by simp) (fun i hi => ?_) ?_
  · have e : (xs.take (i + 1)).map f = (xs.take i).map f ++ [f xs[i]] := by rw [take_succ hi, List.map_append]; rfl
    rw [hs i hi _ (by simp; omega)]
    show some (Step.next (_, _)) = some (Step.next ((xs.take (i + 1)).map f, _))
    rw [e]
  · rw [hd]; simp

end Go.E
