/-
  PLAIN: swaps within a range.
-/
import Derived.Test.YtbolefkhmfbnlaaP1
set_option linter.unusedSimpArgs false
set_option linter.unusedVariables false
namespace Go.E

/-- Two places changed for one another. -/
def swp (l : List Int) (i j : Nat) : List Int := (l.set i (l.getD j 0)).set j (l.getD i 0)
theorem swp_len (l : List Int) (i j : Nat) : (swp l i j).length = l.length := by simp [swp]
theorem swp_getD {l : List Int} {i j : Nat} (hi : i < l.length) (hj : j < l.length) (k : Nat) : (swp l i j).getD k 0 = if k = j then l.getD i 0 else if k = i then l.getD j 0 else l.getD k 0 := by
  unfold swp
  simp only [List.getD_eq_getElem?_getD, List.getElem?_set, List.length_set]
  by_cases h1 : j = k
  · subst h1
    simp [hj]
  · have h1' : ¬ k = j := fun h => h1 h.symm
    by_cases h2 : i = k
    · subst h2
      rw [if_neg h1', if_neg h1, if_pos rfl, if_pos rfl, if_pos hi]
      rfl
    · have h2' : ¬ k = i := fun h => h2 h.symm
      rw [if_neg h1', if_neg h1, if_neg h2', if_neg h2]

/-- How often v stands in the list. -/
def cnt (l : List Int) (v : Int) : Nat := l.count v
theorem cnt_set {l : List Int} {i : Nat} (hi : i < l.length) (x v : Int) : cnt (l.set i x) v + (if l.getD i 0 = v then 1 else 0) = cnt l v + (if x = v then 1 else 0) := by
  unfold cnt
  induction l generalizing i with
  | nil => simp at hi
  | cons a l ih =>
    cases i with
    | zero =>
      simp only [List.set_cons_zero, List.count_cons, List.getD_cons_zero, beq_iff_eq]
      omega
    | succ i =>
      have := ih (i := i) (by simpa using hi)
      simp only [List.set_cons_succ, List.count_cons, List.getD_cons_succ]
      omega
theorem cnt_swp {l : List Int} {i j : Nat} (hi : i < l.length) (hj : j < l.length) (v : Int) : cnt (swp l i j) v = cnt l v := by
  unfold swp
  have h1 := cnt_set hi (l.getD j 0) v
  have h2 := cnt_set (l := l.set i (l.getD j 0)) (i := j) (by simpa using hj) (l.getD i 0) v
  have h3 : (l.set i (l.getD j 0)).getD j 0 = l.getD j 0 := by
    simp only [List.getD_eq_getElem?_getD, List.getElem?_set]
    by_cases h : i = j
    · subst h; simp [hi]
    · rw [if_neg h]
  rw [h3] at h2
  omega

/-- l' has in [a, b) what l has there in another order, and is l elsewhere. -/
def Mx (a b : Nat) (l l' : List Int) : Prop := l'.length = l.length ∧ (∀ v, cnt l' v = cnt l v) ∧ ∀ k, k < a ∨ b ≤ k → l'.getD k 0 = l.getD k 0
theorem Mx.refl (a b : Nat) (l : List Int) : Mx a b l l := ⟨rfl, fun _ => rfl, fun _ _ => rfl⟩
theorem Mx.trans {a b : Nat} {l1 l2 l3 : List Int} (h : Mx a b l1 l2) (h2 : Mx a b l2 l3) : Mx a b l1 l3 :=
  ⟨h2.1.trans h.1, fun v => (h2.2.1 v).trans (h.2.1 v), fun k hk => (h2.2.2 k hk).trans (h.2.2 k hk)⟩
theorem Mx.wider {a b a' b' : Nat} {l l' : List Int} (h : Mx a b l l') (ha : a' ≤ a) (hb : b ≤ b') : Mx a' b' l l' := ⟨h.1, h.2.1, fun k hk => h.2.2 k (by omega)⟩
theorem Mx.swp {a b i j : Nat} {l : List Int} (hb : b ≤ l.length) (hi : a ≤ i ∧ i < b) (hj : a ≤ j ∧ j < b) : Mx a b l (swp l i j) :=
  ⟨swp_len _ _ _, cnt_swp (by omega) (by omega), fun k hk => by rw [swp_getD (by omega) (by omega), if_neg (by omega), if_neg (by omega)]⟩
end Go.E
