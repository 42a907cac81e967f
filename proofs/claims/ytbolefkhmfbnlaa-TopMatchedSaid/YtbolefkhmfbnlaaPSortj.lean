/-
  PLAIN: the whole sort.
-/
import Derived.Test.YtbolefkhmfbnlaaPSorti
set_option linter.unusedSimpArgs false
set_option linter.unusedVariables false
namespace Go.Proofs.Ytbolefkhmfbnlaa
open Go.E

/-- Within [a, b) only [a', b') is still to be sorted. -/
def Iv (a b a' b' : Nat) (l : List Int) : Prop := a ≤ a' ∧ a' ≤ b' ∧ b' ≤ b ∧ ∀ x y, a ≤ x → x < y → y < b → (x < a' ∨ b' ≤ y) → l.getD x 0 ≤ l.getD y 0
theorem Iv.mx {a b a' b' : Nat} {l l' : List Int} (h : Iv a b a' b' l) (hm : Mx a' b' l l') (hb : b ≤ l.length) : Iv a b a' b' l' := by
  obtain ⟨h1, h2, h3, h4⟩ := h
  refine ⟨h1, h2, h3, fun x y q1 q2 q3 q4 => ?_⟩
  by_cases cx : a' ≤ x ∧ x < b'
  · obtain ⟨x', g1, g2, g3⟩ := hm.mem (by omega) cx
    rw [← g3, hm.2.2 y (by omega)]
    exact h4 x' y (by omega) (by omega) q3 (by omega)
  · rw [hm.2.2 x (by omega)]
    by_cases cy : a' ≤ y ∧ y < b'
    · obtain ⟨y', g1, g2, g3⟩ := hm.mem (by omega) cy
      rw [← g3]
      exact h4 x y' (by omega) (by omega) (by omega) (by omega)
    · rw [hm.2.2 y (by omega)]
      exact h4 x y q1 q2 q3 q4
theorem Iv.step {a b a' b' a2 b2 : Nat} {l l' : List Int} (h : Iv a b a' b' l) (hm : Mx a' b' l l') (hb : b ≤ l.length) (h2 : Iv a' b' a2 b2 l') : Iv a b a2 b2 l' := by
  obtain ⟨g1, g2, g3, g4⟩ := h.mx hm hb
  obtain ⟨k1, k2, k3, k4⟩ := h2
  refine ⟨by omega, k2, by omega, fun x y q1 q2 q3 q4 => ?_⟩
  by_cases c : x < a' ∨ b' ≤ y
  · exact g4 x y q1 q2 q3 c
  · exact k4 x y (by omega) q2 (by omega) q4
theorem Iv.lft {a b a' b' : Nat} {l : List Int} (h : Iv a b a' b' l) (hL : Lft a b l) : Lft a' b' l := fun x y q1 q2 q3 => by
  obtain ⟨h1, h2, h3, h4⟩ := h
  by_cases c : x < a
  · exact hL x y c (by omega) (by omega)
  · exact h4 x y (by omega) (by omega) (by omega) (.inl q1)
theorem Iv.done {a b a' b' : Nat} {l l' : List Int} (h : Iv a b a' b' l) (hm : Mx a' b' l l') (hb : b ≤ l.length) (hs : Srt a' b' l') : Srt a b l' := fun x y q1 q2 q3 => by
  obtain ⟨g1, g2, g3, g4⟩ := h.mx hm hb
  by_cases c : x < a' ∨ b' ≤ y
  · exact g4 x y q1 q2 q3 c
  · exact hs x y (by omega) q2 (by omega)

/-- What the recursion promises. -/
def Rec (N : Nat) (rcf : List Int → Int → Int → Int → Option (List Int)) : Prop :=
  ∀ (l : List Int) (a b : Nat) (z : Int), b - a < N → a ≤ b → b ≤ l.length → l.length ≤ 1000 → Lft a b l → ∃ l', rcf l a b z = some l' ∧ Mx a b l l' ∧ Srt a b l'

theorem tail_ok {N : Nat} {rcf : List Int → Int → Int → Int → Option (List Int)} (hrec : Rec N rcf) {l0 : List Int} {a b p : Nat} (hp : a ≤ p ∧ p < b) (hb : b ≤ l0.length) (hn : l0.length ≤ 1000) (hN : b - a ≤ N) (hL : Lft a b l0) (bal par : Bool) (z : Int) :
    ∃ (l : List Int) (a2 b2 : Nat) (bal2 par2 : Bool), (((if (decide ((0 : Int) < (a : Int))) = true then (ix l0 (w64 ((a : Int) - 1))).bind fun v_40 => (ix l0 (p : Int)).bind fun v_41 => (cmp_Less_uint64 v_40 v_41).bind fun y_42 => some (!y_42) else some false)).bind fun s_32 => (if s_32 = true then (slices_partitionEqualOrdered_uint64 l0 a b p).bind fun (y_33, y_34) => some (.next (y_34, y_33, (b : Int), bal, par, z)) else (slices_partitionOrdered_uint64 l0 a b p).bind fun (y_35, y_36, y_37) => (if (decide ((w64 (y_35 - (a : Int))) < (w64 ((b : Int) - y_35)))) = true then (rcf y_37 a y_35 z).bind fun y_38 => some (.next (y_38, w64 (y_35 + 1), (b : Int), decide ((w64 (Int.tdiv (w64 ((b : Int) - (a : Int))) 8)) ≤ (w64 (y_35 - (a : Int)))), y_36, z)) else (rcf y_37 (w64 (y_35 + 1)) b z).bind fun y_39 => some (.next (y_39, (a : Int), y_35, decide ((w64 (Int.tdiv (w64 ((b : Int) - (a : Int))) 8)) ≤ (w64 ((b : Int) - y_35))), y_36, z)))) : Option (Step (List Int × Int × Int × Bool × Bool × Int) (List Int ⊕ List Int))) = some (.next (l, (a2 : Int), (b2 : Int), bal2, par2, z)) ∧
      Mx a b l0 l ∧ Iv a b a2 b2 l ∧ b2 - a2 < b - a := by
  have hc : ∃ e : Bool, (if (decide ((0 : Int) < (a : Int))) = true then (ix l0 (w64 ((a : Int) - 1))).bind fun v_40 => (ix l0 (p : Int)).bind fun v_41 => (cmp_Less_uint64 v_40 v_41).bind fun y_42 => some (!y_42) else some false) = some e ∧ (e = true → 0 < a ∧ l0.getD p 0 ≤ l0.getD (a - 1) 0) := by
    by_cases c : 0 < a
    · rw [if_pos (by simp only [decide_eq_true_eq]; omega), w64_id (by omega) (by omega), ix_getD (i := a - 1) (by omega) (by omega) 0, Option.bind_some, ix_getD (i := p) rfl (by omega) 0, Option.bind_some, less_eq, Option.bind_some]
      refine ⟨_, rfl, fun h => ⟨c, ?_⟩⟩
      simp at h
      exact h
    · exact ⟨false, if_neg (by simp only [decide_eq_true_eq]; omega), fun h => by cases h⟩
  obtain ⟨e, e1, e2⟩ := hc
  rw [e1, Option.bind_some]
  cases e with
  | true =>
    obtain ⟨q1, q2⟩ := e2 rfl
    obtain ⟨i, l, f1, f2, f3, f4, f5, f6⟩ := peq_ok (l0 := l0) hp hb hn
    rw [if_pos rfl, f1, Option.bind_some]
    refine ⟨l, i, b, bal, par, rfl, f2, ⟨by omega, f4, Nat.le_refl _, fun x y r1 r2 r3 r4 => ?_⟩, by omega⟩
    have h1 := f5 x r1 (by omega)
    have h2 := hL.mx f2 hb (a - 1) y (by omega) (by omega) r3
    rw [f2.2.2 (a - 1) (by omega)] at h2
    omega
  | false =>
    rw [if_neg (by decide)]
    obtain ⟨m, f, l, f1, f2, f3, f4, f5, f6⟩ := part_ok (l0 := l0) hp hb hn
    rw [f1, Option.bind_some]
    dsimp only
    have hl := f2.1
    have hL2 := hL.mx f2 hb
    rw [w64_id (z := (m : Int) + 1) (by omega) (by omega)]
    by_cases c : w64 ((m : Int) - (a : Int)) < w64 ((b : Int) - (m : Int))
    · obtain ⟨l2, g1, g2, g3⟩ := hrec l a m z (by omega) f3 (by omega) (by omega) (fun x y r1 r2 r3 => hL2 x y r1 r2 (by omega))
      rw [if_pos (decide_eq_true c), g1, Option.bind_some]
      refine ⟨l2, m + 1, b, _, f, by push_cast; rfl, f2.trans (g2.wider (Nat.le_refl _) (by omega)), ⟨by omega, by omega, Nat.le_refl _, fun x y r1 r2 r3 r4 => ?_⟩, by omega⟩
      by_cases cx : x < m
      · by_cases cy : y < m
        · exact g3 x y r1 r2 cy
        · obtain ⟨x', k1, k2, k3⟩ := g2.mem (by omega) (x := x) ⟨r1, cx⟩
          rw [← k3, g2.2.2 y (by omega)]
          have h1 := f5 x' k1 k2
          by_cases cy2 : y = m
          · rw [cy2]; exact h1
          · have := f6 y (by omega) r3
            omega
      · rw [g2.2.2 x (by omega), g2.2.2 y (by omega), show x = m by omega]
        exact f6 y (by omega) r3
    · obtain ⟨l2, g1, g2, g3⟩ := hrec l (m + 1) b z (by omega) (by omega) (by omega) (by omega) (fun x y r1 r2 r3 => by
        have h1 := f6 y (by omega) r3
        by_cases cx : x < a
        · exact hL2 x y cx (by omega) r3
        · by_cases cx2 : x = m
          · rw [cx2]; exact h1
          · have := f5 x (by omega) (by omega)
            omega)
      rw [show ((m + 1 : Nat) : Int) = (m : Int) + 1 by push_cast; rfl] at g1
      rw [if_neg (by simpa using c), g1, Option.bind_some]
      refine ⟨l2, a, m, _, f, rfl, f2.trans (g2.wider (by omega) (Nat.le_refl _)), ⟨Nat.le_refl _, f3, by omega, fun x y r1 r2 r3 r4 => ?_⟩, by omega⟩
      have hx : x ≤ m → l.getD x 0 ≤ l.getD m 0 := fun h => by
        by_cases cx : x = m
        · rw [cx]; exact Int.le_refl _
        · exact f5 x r1 (by omega)
      by_cases cx : x ≤ m
      · rw [g2.2.2 x (by omega)]
        by_cases cy : y = m
        · rw [g2.2.2 y (by omega), cy]; exact hx cx
        · obtain ⟨y', k1, k2, k3⟩ := g2.mem (by omega) (x := y) ⟨by omega, r3⟩
          rw [← k3]
          have h1 := hx cx
          have h2 := f6 y' (by omega) k2
          omega
      · exact g3 x y (by omega) r2 r3

theorem pdq_step {N : Nat} {rcf : List Int → Int → Int → Int → Option (List Int)} (hrec : Rec N rcf) {l0 : List Int} {a b : Nat} (hab : a ≤ b) (hb : b ≤ l0.length) (hn : l0.length ≤ 1000) (hN : b - a ≤ N) (hL : Lft a b l0) (bal par : Bool) (z : Int) :
    (∃ (l : List Int) (a2 b2 : Nat) (bal2 par2 : Bool) (z2 : Int), slices_pdqsortOrdered_uint64_s1 rcf l0 a b bal par z = some (.next (l, (a2 : Int), (b2 : Int), bal2, par2, z2)) ∧ Mx a b l0 l ∧ Iv a b a2 b2 l ∧ b2 - a2 < b - a) ∨
    ∃ l, slices_pdqsortOrdered_uint64_s1 rcf l0 a b bal par z = some (.done (.inl l)) ∧ Mx a b l0 l ∧ Srt a b l := by
  unfold slices_pdqsortOrdered_uint64_s1
  by_cases c1 : b - a ≤ 12
  · right
    obtain ⟨l, e1, e2, e3⟩ := ins_ok (l0 := l0) hab hb hn
    rw [if_pos (by rw [w64_id (by omega) (by omega)]; simp only [decide_eq_true_eq]; omega), e1, Option.bind_some]
    exact ⟨l, rfl, e2, e3⟩
  · rw [if_neg (by rw [w64_id (by omega) (by omega)]; simp only [decide_eq_true_eq]; omega)]
    by_cases c2 : z = 0
    · right
      obtain ⟨l, e1, e2, e3⟩ := heap_ok (l0 := l0) (a := a) (b := b) (by omega) hb hn
      rw [if_pos (by simpa using c2), e1, Option.bind_some]
      exact ⟨l, rfl, e2, e3⟩
    · rw [if_neg (by simpa using c2)]
      have p1 : ∃ (l1 : List Int) (z1 : Int), (if (!bal) = true then (slices_breakPatternsOrdered_uint64 l0 a b).bind fun y_44 => some (y_44, w64 (z - 1)) else some (l0, z)) = some (l1, z1) ∧ Mx a b l0 l1 := by
        cases bal with
        | true => exact ⟨l0, z, rfl, Mx.refl _ _ _⟩
        | false =>
          obtain ⟨l, e1, e2⟩ := break_ok (l0 := l0) (a := a) (b := b) (by omega) hb hn
          exact ⟨l, _, by rw [if_pos (by decide), e1]; rfl, e2⟩
      obtain ⟨l1, z1, e1, m1⟩ := p1
      have hl1 := m1.1
      rw [e1, Option.bind_some]
      dsimp only
      obtain ⟨p, h, e2, hp1, hp2⟩ := pivot_ok (l := l1) (a := a) (b := b) (by omega) (by omega) (by omega)
      rw [e2, Option.bind_some]
      dsimp only
      have p2 : ∃ (l2 : List Int) (q : Nat) (h2 : Int), (if (h == 2) = true then (slices_reverseRangeOrdered_uint64 l1 a b).bind fun y_43 => some (y_43, w64 ((w64 ((b : Int) - 1)) - (w64 ((p : Int) - (a : Int)))), (1 : Int)) else some (l1, (p : Int), h)) = some (l2, (q : Int), h2) ∧ Mx a b l1 l2 ∧ a ≤ q ∧ q < b := by
        by_cases c3 : h = 2
        · obtain ⟨l, f1, f2⟩ := reverse_ok (l0 := l1) (a := a) (b := b) (by omega) (by omega) (by omega)
          refine ⟨l, b - 1 - (p - a), 1, ?_, f2, by omega, by omega⟩
          rw [if_pos (by simpa using c3), f1, Option.bind_some, w64_id (z := (b : Int) - 1) (by omega) (by omega), w64_id (z := (p : Int) - (a : Int)) (by omega) (by omega), w64_id (by omega) (by omega)]
          congr 3
          omega
        · exact ⟨l1, p, h, if_neg (by simpa using c3), Mx.refl _ _ _, hp1, hp2⟩
      obtain ⟨l2, q, h2, e3, m2, hq1, hq2⟩ := p2
      have hl2 := m2.1
      rw [e3, Option.bind_some]
      dsimp only
      have p3 : ∃ s : Bool, (if bal = true then (if par = true then some (h2 == 1) else some false) else some false) = some s := by
        cases bal <;> cases par <;> exact ⟨_, rfl⟩
      obtain ⟨s, e4⟩ := p3
      rw [e4, Option.bind_some]
      have m12 := m1.trans m2
      have hL2 : Lft a b l2 := hL.mx m12 hb
      cases s with
      | true =>
        obtain ⟨f, l3, f1, f2, f3⟩ := partial_ok (l0 := l2) (a := a) (b := b) (by omega) (by omega) (by omega) hL2
        have hl3 := f2.1
        rw [if_pos rfl, f1, Option.bind_some]
        dsimp only
        cases f with
        | true =>
          right
          exact ⟨l3, rfl, m12.trans f2, f3 rfl⟩
        | false =>
          left
          obtain ⟨l4, a2, b2, bal2, par2, g1, g2, g3, g4⟩ := tail_ok hrec (l0 := l3) (a := a) (b := b) (p := q) ⟨hq1, hq2⟩ (by omega) (by omega) hN (hL2.mx f2 (by omega)) bal par z1
          exact ⟨l4, a2, b2, bal2, par2, z1, g1, (m12.trans f2).trans g2, g3, g4⟩
      | false =>
        left
        obtain ⟨l4, a2, b2, bal2, par2, g1, g2, g3, g4⟩ := tail_ok hrec (l0 := l2) (a := a) (b := b) (p := q) ⟨hq1, hq2⟩ (by omega) (by omega) hN hL2 bal par z1
        exact ⟨l4, a2, b2, bal2, par2, z1, g1, m12.trans g2, g3, g4⟩

theorem pdq_ok : ∀ N : Nat, Rec N (slices_pdqsortOrdered_uint64 N)
  | 0 => fun l a b z h => by omega
  | N + 1 => fun l0 a b z hN hab hb hn hL => by
    have ih := pdq_ok N
    unfold slices_pdqsortOrdered_uint64
    have : ∃ r : List Int ⊕ List Int, loopM FUEL (fun s : List Int × Int × Int × Bool × Bool × Int => slices_pdqsortOrdered_uint64_s1 (slices_pdqsortOrdered_uint64 N) s.1 s.2.1 s.2.2.1 s.2.2.2.1 s.2.2.2.2.1 s.2.2.2.2.2) (l0, (a : Int), (b : Int), true, true, z) = some r ∧ ∃ l, r = .inl l ∧ Mx a b l0 l ∧ Srt a b l := by
      refine loop_inv (fun k s => ∃ a' b' : Nat, s.2.1 = (a' : Int) ∧ s.2.2.1 = (b' : Int) ∧ Mx a b l0 s.1 ∧ Iv a b a' b' s.1 ∧ b' - a' + k ≤ b - a) _ (b - a) (by unfold FUEL; omega) _
        ⟨a, b, rfl, rfl, Mx.refl _ _ _, ⟨Nat.le_refl _, hab, Nat.le_refl _, fun x y q1 q2 q3 q4 => by omega⟩, by omega⟩ ?_
      rintro k ⟨l, z1, z2, bal, par, lim⟩ ⟨a', b', h1, h2, hm, hi, hk⟩
      dsimp only at h1 h2 hm hi
      subst h1
      subst h2
      have hlen := hm.1
      have hi2 := hi
      obtain ⟨i1, i2, i3, i4⟩ := hi2
      rcases pdq_step (N := N) ih (l0 := l) (a := a') (b := b') i2 (by omega) (by omega) (by omega) (hi.lft (hL.mx hm hb)) bal par lim with ⟨l2, a2, b2, bal2, par2, lim2, g1, g2, g3, g4⟩ | ⟨l2, g1, g2, g3⟩
      · left
        exact ⟨_, g1, ⟨a2, b2, rfl, rfl, hm.trans (g2.wider i1 i3), hi.step g2 (by omega) g3, by omega⟩, by omega⟩
      · right
        exact ⟨_, g1, l2, rfl, hm.trans (g2.wider i1 i3), hi.done g2 (by omega) g3⟩
    obtain ⟨r, e1, l, rfl, e2, e3⟩ := this
    exact ⟨l, by rw [e1]; rfl, e2, e3⟩

theorem sort_ok {l0 : List Int} (hn : l0.length ≤ 1000) : ∃ l, slices_Sort_suint64 l0 = some l ∧ Mx 0 l0.length l0 l ∧ Srt 0 l0.length l := by
  unfold slices_Sort_suint64
  obtain ⟨y, hy⟩ := len_ok (n := l0.length) hn
  rw [hy, Option.bind_some]
  obtain ⟨l, e1, e2, e3⟩ := pdq_ok FUEL l0 0 l0.length y (by unfold FUEL; omega) (by omega) (Nat.le_refl _) hn (fun x y h1 => by omega)
  rw [show ((0 : Nat) : Int) = 0 from rfl] at e1
  exact ⟨l, by rw [e1]; rfl, e2, e3⟩
end Go.Proofs.Ytbolefkhmfbnlaa
