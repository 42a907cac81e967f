/-
  PLAIN: the nearest word; matches.
-/
import Derived.Test.YtbolefkhmfbnlaaPcount
import Derived.Test.YtbolefkhmfbnlaaP1
set_option linter.unusedSimpArgs false
set_option linter.unusedVariables false
namespace Go.Proofs.Ytbolefkhmfbnlaa
open Go.E

abbrev Wd (z : Int) : Prop := 0 ≤ z ∧ z < 18446744073709551616
def dd (a b : Int) : Nat := pc (a.toNat ^^^ b.toNat)
theorem dist_ok {a b : Int} (ha : Wd a) (hb : Wd b) : neighbour_Distance a b = some ((dd a b : Nat) : Int) := by
  obtain ⟨a, rfl⟩ : ∃ n : Nat, a = n := ⟨a.toNat, by omega⟩
  obtain ⟨b, rfl⟩ : ∃ n : Nat, b = n := ⟨b.toNat, by omega⟩
  have h : a ^^^ b < 2 ^ 64 := Nat.xor_lt_two_pow (by omega) (by omega)
  unfold neighbour_Distance dd
  rw [xor64 a b (by omega) (by omega), ones_ok _ h]
  rfl
theorem dd_le (a b : Int) : dd a b ≤ 64 := pc_bd _
theorem dd_zero {a b : Int} (ha : Wd a) (hb : Wd b) : dd a b = 0 ↔ a = b := by
  unfold dd
  rw [pc_zero _ _ (by omega) (by omega)]
  omega

attribute [local irreducible] dd

theorem near_ok {l : List Int} {w z : Int} (hl : ∀ v ∈ l, Wd v) (hw : Wd w) (hn : l.length ≤ 64) :
    ∃ k e : Int, neighbour_nearest l w z = some (k, e) ∧ 0 ≤ e ∧ e ≤ 64 ∧ (z = -1 → w ∈ l → ∃ j : Nat, k = (j : Int) ∧ e = 0 ∧ l[j]? = some w ∧ ∀ i : Nat, i < j → l[i]? ≠ some w) := by
  unfold neighbour_nearest
  have : ∃ r : Int × Int, loopM FUEL (fun s : Int × Int × Int => neighbour_nearest_s1 l w z s.1 s.2.1 s.2.2) (-1, 0, 0) = some r ∧ 0 ≤ r.2 ∧ r.2 ≤ 64 ∧ (z = -1 → w ∈ l → ∃ j : Nat, r.1 = (j : Int) ∧ r.2 = 0 ∧ l[j]? = some w ∧ ∀ i : Nat, i < j → l[i]? ≠ some w) := by
    refine loop_inv (fun k s => s.2.2 = (k : Int) ∧ k ≤ l.length ∧ 0 ≤ s.2.1 ∧ s.2.1 ≤ 64 ∧ (z = -1 → (∃ j : Nat, s.1 = (j : Int) ∧ s.2.1 = 0 ∧ l[j]? = some w ∧ ∀ i : Nat, i < j → l[i]? ≠ some w) ∨ ((∀ i : Nat, i < k → l[i]? ≠ some w) ∧ (0 ≤ s.1 → 0 < s.2.1)))) _ l.length (by unfold FUEL; omega) _
      ⟨rfl, Nat.zero_le _, by decide, by decide, fun _ => .inr ⟨fun i hi => by omega, fun h => by simp at h⟩⟩ ?_
    rintro k ⟨a, d, i⟩ ⟨hi, hk, hd0, hd1, hA⟩
    dsimp only at hi hd0 hd1 hA
    subst hi
    show (∃ s', neighbour_nearest_s1 l w z a d (k : Int) = some (.next s') ∧ _) ∨ (∃ x, neighbour_nearest_s1 l w z a d (k : Int) = some (.done x) ∧ _)
    unfold neighbour_nearest_s1
    by_cases c : k < l.length
    · left
      have hv := hl l[k] (List.getElem_mem c)
      have hz := dd_zero hv hw
      have hle := dd_le l[k] w
      have hget : l[k]? = some l[k] := List.getElem?_eq_getElem c
      rw [if_pos (by simp only [decide_eq_true_eq]; omega), ix_lt l k c, Option.bind_some, dist_ok hv hw, Option.bind_some, w64_id (z := (k : Int) + 1) (by omega) (by omega)]
      have hsel : ∃ b : Bool, (if ((k : Int) != z) = true then (if (decide (a < 0)) = true then some true else some (decide (((dd l[k] w : Nat) : Int) < d))) else some false) = some b ∧ (z = -1 → (b = true ↔ (a < 0 ∨ ((dd l[k] w : Nat) : Int) < d))) := by
        by_cases c1 : (k : Int) = z
        · exact ⟨false, if_neg (by simpa using c1), fun h => by omega⟩
        · rw [if_pos (by simpa using c1)]
          by_cases c2 : a < 0
          · exact ⟨true, if_pos (decide_eq_true c2), fun _ => by simp [c2]⟩
          · exact ⟨_, if_neg (by simpa using c2), fun _ => by simp [c2]⟩
      obtain ⟨b, hb1, hb2⟩ := hsel
      rw [hb1, Option.bind_some]
      cases b with
      | true =>
        rw [if_pos rfl, Option.bind_some]
        refine ⟨_, rfl, ⟨by push_cast; rfl, by omega, by dsimp only; omega, by dsimp only; omega, fun hz1 => ?_⟩, c⟩
        have hb3 := (hb2 hz1).1 rfl
        dsimp only
        rcases hA hz1 with ⟨j, h1, h2, h3, h4⟩ | ⟨h1, h2⟩
        · omega
        · by_cases hw2 : l[k] = w
          · left
            exact ⟨k, rfl, by have := hz.2 hw2; omega, by rw [hget, hw2], h1⟩
          · right
            refine ⟨fun i hi => ?_, fun _ => ?_⟩
            · by_cases hik : i = k
              · rw [hik, hget]; exact fun h => hw2 (Option.some.inj h)
              · exact h1 i (by omega)
            · have : dd l[k] w ≠ 0 := fun h => hw2 (hz.1 h)
              omega
      | false =>
        rw [if_neg (by decide), Option.bind_some]
        refine ⟨_, rfl, ⟨by push_cast; rfl, by omega, hd0, hd1, fun hz1 => ?_⟩, c⟩
        have hb3 : ¬ (a < 0 ∨ ((dd l[k] w : Nat) : Int) < d) := fun h => by
          have := (hb2 hz1).2 h
          cases this
        dsimp only
        rcases hA hz1 with h | ⟨h1, h2⟩
        · exact .inl h
        · right
          refine ⟨fun i hi => ?_, h2⟩
          by_cases hik : i = k
          · rw [hik, hget]
            intro h
            have := hz.2 (Option.some.inj h)
            have := h2 (by omega)
            omega
          · exact h1 i (by omega)
    · right
      rw [if_neg (by simp only [decide_eq_true_eq]; omega)]
      refine ⟨_, rfl, hd0, hd1, fun hz1 hm => ?_⟩
      rcases hA hz1 with h | ⟨h1, h2⟩
      · exact h
      · obtain ⟨i, hi⟩ := List.getElem?_of_mem hm
        exact absurd hi (h1 i (by have := (List.getElem?_eq_some_iff.1 hi).1; omega))
  obtain ⟨⟨k, e⟩, e1, e2, e3, e4⟩ := this
  exact ⟨k, e, by rw [e1]; rfl, e2, e3, e4⟩

theorem mc1_ok {l : List Int} {w z : Int} (hl : ∀ v ∈ l, Wd v) (hw : Wd w) (hn : l.length ≤ 64) : neighbour_Matches_c1 l w z 0 1 1 = some true := by
  unfold neighbour_Matches_c1
  obtain ⟨k, e, h1, h2, h3, _⟩ := near_ok (z := z) hl hw hn
  rw [h1, Option.bind_some]
  dsimp only
  by_cases c : k < 0
  · rw [if_pos (decide_eq_true c)]
  · rw [if_neg (by simpa using c), w64_id (z := 0 * 1) (by omega) (by omega), w64_id (z := 1 * e) (by omega) (by omega), decide_eq_true (show (0 : Int) * 1 ≤ 1 * e by omega)]

theorem matches_ok {ws os : List Int} (hw : ∀ v ∈ ws, Wd v) (ho : ∀ v ∈ os, Wd v) (h1 : ws.length ≤ 64) (h2 : os.length ≤ 64) (hd : ws.Nodup) (hin : ∀ v ∈ ws, v ∈ os) :
    ∃ ms : List (Int × Int × Int), neighbour_Matches ws os 1 1 = some (ms, 0) ∧ ms.length = ws.length ∧ ∀ i : Nat, i < ws.length → ∃ j : Nat, ms[i]? = some ((i : Int), (j : Int), 0) ∧ os[j]? = ws[i]? := by
  unfold neighbour_Matches
  rw [if_neg (by simp only [decide_eq_true_eq]; omega), Option.bind_some, decide_eq_false (show ¬ 64 < (os.length : Int) by omega), if_neg (by decide)]
  rw [show (if (decide ((1 : Int) < 1)) = true then some true else (if (decide ((1000 : Int) < 1)) = true then some true else (if (decide ((1 : Int) < 1)) = true then some true else some (decide ((1000 : Int) < 1))))) = some false by rfl, Option.bind_some, if_neg (by decide)]
  have : ∃ ms, loopM FUEL (fun s : List (Int × Int × Int) × Int => neighbour_Matches_s1 ws os 1 1 s.1 s.2) ([], 0) = some ms ∧ ms.length = ws.length ∧ ∀ i : Nat, i < ws.length → ∃ j : Nat, ms[i]? = some ((i : Int), (j : Int), 0) ∧ os[j]? = ws[i]? := by
    refine loop_inv (fun k s => s.2 = (k : Int) ∧ k ≤ ws.length ∧ s.1.length = k ∧ ∀ i : Nat, i < k → ∃ j : Nat, s.1[i]? = some ((i : Int), (j : Int), 0) ∧ os[j]? = ws[i]?) _ ws.length (by unfold FUEL; omega) _ ⟨rfl, Nat.zero_le _, rfl, fun i hi => by omega⟩ ?_
    rintro k ⟨l, z⟩ ⟨hz, hk, hl, hA⟩
    dsimp only at hz hl hA
    subst hz
    show (∃ s', neighbour_Matches_s1 ws os 1 1 l (k : Int) = some (.next s') ∧ _) ∨ (∃ x, neighbour_Matches_s1 ws os 1 1 l (k : Int) = some (.done x) ∧ _)
    unfold neighbour_Matches_s1
    by_cases c : k < ws.length
    · left
      have hmem := List.getElem_mem c
      have hgk : ws[k]? = some ws[k] := List.getElem?_eq_getElem c
      obtain ⟨y, e, f1, f2, f3, f4⟩ := near_ok (z := -1) ho (hw _ hmem) h2
      obtain ⟨j, rfl, rfl, g1, g2⟩ := f4 rfl (hin _ hmem)
      have hjl := (List.getElem?_eq_some_iff.1 g1).1
      have hjv := (List.getElem?_eq_some_iff.1 g1).2
      obtain ⟨y2, e2, q1, q2, q3, q4⟩ := near_ok (z := -1) hw (hw _ hmem) h1
      obtain ⟨i, rfl, rfl, r1, r2⟩ := q4 rfl hmem
      have hik : i = k := by
        have hil := (List.getElem?_eq_some_iff.1 r1).1
        have hiv := (List.getElem?_eq_some_iff.1 r1).2
        rcases Nat.lt_trichotomy i k with h | h | h
        · exact absurd hiv (List.pairwise_iff_getElem.1 hd i k hil c h)
        · exact h
        · exact absurd hgk (r2 k h)
      subst hik
      rw [if_pos (by simp only [decide_eq_true_eq]; omega), ix_lt ws i c, Option.bind_some, f1, Option.bind_some]
      dsimp only
      rw [if_neg (by simp only [decide_eq_true_eq]; omega), ix_lt os j hjl, Option.bind_some, hjv, q1, Option.bind_some]
      dsimp only
      rw [if_pos (by simp), mc1_ok ho (hw _ hmem) h2, Option.bind_some, if_pos rfl, Option.bind_some, mc1_ok hw (hw _ hmem) h1, Option.bind_some, Option.bind_some, if_pos rfl, chk_pos (by omega), Option.bind_some, w64_id (by omega) (by omega)]
      refine ⟨_, rfl, ⟨by push_cast; rfl, by omega, by simp [hl], fun i' hi' => ?_⟩, c⟩
      dsimp only
      by_cases he : i' = i
      · subst he
        refine ⟨j, ?_, by rw [g1, hgk]⟩
        rw [List.getElem?_append_right (by omega), hl, Nat.sub_self]
        rfl
      · obtain ⟨j', s1, s2⟩ := hA i' (by omega)
        exact ⟨j', by rw [List.getElem?_append_left (by omega)]; exact s1, s2⟩
    · right
      rw [if_neg (by simp only [decide_eq_true_eq]; omega)]
      exact ⟨l, rfl, by omega, fun i hi => hA i (by omega)⟩
  obtain ⟨ms, e1, e2, e3⟩ := this
  exact ⟨ms, by rw [e1]; rfl, e2, e3⟩
end Go.Proofs.Ytbolefkhmfbnlaa
