/-
  PLAIN: what a range holds once its elements have changed places; heap sort.
-/
import Derived.Test.YtbolefkhmfbnlaaPSortf
set_option linter.unusedSimpArgs false
set_option linter.unusedVariables false
namespace Go.E
theorem count_mid {l : List Int} {a b : Nat} (hab : a ≤ b) (v : Int) : cnt l v = (l.take a).count v + ((l.take b).drop a).count v + (l.drop b).count v := by
  unfold cnt
  have h1 : l = l.take b ++ l.drop b := (List.take_append_drop b l).symm
  have h2 : l.take b = (l.take b).take a ++ (l.take b).drop a := (List.take_append_drop a (l.take b)).symm
  have h3 : (l.take b).take a = l.take a := by rw [List.take_take, Nat.min_eq_left hab]
  rw [h3] at h2
  calc l.count v = (l.take b ++ l.drop b).count v := by rw [← h1]
    _ = (l.take b).count v + (l.drop b).count v := List.count_append ..
    _ = (l.take a ++ (l.take b).drop a).count v + (l.drop b).count v := by rw [← h2]
    _ = _ := by rw [List.count_append]
theorem Mx.mem {a b : Nat} {l l' : List Int} (h : Mx a b l l') (hb : b ≤ l.length) {x : Nat} (hx : a ≤ x ∧ x < b) : ∃ y, a ≤ y ∧ y < b ∧ l.getD y 0 = l'.getD x 0 := by
  obtain ⟨h1, h2, h3⟩ := h
  have hget : ∀ k, k < a ∨ b ≤ k → l'[k]? = l[k]? := fun k hk => by
    have := h3 k hk
    by_cases hl : k < l.length
    · rw [List.getElem?_eq_getElem hl, List.getElem?_eq_getElem (by omega)]
      rw [getD_eq (by omega), getD_eq hl] at this
      rw [this]
    · rw [List.getElem?_eq_none (by omega), List.getElem?_eq_none (by omega)]
  have ht : l'.take a = l.take a := by
    apply List.ext_getElem?
    intro k
    rw [List.getElem?_take, List.getElem?_take]
    split
    · exact hget k (by omega)
    · rfl
  have hd : l'.drop b = l.drop b := by
    apply List.ext_getElem?
    intro k
    rw [List.getElem?_drop, List.getElem?_drop]
    exact hget _ (by omega)
  obtain ⟨v, hv⟩ : ∃ v, v = l'.getD x 0 := ⟨_, rfl⟩
  have hc : ((l'.take b).drop a).count v = ((l.take b).drop a).count v := by
    have c1 := count_mid (l := l') (a := a) (b := b) (by omega) v
    have c2 := count_mid (l := l) (a := a) (b := b) (by omega) v
    have c3 := h2 v
    rw [ht, hd] at c1
    omega
  have hm : v ∈ (l'.take b).drop a := by
    apply List.mem_of_getElem? (i := x - a)
    rw [List.getElem?_drop, List.getElem?_take, if_pos (by omega), show a + (x - a) = x by omega, List.getElem?_eq_getElem (by omega), hv, getD_eq (by omega)]
  have hm2 : v ∈ (l.take b).drop a := by
    rw [← List.count_pos_iff] at hm ⊢
    omega
  obtain ⟨i, hi⟩ := List.getElem?_of_mem hm2
  rw [List.getElem?_drop, List.getElem?_take] at hi
  split at hi
  · refine ⟨a + i, by omega, by omega, ?_⟩
    rw [← hv, getD_eq (List.getElem?_eq_some_iff.1 hi).1]
    exact (List.getElem?_eq_some_iff.1 hi).2
  · cases hi
end Go.E
namespace Go.Proofs.Ytbolefkhmfbnlaa
open Go.E

/-- The heap's order from lo on, in the hi places from f on. -/
def Hp (f lo hi : Nat) (l : List Int) : Prop := ∀ r c, lo ≤ r → c = 2 * r + 1 ∨ c = 2 * r + 2 → c < hi → l.getD (f + c) 0 ≤ l.getD (f + r) 0
theorem Hp.top {f hi : Nat} {l : List Int} (h : Hp f 0 hi l) : ∀ n r, r ≤ n → r < hi → l.getD (f + r) 0 ≤ l.getD f 0
  | 0, r, h1, h2 => by
    obtain rfl : r = 0 := by omega
    exact Int.le_refl _
  | n + 1, r, h1, h2 => by
    by_cases hr : r = 0
    · subst hr; exact Int.le_refl _
    · have h3 := h ((r - 1) / 2) r (by omega) (by omega) h2
      have h4 := Hp.top h n ((r - 1) / 2) (by omega) (by omega)
      omega

theorem sift_ok {l0 : List Int} {f lo hi : Nat} (hh : f + hi ≤ l0.length) (hn : l0.length ≤ 1000) (hlo : lo ≤ hi) (hp : Hp f (lo + 1) hi l0) :
    ∃ l, slices_siftDownOrdered_uint64 l0 lo hi f = some l ∧ Mx f (f + hi) l0 l ∧ Hp f lo hi l := by
  unfold slices_siftDownOrdered_uint64
  have : ∃ r : List Int ⊕ List Int, loopM FUEL (fun s : List Int × Int => slices_siftDownOrdered_uint64_s1 hi f s.1 s.2) (l0, (lo : Int)) = some r ∧ ∃ l, (r = .inl l ∨ r = .inr l) ∧ Mx f (f + hi) l0 l ∧ Hp f lo hi l := by
    refine loop_inv (fun k s => ∃ r : Nat, s.2 = (r : Int) ∧ lo + k ≤ r ∧ (r < hi ∨ k = 0) ∧ r ≤ hi ∧ Mx f (f + hi) l0 s.1 ∧ (∀ q c, lo ≤ q → q ≠ r → c = 2 * q + 1 ∨ c = 2 * q + 2 → c < hi → s.1.getD (f + c) 0 ≤ s.1.getD (f + q) 0) ∧ (∀ q c, lo ≤ q → r = 2 * q + 1 ∨ r = 2 * q + 2 → c = 2 * r + 1 ∨ c = 2 * r + 2 → c < hi → s.1.getD (f + c) 0 ≤ s.1.getD (f + q) 0)) _ hi (by unfold FUEL; omega) _
      ⟨lo, rfl, by omega, .inr rfl, hlo, Mx.refl _ _ _, fun q c h1 h2 h3 h4 => hp q c (by omega) h3 h4, fun q c h1 h2 h3 h4 => by omega⟩ ?_
    rintro k ⟨l, z⟩ ⟨r, hz, hk, hr, hrh, hm, h1, h2⟩
    dsimp only at hz hm h1 h2
    subst hz
    have hlen := hm.1
    show (∃ s', slices_siftDownOrdered_uint64_s1 hi f l (r : Int) = some (.next s') ∧ _) ∨ (∃ x, slices_siftDownOrdered_uint64_s1 hi f l (r : Int) = some (.done x) ∧ _)
    unfold slices_siftDownOrdered_uint64_s1
    have w1 : w64 ((w64 (2 * (r : Int))) + 1) = ((2 * r + 1 : Nat) : Int) := by rw [w64_id (z := 2 * (r : Int)) (by omega) (by omega), w64_id (by omega) (by omega)]; push_cast; rfl
    have w2 : w64 (((2 * r + 1 : Nat) : Int) + 1) = ((2 * r + 2 : Nat) : Int) := by rw [w64_id (by omega) (by omega)]; push_cast; omega
    have w3 : ∀ c : Nat, c ≤ 10000 → w64 ((f : Int) + (c : Int)) = ((f + c : Nat) : Int) := fun c hc => by rw [w64_id (by omega) (by omega)]; push_cast; rfl
    have w4 : w64 (((f + (2 * r + 1) : Nat) : Int) + 1) = ((f + (2 * r + 2) : Nat) : Int) := by rw [w64_id (by omega) (by omega)]; push_cast; omega
    rw [w1, w2, w3 (2 * r + 1) (by omega), w4, w3 r (by omega)]
    by_cases c1 : hi ≤ 2 * r + 1
    · right
      rw [if_pos (by simp only [decide_eq_true_eq]; omega)]
      refine ⟨_, rfl, l, .inr rfl, hm, fun q c q1 q2 q3 => ?_⟩
      by_cases e : q = r
      · omega
      · exact h1 q c q1 e q2 q3
    · rw [if_neg (by simp only [decide_eq_true_eq]; omega)]
      -- the greater child
      have hch : ∃ c : Nat, (c = 2 * r + 1 ∨ c = 2 * r + 2) ∧ c < hi ∧ (∀ d, d = 2 * r + 1 ∨ d = 2 * r + 2 → d < hi → l.getD (f + d) 0 ≤ l.getD (f + c) 0) ∧
          ((if decide (((2 * r + 2 : Nat) : Int) < (hi : Int)) = true then (ix l ((f + (2 * r + 1) : Nat) : Int)).bind fun v_11 => (ix l ((f + (2 * r + 2) : Nat) : Int)).bind fun v_12 => (cmp_Less_uint64 v_11 v_12).bind fun y_13 => some y_13 else some false).bind fun s_4 => (if s_4 = true then some (((2 * r + 2 : Nat) : Int)) else some (((2 * r + 1 : Nat) : Int)))) = some (c : Int) := by
        by_cases c2 : 2 * r + 2 < hi
        · rw [if_pos (by simp only [decide_eq_true_eq]; omega), ix_getD (i := f + (2 * r + 1)) rfl (by omega) 0, Option.bind_some, ix_getD (i := f + (2 * r + 2)) rfl (by omega) 0, Option.bind_some, less_eq, Option.bind_some, Option.bind_some]
          by_cases c3 : l.getD (f + (2 * r + 1)) 0 < l.getD (f + (2 * r + 2)) 0
          · rw [if_pos (decide_eq_true c3)]
            exact ⟨2 * r + 2, .inr rfl, c2, fun d hd _ => by rcases hd with rfl | rfl <;> omega, rfl⟩
          · rw [if_neg (by simpa using c3)]
            exact ⟨2 * r + 1, .inl rfl, by omega, fun d hd _ => by rcases hd with rfl | rfl <;> omega, rfl⟩
        · rw [if_neg (by simp only [decide_eq_true_eq]; omega), Option.bind_some, if_neg (by decide)]
          exact ⟨2 * r + 1, .inl rfl, by omega, fun d hd hd2 => by
            rcases hd with rfl | rfl
            · omega
            · omega, rfl⟩
      obtain ⟨c, hc1, hc2, hc3, hce⟩ := hch
      have hbind : ∀ {β : Type} (o : Option Bool) (g : Bool → Option Int) (h : Int → Option β), (o.bind fun s => (g s).bind h) = (o.bind g).bind h := fun o g h => by cases o <;> rfl
      rw [hbind, hce, Option.bind_some, w3 c (by omega), ix_getD (i := f + r) rfl (by omega) 0, Option.bind_some, ix_getD (i := f + c) rfl (by omega) 0, Option.bind_some, less_eq, Option.bind_some]
      by_cases c4 : l.getD (f + r) 0 < l.getD (f + c) 0
      · left
        rw [decide_eq_true c4, if_neg (by decide), Option.bind_some, Option.bind_some, chk_pos (by omega), List.length_set, chk_pos (by omega), show (((f + r : Nat) : Int)).toNat = f + r by omega, show (((f + c : Nat) : Int)).toNat = f + c by omega, swp_sets]
        have hg := fun k => swp_getD (l := l) (i := f + r) (j := f + c) (by omega) (by omega) k
        refine ⟨_, rfl, ⟨c, rfl, by omega, .inl hc2, by omega, hm.trans (Mx.swp (by omega) (by omega) (by omega)), fun q d q1 q2 q3 q4 => ?_, fun q d q1 q2 q3 q4 => ?_⟩, by omega⟩
        · dsimp only
          rw [hg, hg]
          by_cases e1 : q = r
          · subst e1
            rw [if_neg (show ¬ f + q = f + c by omega), if_pos rfl]
            by_cases e2 : d = c
            · rw [if_pos (by omega)]; omega
            · rw [if_neg (by omega), if_neg (by omega)]
              exact hc3 d q3 q4
          · rw [if_neg (show ¬ f + q = f + c by omega), if_neg (show ¬ f + q = f + r by omega)]
            have hdc : d ≠ c := by omega
            rw [if_neg (by omega)]
            by_cases e3 : d = r
            · rw [if_pos (by omega)]
              exact h2 q c q1 (by omega) hc1 hc2
            · rw [if_neg (by omega)]
              exact h1 q d q1 e1 q3 q4
        · dsimp only
          have hqr : q = r := by omega
          subst hqr
          rw [hg, hg, if_neg (show ¬ f + d = f + c by omega), if_neg (show ¬ f + d = f + q by omega), if_neg (show ¬ f + q = f + c by omega), if_pos rfl]
          exact h1 c d (by omega) (by omega) q3 q4
      · right
        rw [decide_eq_false c4, if_pos (by decide)]
        refine ⟨_, rfl, l, .inl rfl, hm, fun q d q1 q2 q3 => ?_⟩
        by_cases e : q = r
        · subst e
          have := hc3 d q2 q3
          omega
        · exact h1 q d q1 e q2 q3
  obtain ⟨r, e1, l, e2, e3, e4⟩ := this
  refine ⟨l, ?_, e3, e4⟩
  rw [e1]
  rcases e2 with rfl | rfl <;> rfl

theorem heap_ok {l0 : List Int} {a b : Nat} (hab : a < b) (hb : b ≤ l0.length) (hn : l0.length ≤ 1000) :
    ∃ l, slices_heapSortOrdered_uint64 l0 a b = some l ∧ Mx a b l0 l ∧ Srt a b l := by
  obtain ⟨n, rfl⟩ : ∃ n : Nat, b = a + n := ⟨b - a, by omega⟩
  unfold slices_heapSortOrdered_uint64
  have hw : w64 (((a + n : Nat) : Int) - (a : Int)) = (n : Int) := by rw [w64_id (by omega) (by omega)]; omega
  have hw1 : w64 ((n : Int) - 1) = ((n - 1 : Nat) : Int) := by rw [w64_id (by omega) (by omega)]; omega
  have hd : w64 (Int.tdiv ((n - 1 : Nat) : Int) 2) = (((n - 1) / 2 : Nat) : Int) := by
    rw [show Int.tdiv ((n - 1 : Nat) : Int) 2 = (((n - 1) / 2 : Nat) : Int) from rfl, w64_id (by omega) (by omega)]
  rw [hw, hw1, hd]
  have p1 : ∃ l, loopM FUEL (fun s : List Int × Int => slices_heapSortOrdered_uint64_s1 a ((a + n : Nat) : Int) s.1 s.2) (l0, (((n - 1) / 2 : Nat) : Int)) = some l ∧ Mx a (a + n) l0 l ∧ Hp a 0 n l := by
    refine loop_inv (fun k s => s.2 = (((n - 1) / 2 : Nat) : Int) - (k : Int) ∧ k ≤ (n - 1) / 2 + 1 ∧ Mx a (a + n) l0 s.1 ∧ Hp a ((n - 1) / 2 + 1 - k) n s.1) _ n (by unfold FUEL; omega) _
      ⟨by simp, by omega, Mx.refl _ _ _, fun r c h1 h2 h3 => by omega⟩ ?_
    rintro k ⟨l, z⟩ ⟨hz, hk, hm, hp⟩
    dsimp only at hz hm hp
    subst hz
    have hlen := hm.1
    show (∃ s', slices_heapSortOrdered_uint64_s1 a ((a + n : Nat) : Int) l _ = some (.next s') ∧ _) ∨ (∃ x, slices_heapSortOrdered_uint64_s1 a ((a + n : Nat) : Int) l _ = some (.done x) ∧ _)
    unfold slices_heapSortOrdered_uint64_s1
    rw [hw]
    by_cases c : k ≤ (n - 1) / 2
    · left
      obtain ⟨l2, e1, e2, e3⟩ := sift_ok (l0 := l) (f := a) (lo := (n - 1) / 2 - k) (hi := n) (by omega) (by omega) (by omega) (by rw [show (n - 1) / 2 - k + 1 = (n - 1) / 2 + 1 - k by omega]; exact hp)
      rw [if_pos (by simp only [decide_eq_true_eq]; omega), show (((n - 1) / 2 : Nat) : Int) - (k : Int) = (((n - 1) / 2 - k : Nat) : Int) by omega, e1, Option.bind_some, w64_id (by omega) (by omega)]
      exact ⟨_, rfl, ⟨by dsimp only; omega, by omega, hm.trans e2, by rw [show (n - 1) / 2 + 1 - (k + 1) = (n - 1) / 2 - k by omega]; exact e3⟩, by omega⟩
    · right
      rw [if_neg (by simp only [decide_eq_true_eq]; omega)]
      refine ⟨l, rfl, hm, ?_⟩
      rw [show (n - 1) / 2 + 1 - k = 0 by omega] at hp
      exact hp
  obtain ⟨l1, e1, e2, e3⟩ := p1
  rw [e1, Option.bind_some]
  have hl1 := e2.1
  have p2 : ∃ l, loopM FUEL (fun s : List Int × Int => slices_heapSortOrdered_uint64_s2 a s.1 s.2) (l1, ((n - 1 : Nat) : Int)) = some l ∧ Mx a (a + n) l0 l ∧ Srt a (a + n) l := by
    refine loop_inv (fun k s => s.2 = (n : Int) - 1 - (k : Int) ∧ k ≤ n ∧ Mx a (a + n) l0 s.1 ∧ Hp a 0 (n - k) s.1 ∧ ∀ x y, a ≤ x → x < y → y < a + n → a + (n - k) ≤ y → s.1.getD x 0 ≤ s.1.getD y 0) _ n (by unfold FUEL; omega) _
      ⟨by dsimp only; omega, by omega, e2, e3, fun x y h1 h2 h3 h4 => by omega⟩ ?_
    rintro k ⟨l, z⟩ ⟨hz, hk, hm, hp, hs⟩
    dsimp only at hz hm hp hs
    subst hz
    have hlen := hm.1
    show (∃ s', slices_heapSortOrdered_uint64_s2 a l ((n : Int) - 1 - (k : Int)) = some (.next s') ∧ _) ∨ (∃ x, slices_heapSortOrdered_uint64_s2 a l ((n : Int) - 1 - (k : Int)) = some (.done x) ∧ _)
    unfold slices_heapSortOrdered_uint64_s2
    by_cases c : k < n
    · left
      obtain ⟨i, hi⟩ : ∃ i : Nat, i + 1 = n - k := ⟨n - k - 1, by omega⟩
      have hz : (n : Int) - 1 - (k : Int) = (i : Int) := by omega
      rw [hz, if_pos (by simp only [decide_eq_true_eq]; omega), show w64 ((a : Int) + (i : Int)) = ((a + i : Nat) : Int) by rw [w64_id (by omega) (by omega)]; push_cast; rfl, ix_getD (i := a + i) rfl (by omega) 0, Option.bind_some, ix_getD (i := a) rfl (by omega) 0, Option.bind_some, chk_pos (by omega), List.length_set, chk_pos (by omega), show ((a : Int)).toNat = a by omega, show (((a + i : Nat) : Int)).toNat = a + i by omega, swp_sets]
      have hg := fun k => swp_getD (l := l) (i := a) (j := a + i) (by omega) (by omega) k
      have hsl := swp_len l a (a + i)
      have hmax : ∀ x, a ≤ x → x ≤ a + i → l.getD x 0 ≤ l.getD a 0 := fun x q1 q2 => by
        have := hp.top (x - a) (x - a) (Nat.le_refl _) (by omega)
        rwa [show a + (x - a) = x by omega] at this
      obtain ⟨l2, f1, f2, f3⟩ := sift_ok (l0 := swp l a (a + i)) (f := a) (lo := 0) (hi := i) (by omega) (by omega) (by omega) (fun r c q1 q2 q3 => by
        rw [hg, hg, if_neg (by omega), if_neg (by omega), if_neg (by omega), if_neg (by omega)]
        exact hp r c (by omega) q2 (by omega))
      have f1' : slices_siftDownOrdered_uint64 (swp l a (a + i)) 0 (i : Int) (a : Int) = some l2 := f1
      rw [f1', Option.bind_some, w64_id (by omega) (by omega)]
      refine ⟨_, rfl, ⟨by dsimp only; omega, by omega, (hm.trans (Mx.swp (by omega) (by omega) (by omega))).trans (f2.wider (by omega) (by omega)), ?_, fun x y q1 q2 q3 q4 => ?_⟩, by omega⟩
      · rw [show n - (k + 1) = i by omega]
        exact f3
      · dsimp only
        have hy : l2.getD y 0 = (swp l a (a + i)).getD y 0 := f2.2.2 y (by omega)
        rw [hy]
        have hx : ∃ x', a ≤ x' ∧ x' ≤ a + i ∧ l2.getD x 0 = l.getD x' 0 ∨ (a + i < x ∧ l2.getD x 0 = l.getD x 0) := by
          by_cases hxi : x < a + i
          · obtain ⟨x', g1, g2, g3⟩ := f2.mem (by omega) (x := x) ⟨q1, hxi⟩
            rw [hg] at g3
            by_cases h5 : x' = a
            · rw [if_neg (by omega), if_pos h5] at g3
              exact ⟨a + i, .inl ⟨by omega, by omega, g3.symm⟩⟩
            · rw [if_neg (by omega), if_neg h5] at g3
              exact ⟨x', .inl ⟨by omega, by omega, g3.symm⟩⟩
          · have hx2 : l2.getD x 0 = (swp l a (a + i)).getD x 0 := f2.2.2 x (by omega)
            rw [hx2, hg]
            by_cases h5 : x = a + i
            · rw [if_pos h5]
              exact ⟨a, .inl ⟨by omega, by omega, rfl⟩⟩
            · rw [if_neg h5, if_neg (by omega)]
              exact ⟨x, .inr ⟨by omega, rfl⟩⟩
        rw [hg]
        by_cases hyi : y = a + i
        · rw [if_pos hyi]
          obtain ⟨x', ⟨g1, g2, g3⟩ | ⟨g1, g3⟩⟩ := hx
          · rw [g3]; exact hmax x' g1 g2
          · omega
        · rw [if_neg hyi, if_neg (by omega)]
          obtain ⟨x', ⟨g1, g2, g3⟩ | ⟨g1, g3⟩⟩ := hx
          · rw [g3]; exact hs x' y g1 (by omega) q3 (by omega)
          · rw [g3]; exact hs x y q1 q2 q3 (by omega)
    · right
      rw [if_neg (by simp only [decide_eq_true_eq]; omega)]
      exact ⟨l, rfl, hm, fun x y q1 q2 q3 => hs x y q1 q2 q3 (by omega)⟩
  obtain ⟨l2, g1, g2, g3⟩ := p2
  exact ⟨l2, by rw [g1]; rfl, g2, g3⟩
end Go.Proofs.Ytbolefkhmfbnlaa
