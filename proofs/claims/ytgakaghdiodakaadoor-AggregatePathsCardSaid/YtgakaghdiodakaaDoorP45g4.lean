/-
  PLAIN, chapter 45, door seat: Paths, Sums.
-/
import Derived.Test.YtgakaghdiodakaaDoorP45g3
set_option linter.unusedSimpArgs false
set_option linter.unusedVariables false
namespace Go.Proofs.YtgakaghdiodakaaDoor
open Go.E

theorem im_of {W H D : Nat} {cs : List Int} {p q : Int} (w1 : 0 < W) (y1 : 0 < H) (d1 : 0 < D) (hn : cs.length = H * W * D) (h6 : cs.length ≤ 600) (hz : ∀ z ∈ cs, 0 ≤ z ∧ z ≤ 1048576) (hp : PB p q) : Im W H D cs p q := ⟨w1, y1, d1, hn, h6, hp, fun i d => cC_all hz D i d⟩
theorem same_self (W H D : Int) (l : List Int) (h : l.length ≤ 1000000) : fiduciallaw45_Same W H D l W H D l = some true := by
  unfold fiduciallaw45_Same
  rw [if_pos (by simp), if_pos (by simp), if_pos (by simp), equal_self l h]
  rfl
theorem cs_at {D : Nat} {cs : List Int} {z : Nat} (hz : z < cs.length) : ix cs (z : Int) = some (cC cs D (z / D) (z % D)) := by
  rw [ix_getD rfl hz 0]
  unfold cC
  have e := Nat.div_add_mod z D
  rw [Nat.mul_comm] at e
  rw [e]

theorem paths_true (W0 H0 D0 : Int) (cs : List Int) (p q n0 : Int) : fiduciallaw45_AggregatePaths W0 H0 D0 cs p q n0 = some true := by
  unfold fiduciallaw45_AggregatePaths
  rw [known45, Option.bind_some, if_neg (by decide)]
  unfold fiduciallaw45_small
  rw [Option.bind_some]
  by_cases h6 : cs.length ≤ 600
  · rw [if_neg (by simp; omega)]
    unfold aggregate_Path
    rcases image_cases (W0 := W0) (H0 := H0) (D0 := D0) h6 p q with ⟨W, H, D, rfl, rfl, rfl, w1, w2, y1, y2, d1, d2, hn, hz, hp, g1, g2⟩ | ⟨k, hk, g1, g2⟩
    · rw [g1, g2]
      simp only [Option.bind_some]
      rw [if_neg (by decide)]
      by_cases c1 : n0 < 0
      · simp [c1, fiduciallaw45_empty]
      · by_cases c2 : 7 < n0
        · simp [c1, c2, fiduciallaw45_empty]
        · obtain ⟨n, rfl⟩ : ∃ n : Nat, n0 = n := ⟨n0.toNat, by omega⟩
          have hn8 : n < 8 := by omega
          have h := im_of w1 y1 d1 hn h6 hz hp
          have e1 := path_eq h hn8
          have e2 := lpath_eq h hn8
          rw [e1, e2]
          rw [if_neg (show ¬ decide ((n : Int) < 0) = true by simp)]
          simp only [Option.bind_some]
          rw [decide_eq_false c2]
          simp only [Option.bind_some, Bool.false_eq_true, if_false]
          rw [if_pos (show ((0 : Int) == 0) = true from rfl)]
          simp only [Option.bind_some, Bool.false_eq_true, if_false]
          rw [if_neg (show ¬ ((0 : Int) != 0) = true by decide), same_self _ _ _ _ (by rw [mp_len]; omega)]
          simp only [Option.bind_some, Bool.not_true, Bool.false_eq_true, if_false]
          have hl : loopM FUEL (fun s : Int => fiduciallaw45_AggregatePaths_s1 cs q (mp (H * W * D) D (vV p q W H D cs n)) s) 0 = some (.inr ()) := by
            refine loop_go (fun i => (i : Int)) (H * W * D) (by unfold FUEL; omega) rfl (fun z hz2 => ?_) ?_
            · show fiduciallaw45_AggregatePaths_s1 cs q (mp (H * W * D) D (vV p q W H D cs n)) (z : Int) = _
              have hb := h.vb n (z / D) (z % D)
              have hc := h.hc (z / D) (z % D)
              have hq := hp.2.2
              unfold fiduciallaw45_AggregatePaths_s1
              have ey : ix (mp (H * W * D) D (vV p q W H D cs n)) (z : Int) = some (vV p q W H D cs n (z / D) (z % D)) := row_ix _ _ rfl hz2
              rw [mp_len, if_pos (by simp only [decide_eq_true_eq]; omega), ey, Option.bind_some, cs_at (D := D) (by omega), Option.bind_some, if_neg (by simp only [decide_eq_true_eq]; omega), Option.bind_some, w64_id (z := cC cs D (z / D) (z % D) + q) (by omega) (by omega), decide_eq_false (by omega), Option.bind_some, if_neg (by decide), w64_id (by omega) (by omega)]
              rfl
            · show fiduciallaw45_AggregatePaths_s1 cs q (mp (H * W * D) D (vV p q W H D cs n)) ((H * W * D : Nat) : Int) = _
              unfold fiduciallaw45_AggregatePaths_s1
              rw [mp_len, if_neg (by simp)]
          rw [hl]
          rfl
    · rw [g1, g2]
      simp [hk, fiduciallaw45_empty]
  · rw [if_pos (by simp; omega)]

/-! ### Sums -/

def badB (l : List Int) (i : Nat) : Bool := decide (l.getD i 0 < 0 ∨ 7 < l.getD i 0 ∨ (0 < i ∧ l.getD i 0 ≤ l.getD (i - 1) 0))
theorem bad_eq {l : List Int} {i : Nat} (hi : i < l.length) (hl : l.length ≤ 1000) : (if decide (l.getD i 0 < 0) = true then some true else if decide (7 < l.getD i 0) = true then some true else if decide (0 < (i : Int)) = true then (ix l (w64 ((i : Int) - 1))).bind fun v => some (decide (l.getD i 0 ≤ v)) else some false) = some (badB l i) := by
  unfold badB
  by_cases c1 : l.getD i 0 < 0
  · rw [if_pos (decide_eq_true c1), decide_eq_true (.inl c1)]
  · rw [if_neg (by simpa using c1)]
    by_cases c2 : 7 < l.getD i 0
    · rw [if_pos (decide_eq_true c2), decide_eq_true (.inr (.inl c2))]
    · rw [if_neg (by simpa using c2)]
      by_cases c3 : 0 < i
      · rw [if_pos (by simp only [decide_eq_true_eq]; omega), w64_id (by omega) (by omega), ix_getD (i := i - 1) (by omega) (by omega) 0, Option.bind_some]
        by_cases c4 : l.getD i 0 ≤ l.getD (i - 1) 0
        · rw [decide_eq_true c4, decide_eq_true (.inr (.inr ⟨c3, c4⟩))]
        · rw [decide_eq_false c4, decide_eq_false (by omega)]
      · rw [if_neg (by simp only [decide_eq_true_eq]; omega), decide_eq_false (by omega)]

section
variable {W H D : Nat} {cs : List Int} {p q : Int}
def sF (p q : Int) (W H D : Nat) (cs l : List Int) : Nat → Nat → Nat → Int
  | 0, _, _ => 0
  | k + 1, m, e => sF p q W H D cs l k m e + vV p q W H D cs (l.getD k 0).toNat m e
theorem sF_bound (h : Im W H D cs p q) (l : List Int) (m e : Nat) : ∀ k : Nat, 0 ≤ sF p q W H D cs l k m e ∧ sF p q W H D cs l k m e ≤ k * 2097152
  | 0 => by simp [sF]
  | k + 1 => by
    have h1 := sF_bound h l m e k
    have h2 := h.vb2 (l.getD k 0).toNat m e
    simp only [sF]
    push_cast
    omega
theorem add_loop {M : Nat} (hM : M ≤ 600) (f g : Nat → Nat → Int) (hf : ∀ m e, 0 ≤ f m e ∧ f m e ≤ 1099511627776) (hg : ∀ m e, 0 ≤ g m e ∧ g m e ≤ 1099511627776) :
    loopM FUEL (fun s : List Int × Int => aggregate_Sum_s3 (mp M D g) s.1 s.2) (mp M D f, 0) = some (mp M D (fun m e => f m e + g m e)) := by
  refine setrow (by omega) (fun x hx => ?_) (fun l => ?_)
  · show aggregate_Sum_s3 (mp M D g) (row M (mixf (fun z => f (z / D) (z % D)) (fun z => f (z / D) (z % D) + g (z / D) (z % D)) x)) (x : Int) = _
    have h1 := hf (x / D) (x % D)
    have h2 := hg (x / D) (x % D)
    unfold aggregate_Sum_s3
    have ey : ix (mp M D g) (x : Int) = some (g (x / D) (x % D)) := row_ix _ _ rfl hx
    rw [mp_len, if_pos (by simp only [decide_eq_true_eq]; omega), ey, Option.bind_some, row_ix _ _ rfl hx, Option.bind_some, row_len, chk_pos (by omega), mixf_at, show ((x : Int)).toNat = x by omega, w64_id (z := f (x / D) (x % D) + g (x / D) (x % D)) (by omega) (by omega), w64_id (z := (x : Int) + 1) (by omega) (by omega)]
    have := mixf_set (W := M) (fun z => f (z / D) (z % D)) (fun z => f (z / D) (z % D) + g (z / D) (z % D)) hx
    rw [this]
    rfl
  · show aggregate_Sum_s3 (mp M D g) l (M : Int) = _
    unfold aggregate_Sum_s3
    rw [mp_len, if_neg (by simp)]
theorem add_loop2 {M : Nat} (hM : M ≤ 600) (f g : Nat → Nat → Int) (hf : ∀ m e, 0 ≤ f m e ∧ f m e ≤ 1099511627776) (hg : ∀ m e, 0 ≤ g m e ∧ g m e ≤ 1099511627776) :
    loopM FUEL (fun s : List Int × Int => fiduciallaw45_AggregateSums_s2 (mp M D g) s.1 s.2) (mp M D f, 0) = some (mp M D (fun m e => f m e + g m e)) := add_loop hM f g hf hg

theorem sum_loop (h : Im W H D cs p q) {l : List Int} (hl : l.length ≤ 20) (hd : ∀ i, i < l.length → badB l i = false) :
    loopM FUEL (fun s : List Int × Int => aggregate_Sum_s2 W H D cs p q l s.1 s.2) (mp (H * W * D) D (fun _ _ => 0), 0) = some (mp (H * W * D) D (sF p q W H D cs l l.length)) ∧
    loopM FUEL (fun s : List Int × Int => fiduciallaw45_AggregateSums_s1 W H D cs p q l s.1 s.2) (mp (H * W * D) D (fun _ _ => 0), 0) = some (mp (H * W * D) D (sF p q W H D cs l l.length)) := by
  have h1 := h.hn
  have h2 := h.h6
  have hdir : ∀ i, i < l.length → ∃ n : Nat, n < 8 ∧ l.getD i 0 = (n : Int) := fun i hi => by
    have := hd i hi
    unfold badB at this
    have := of_decide_eq_false this
    exact ⟨(l.getD i 0).toNat, by omega, by omega⟩
  have hF : ∀ k, k ≤ 20 → ∀ m e, 0 ≤ sF p q W H D cs l k m e ∧ sF p q W H D cs l k m e ≤ 1099511627776 := fun k hk m e => by
    have := sF_bound h l m e k
    have : (k : Int) * 2097152 ≤ 20 * 2097152 := Int.mul_le_mul_of_nonneg_right (by omega) (by omega)
    omega
  have hV : ∀ n m e, 0 ≤ vV p q W H D cs n m e ∧ vV p q W H D cs n m e ≤ 1099511627776 := fun n m e => by
    have := h.vb2 n m e
    omega
  constructor
  · refine loop_go (fun k => (mp (H * W * D) D (sF p q W H D cs l k), (k : Int))) l.length (by unfold FUEL; omega) rfl (fun k hk => ?_) ?_
    · show aggregate_Sum_s2 W H D cs p q l (mp (H * W * D) D (sF p q W H D cs l k)) (k : Int) = _
      obtain ⟨n, hn, he⟩ := hdir k hk
      unfold aggregate_Sum_s2
      rw [if_pos (by simp only [decide_eq_true_eq]; omega), ix_getD rfl hk 0, Option.bind_some, he, path_eq h hn]
      simp only [Option.bind_some]
      rw [add_loop (by omega) _ _ (hF k (by omega)) (hV n), Option.bind_some, w64_id (by omega) (by omega)]
      have : (fun m e => sF p q W H D cs l k m e + vV p q W H D cs n m e) = sF p q W H D cs l (k + 1) := by
        funext m e
        simp only [sF]
        rw [he]
        rfl
      rw [this]
      rfl
    · show aggregate_Sum_s2 W H D cs p q l (mp (H * W * D) D (sF p q W H D cs l l.length)) (l.length : Int) = _
      unfold aggregate_Sum_s2
      rw [if_neg (by simp)]
  · refine loop_go (fun k => (mp (H * W * D) D (sF p q W H D cs l k), (k : Int))) l.length (by unfold FUEL; omega) rfl (fun k hk => ?_) ?_
    · show fiduciallaw45_AggregateSums_s1 W H D cs p q l (mp (H * W * D) D (sF p q W H D cs l k)) (k : Int) = _
      obtain ⟨n, hn, he⟩ := hdir k hk
      unfold fiduciallaw45_AggregateSums_s1
      rw [if_pos (by simp only [decide_eq_true_eq]; omega), ix_getD rfl hk 0, Option.bind_some, he, lpath_eq h hn]
      simp only [Option.bind_some]
      rw [add_loop2 (by omega) _ _ (hF k (by omega)) (hV n), Option.bind_some, w64_id (by omega) (by omega)]
      have : (fun m e => sF p q W H D cs l k m e + vV p q W H D cs n m e) = sF p q W H D cs l (k + 1) := by
        funext m e
        simp only [sF]
        rw [he]
        rfl
      rw [this]
      rfl
    · show fiduciallaw45_AggregateSums_s1 W H D cs p q l (mp (H * W * D) D (sF p q W H D cs l l.length)) (l.length : Int) = _
      unfold fiduciallaw45_AggregateSums_s1
      rw [if_neg (by simp)]
end

/-- The directions, by the program and by the law. -/
theorem dirs_eq {l : List Int} (hl : l.length ≤ 20) :
    ((∀ i, i < l.length → badB l i = false) ∧ loopM FUEL (fun s : Int => aggregate_Sum_s1 l s) 0 = some (.inr ()) ∧ loopM FUEL (fun s : Int × Int => fiduciallaw45_AggregateSums_s3 l s.1 s.2) (0, 0) = some 0) ∨
    (loopM FUEL (fun s : Int => aggregate_Sum_s1 l s) 0 = some (.inl (0, 0, 0, [], 1)) ∧ loopM FUEL (fun s : Int × Int => fiduciallaw45_AggregateSums_s3 l s.1 s.2) (0, 0) = some 1) := by
  have hlaw : ∀ r : Int, (∀ k, k ≤ l.length → True) → loopM FUEL (fun s : Int × Int => fiduciallaw45_AggregateSums_s3 l s.1 s.2) (0, 0) = some (if ((List.range l.length).any fun i => badB l i) = true then 1 else 0) := fun _ _ => by
    refine loop_go (fun k => ((if ((List.range k).any fun i => badB l i) = true then (1 : Int) else 0), (k : Int))) l.length (by unfold FUEL; omega) rfl (fun k hk => ?_) ?_
    · show fiduciallaw45_AggregateSums_s3 l (if ((List.range k).any fun i => badB l i) = true then (1 : Int) else 0) (k : Int) = _
      unfold fiduciallaw45_AggregateSums_s3
      rw [if_pos (by simp only [decide_eq_true_eq]; omega), ix_getD rfl hk 0, Option.bind_some, bad_eq hk (by omega), Option.bind_some, w64_id (by omega) (by omega)]
      rw [List.range_succ, List.any_append]
      cases hb : badB l k
      · rw [if_neg (by decide), Option.bind_some]
        simp [hb]
      · rw [if_pos rfl, Option.bind_some]
        simp [hb]
    · show fiduciallaw45_AggregateSums_s3 l _ (l.length : Int) = _
      unfold fiduciallaw45_AggregateSums_s3
      rw [if_neg (by simp)]
  have hl1 := hlaw 0 (fun _ _ => trivial)
  have hprog := loop_first (step := fun s : Int => aggregate_Sum_s1 l s) (s0 := 0) (fun i => (i : Int)) (fun i => badB l i = true) (fun _ => .inl (0, 0, 0, [], 1)) (.inr ()) l.length (by unfold FUEL; omega) rfl (fun i hi hn => by
    show aggregate_Sum_s1 l (i : Int) = _
    unfold aggregate_Sum_s1
    rw [if_pos (by simp only [decide_eq_true_eq]; omega), ix_getD rfl hi 0, Option.bind_some, bad_eq hi (by omega), Option.bind_some, if_neg hn, w64_id (by omega) (by omega)]
    rfl) (fun i hi hp _ => by
    show aggregate_Sum_s1 l (i : Int) = _
    unfold aggregate_Sum_s1
    rw [if_pos (by simp only [decide_eq_true_eq]; omega), ix_getD rfl hi 0, Option.bind_some, bad_eq hi (by omega), Option.bind_some, if_pos hp]) (by
    show aggregate_Sum_s1 l (l.length : Int) = _
    unfold aggregate_Sum_s1
    rw [if_neg (by simp)])
  rcases hprog with ⟨h1, h2⟩ | ⟨i, h1, h2, _, h3⟩
  · refine .inl ⟨fun i hi => by simpa using h1 i hi, h2, ?_⟩
    rw [hl1, if_neg]
    simp only [List.any_eq_true, List.mem_range, not_exists, not_and]
    exact h1
  · refine .inr ⟨h3, ?_⟩
    rw [hl1, if_pos]
    exact List.any_eq_true.2 ⟨i, List.mem_range.2 h1, h2⟩

theorem sums_true (W0 H0 D0 : Int) (cs : List Int) (p q : Int) (l : List Int) : fiduciallaw45_AggregateSums W0 H0 D0 cs p q l = some true := by
  unfold fiduciallaw45_AggregateSums
  rw [known45, Option.bind_some, if_neg (by decide)]
  unfold fiduciallaw45_small
  rw [Option.bind_some]
  by_cases h6 : cs.length ≤ 600
  · rw [if_neg (by simp; omega), Option.bind_some]
    by_cases hl : 20 < l.length
    · rw [if_pos (by simp only [decide_eq_true_eq]; omega)]
    rw [if_neg (by simp only [decide_eq_true_eq]; omega)]
    unfold aggregate_Sum
    rcases image_cases (W0 := W0) (H0 := H0) (D0 := D0) h6 p q with ⟨W, H, D, rfl, rfl, rfl, w1, w2, y1, y2, d1, d2, hn, hz, hp, g1, g2⟩ | ⟨k, hk, g1, g2⟩
    · rw [g1, g2]
      simp only [Option.bind_some]
      rw [if_neg (show ¬ ((0 : Int) != 0) = true by decide), if_pos (show ((0 : Int) == 0) = true from rfl)]
      have h := im_of w1 y1 d1 hn h6 hz hp
      by_cases hl0 : l.length = 0
      · rcases dirs_eq (l := l) (by omega) with ⟨_, _, e2⟩ | ⟨_, e2⟩
        · rw [e2]
          simp [hl0, fiduciallaw45_empty]
        · rw [e2]
          simp [hl0, fiduciallaw45_empty]
      · have hne : ¬ ((l.length : Int) == 0) = true := by simp only [beq_iff_eq]; omega
        rw [if_neg hne]
        rcases dirs_eq (l := l) (by omega) with ⟨hd, e1, e2⟩ | ⟨e1, e2⟩
        · obtain ⟨s1, s2⟩ := sum_loop h (l := l) (by omega) hd
          have hrep : List.replicate ((cs.length : Int)).toNat (0 : Int) = mp (H * W * D) D (fun _ _ => 0) := by
            rw [show ((cs.length : Int)).toNat = H * W * D by omega]
            exact mp_zero
          rw [e1, e2]
          simp only [Option.bind_some]
          rw [chk_pos (by omega), hrep]
          simp only [Option.bind_some]
          rw [s1, s2, if_neg hne]
          simp only [Option.bind_some]
          rw [if_neg (show ¬ ((0 : Int) != 0) = true by decide), if_pos (show ((0 : Int) == 0) = true from rfl), same_self _ _ _ _ (by rw [mp_len]; omega)]
          rfl
        · rw [e1, e2]
          simp only [Option.bind_some]
          rw [if_neg hne]
          simp [fiduciallaw45_empty]
    · rw [g1, g2]
      simp [hk, fiduciallaw45_empty]
  · rw [if_pos (by simp; omega), Option.bind_some, if_pos rfl]
end Go.Proofs.YtgakaghdiodakaaDoor
