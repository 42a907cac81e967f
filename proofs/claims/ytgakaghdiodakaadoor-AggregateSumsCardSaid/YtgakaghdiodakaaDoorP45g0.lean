/-
  PLAIN, chapter 45, door seat: pieces (printed by door.py).
-/
import Derived.Test.YtgakaghdiodakaaDoorP45a
import Derived.Test.YtgakaghdiodakaaDoorQMin
import Derived.Test.YtgakaghdiodakaaDoorQAny
import Derived.KernelRfl
set_option linter.unusedSimpArgs false
set_option linter.unusedVariables false
namespace Go.Proofs.YtgakaghdiodakaaDoor
open Go.E
theorem between_eq (p q : Int) {a b : Nat} (ha : a < 100000) (hb : b < 100000) {x y : Int} (hx : x = a) (hy : y = b) : aggregate_between (w64 (x - y)) p q = some (vp p q a b) := by
  subst hx hy
  unfold aggregate_between vp
  rw [w64_id (by omega) (by omega)]
  by_cases h : a = b
  · rw [if_pos (by simp only [beq_iff_eq]; omega), if_pos h]
  · rw [if_neg (by simp only [beq_iff_eq]; omega), if_neg h]
    by_cases h1 : a = b + 1
    · rw [if_pos (by simp only [beq_iff_eq]; omega), if_pos (.inl h1)]
      have : (((a : Int) - (b : Int)) == 1) = true := by simp only [beq_iff_eq]; omega
      rw [this]; rfl
    · rw [if_neg (by simp only [beq_iff_eq]; omega), Option.bind_some]
      by_cases h2 : b = a + 1
      · rw [if_pos (by simp only [beq_iff_eq]; omega), if_pos (.inr h2)]
      · rw [if_neg (by simp only [beq_iff_eq]; omega), if_neg (by omega)]
theorem jump_eq (p q : Int) {a b : Nat} (ha : a < 100000) (hb : b < 100000) {x y : Int} (hx : x = a) (hy : y = b) : fiduciallaw45_jump (w64 (x - y)) p q = some (vp p q a b) := between_eq p q ha hb hx hy
theorem min_row {W : Nat} (hW0 : 0 < W) (hW : W ≤ 1000) (f : Nat → Int) : slices_Min_sint (row W f) = some (mn f 0 (W - 1)) := by
  obtain ⟨M, h1, h2, h3⟩ := min_spec (xs := row W f) (fun h => by have := row_len W f; rw [h] at this; simp at this; omega) (by rw [row_len]; omega)
  rw [h1]
  congr 1
  obtain ⟨z, hz, rfl⟩ := List.mem_map.1 h2
  have hz := List.mem_range.1 hz
  exact mn_uniq _ _ _ _ ⟨z, by omega, by omega, rfl⟩ fun z' _ r2 => h3 _ (List.mem_map.2 ⟨z', List.mem_range.2 (by omega), rfl⟩)
theorem reached_eq {p q : Int} (hp : PB p q) {W : Nat} (hW0 : 0 < W) (hW : W ≤ 1000) {f : Nat → Int} (hf : ∀ d, -1125899906842624 ≤ f d ∧ f d ≤ 1125899906842624) : aggregate_reached (row W f) p q = some (row W (tr p q W f)) := by
  obtain ⟨p1, p2, p3⟩ := hp
  unfold aggregate_reached
  rw [min_row hW0 hW, Option.bind_some, row_len, chk_pos (by omega), show ((W : Int)).toNat = W by omega]
  have hr : List.replicate W (0 : Int) = row W (fun _ => 0) := by
    apply List.ext_getElem?
    intro z
    by_cases hz : z < W
    · rw [row_get _ _ hz, List.getElem?_replicate, if_pos hz]
    · rw [List.getElem?_eq_none (by simp; omega), List.getElem?_eq_none (by rw [row_len]; omega)]
  have hm := am_in f 0 (W - 1)
  have hmv := am_val f 0 (W - 1)
  have hmf := hf (am f 0 (W - 1))
  have : loopM FUEL (fun s : List Int × Int => aggregate_reached_s1 (row W f) p q (mn f 0 (W - 1)) s.1 s.2) (row W (fun _ => 0), 0) = some (row W (tr p q W f)) := by
    refine setrow hW (fun x hx => ?_) (fun l => ?_)
    · show aggregate_reached_s1 (row W f) p q (mn f 0 (W - 1)) (row W (mixf (fun _ => 0) (tr p q W f) x)) (x : Int) = _
      unfold aggregate_reached_s1
      have h0 := hf x
      have hl : ∀ v w : Int, (((row W (mixf (fun _ => 0) (tr p q W f) x)).set x v).set x w) = (row W (mixf (fun _ => 0) (tr p q W f) x)).set x w := fun v w => by rw [List.set_set]
      have hg : ∀ v : Int, ix ((row W (mixf (fun _ => 0) (tr p q W f) x)).set x v) (x : Int) = some v := fun v => ix_get rfl (by rw [List.getElem?_set_self (by rw [row_len]; exact hx)])
      rw [row_len, row_len, if_pos (by simpa using hx), row_ix W f rfl hx, Option.bind_some, chk_pos (by omega), w64_id (z := mn f 0 (W - 1) + q) (by omega) (by omega), show ((x : Int)).toNat = x by omega, w64_id (z := (x : Int) + 1) (by omega) (by omega)]
      generalize ha : (if mn f 0 (W - 1) + q < f x then mn f 0 (W - 1) + q else f x) = a
      have e1 : ∃ b : Int, (if decide (0 < (x : Int)) = true then (ix ((row W (mixf (fun _ => 0) (tr p q W f) x)).set x a) (x : Int)).bind fun v_10 => (ix (row W f) (w64 ((x : Int) - 1))).bind fun v_11 => chk (0 ≤ (x : Int) ∧ (x : Int) < (((row W (mixf (fun _ => 0) (tr p q W f) x)).set x a).length : Int)) (some (((row W (mixf (fun _ => 0) (tr p q W f) x)).set x a).set x (if (w64 (v_11 + p)) < v_10 then (w64 (v_11 + p)) else v_10))) else some ((row W (mixf (fun _ => 0) (tr p q W f) x)).set x a)) = some ((row W (mixf (fun _ => 0) (tr p q W f) x)).set x b) ∧ (b = a ∨ (0 < x ∧ b = f (x - 1) + p)) ∧ b ≤ a ∧ (0 < x → b ≤ f (x - 1) + p) := by
        by_cases hx0 : 0 < x
        · have h1 := hf (x - 1)
          rw [if_pos (by simpa using hx0), hg, Option.bind_some, w64_id (z := (x : Int) - 1) (by omega) (by omega), row_ix W f (x := x - 1) (by omega) (by omega), Option.bind_some, chk_pos (by rw [List.length_set, row_len]; omega), hl, w64_id (by omega) (by omega)]
          refine ⟨_, rfl, ?_⟩
          split <;> omega
        · rw [if_neg (by simpa using hx0)]
          exact ⟨a, rfl, .inl rfl, Int.le_refl _, fun h => absurd h hx0⟩
      obtain ⟨b, e1, b1, b2, b3⟩ := e1
      rw [e1, Option.bind_some]
      have e2 : ∃ m : Int, (if decide ((x : Int) + 1 < (W : Int)) = true then (ix ((row W (mixf (fun _ => 0) (tr p q W f) x)).set x b) (x : Int)).bind fun v_8 => (ix (row W f) ((x : Int) + 1)).bind fun v_9 => chk (0 ≤ (x : Int) ∧ (x : Int) < (((row W (mixf (fun _ => 0) (tr p q W f) x)).set x b).length : Int)) (some (((row W (mixf (fun _ => 0) (tr p q W f) x)).set x b).set x (if (w64 (v_9 + p)) < v_8 then (w64 (v_9 + p)) else v_8))) else some ((row W (mixf (fun _ => 0) (tr p q W f) x)).set x b)) = some ((row W (mixf (fun _ => 0) (tr p q W f) x)).set x m) ∧ (m = b ∨ (x + 1 < W ∧ m = f (x + 1) + p)) ∧ m ≤ b ∧ (x + 1 < W → m ≤ f (x + 1) + p) := by
        by_cases hx1 : x + 1 < W
        · have h1 := hf (x + 1)
          rw [if_pos (by simp only [decide_eq_true_eq]; omega), hg, Option.bind_some, row_ix W f (x := x + 1) (by omega) (by omega), Option.bind_some, chk_pos (by rw [List.length_set, row_len]; omega), hl, w64_id (by omega) (by omega)]
          refine ⟨_, rfl, ?_⟩
          split <;> omega
        · rw [if_neg (by simp only [decide_eq_true_eq]; omega)]
          exact ⟨b, rfl, .inl rfl, Int.le_refl _, fun h => absurd h hx1⟩
      obtain ⟨m, e2, m1, m2, m3⟩ := e2
      rw [e2, Option.bind_some]
      have a1 : (a = f x ∨ a = mn f 0 (W - 1) + q) ∧ a ≤ f x ∧ a ≤ mn f 0 (W - 1) + q := by rw [← ha]; split <;> omega
      have em : m = tr p q W f x := by
        have hall : ∀ z, 0 ≤ z → z ≤ 0 + (W - 1) → m ≤ f z + vp p q x z := fun z _ hz => by
          have hmn := mn_le f 0 (W - 1) z (by omega) hz
          unfold vp
          by_cases q1 : x = z
          · rw [if_pos q1, ← q1]; omega
          · rw [if_neg q1]
            by_cases q2 : x = z + 1 ∨ z = x + 1
            · rw [if_pos q2]
              rcases q2 with q2 | q2
              · have := b3 (by omega); rw [show z = x - 1 by omega]; omega
              · have := m3 (by omega); rw [q2]; omega
            · rw [if_neg q2]; omega
        refine mn_uniq2 _ _ _ _ ?_ hall
        have hv : ∀ z, vp p q x z ≤ q := fun z => (vp_bound ⟨p1, p2, p3⟩ x z).2
        rcases m1 with m1 | ⟨m1, m4⟩
        · rcases b1 with b1 | ⟨b1, b4⟩
          · rcases a1.1 with a2 | a2
            · refine ⟨x, by omega, by omega, ?_⟩
              show f x + vp p q x x ≤ m
              unfold vp
              rw [if_pos rfl]; omega
            · refine ⟨am f 0 (W - 1), by omega, by omega, ?_⟩
              show f (am f 0 (W - 1)) + vp p q x (am f 0 (W - 1)) ≤ m
              have := hv (am f 0 (W - 1))
              omega
          · refine ⟨x - 1, by omega, by omega, ?_⟩
            show f (x - 1) + vp p q x (x - 1) ≤ m
            unfold vp
            rw [if_neg (by omega), if_pos (by omega)]; omega
        · refine ⟨x + 1, by omega, by omega, ?_⟩
          show f (x + 1) + vp p q x (x + 1) ≤ m
          unfold vp
          rw [if_neg (by omega), if_pos (by omega)]; omega
      rw [em, mixf_set _ _ hx]
      rfl
    · show aggregate_reached_s1 (row W f) p q (mn f 0 (W - 1)) l (W : Int) = _
      unfold aggregate_reached_s1
      rw [row_len, if_neg (by simp)]
  rw [hr, this]
  rfl
theorem getD_mem {l : List Int} {i : Nat} (h : i < l.length) : l.getD i 0 ∈ l := by rw [getD_eq h]; exact List.getElem_mem h
def ok1 (z : Int) : Bool := decide (z < 0) || decide (1048576 < z)
theorem ok1_iff {z : Int} : ok1 z = false ↔ 0 ≤ z ∧ z ≤ 1048576 := by
  unfold ok1
  simp only [Bool.or_eq_false_iff, decide_eq_false_iff_not]
  omega
theorem pen_eq (p q : Int) : (PB p q ∧ aggregate_penalties p q = some 0 ∧ fiduciallaw45_penalties p q = some true) ∨ (¬ PB p q ∧ aggregate_penalties p q = some 2 ∧ fiduciallaw45_penalties p q = some false) := by
  unfold aggregate_penalties fiduciallaw45_penalties PB
  by_cases h1 : p < 0
  · right
    rw [if_pos (decide_eq_true h1), if_neg (show ¬ decide (0 ≤ p) = true by simp; omega)]
    exact ⟨by omega, rfl, rfl⟩
  · rw [if_neg (show ¬ decide (p < 0) = true by simpa using h1), if_pos (show decide (0 ≤ p) = true from decide_eq_true (by omega))]
    by_cases h2 : q < p
    · right
      rw [if_pos (show decide (q < p) = true from decide_eq_true h2), if_neg (show ¬ decide (p ≤ q) = true by simp; omega)]
      exact ⟨by omega, rfl, rfl⟩
    · rw [if_neg (show ¬ decide (q < p) = true by simpa using h2), if_pos (show decide (p ≤ q) = true from decide_eq_true (by omega))]
      by_cases h3 : 1048576 < q
      · right
        rw [decide_eq_true h3, decide_eq_false (show ¬ q ≤ 1048576 by omega)]
        exact ⟨by omega, rfl, rfl⟩
      · left
        rw [decide_eq_false h3, decide_eq_true (show q ≤ 1048576 by omega)]
        exact ⟨by omega, rfl, rfl⟩
theorem known45 : fiduciallaw45_known = some true := by kernel_rfl
def cC (cs : List Int) (D : Nat) : Nat → Nat → Int := fun i d => cs.getD (i * D + d) 0
theorem slice_eq {cs : List Int} {a D : Nat} (h : a + D ≤ cs.length) : (cs.take (a + D)).drop a = row D (fun d => cs.getD (a + d) 0) := by
  apply List.ext_getElem?
  intro z
  rw [List.getElem?_drop, List.getElem?_take]
  by_cases hz : z < D
  · rw [if_pos (by omega), row_get _ _ hz, List.getD_eq_getElem?_getD, List.getElem?_eq_getElem (by omega)]
    rfl
  · rw [if_neg (by omega), List.getElem?_eq_none (by rw [row_len]; omega)]
theorem mulB {i N D : Nat} (h : i < N) : i * D + D ≤ N * D := by
  have : (i + 1) * D ≤ N * D := Nat.mul_le_mul_right D h
  rw [Nat.succ_mul] at this
  exact this
theorem inB {y H x W : Nat} (hy : y < H) (hx : x < W) : y * W + x < H * W := by
  have := mulB (D := W) hy
  omega
theorem at_w {W D x y n : Nat} (h : (y * W + x) * D + D ≤ 1000000) (hD : 0 < D) : w64 ((w64 ((w64 ((y : Int) * W)) + x)) * D) = (((y * W + x) * D : Nat) : Int) ∧ w64 ((((y * W + x) * D : Nat) : Int) + D) = (((y * W + x) * D + D : Nat) : Int) := by
  have h0 : y * W + x ≤ (y * W + x) * D := Nat.le_mul_of_pos_right _ hD
  have e1 : (y : Int) * W = ((y * W : Nat) : Int) := by push_cast; rfl
  rw [e1, w64_id (z := ((y * W : Nat) : Int)) (by omega) (by omega), w64_id (z := ((y * W : Nat) : Int) + x) (by omega) (by omega), show ((y * W : Nat) : Int) + (x : Int) = ((y * W + x : Nat) : Int) by push_cast; rfl,
    show ((y * W + x : Nat) : Int) * (D : Int) = (((y * W + x) * D : Nat) : Int) by push_cast; rfl]
  refine ⟨w64_id (by omega) (by omega), ?_⟩
  rw [w64_id (by omega) (by omega)]
  push_cast
  rfl
theorem at_eq {W H D : Nat} {cs : List Int} (hD : 0 < D) (hn : cs.length = H * W * D) (h6 : cs.length ≤ 600) {x y : Nat} (hy : y < H) (hx : x < W) (z : Int) :
    aggregate_at W z D cs x y = some (row D (cC cs D (y * W + x))) ∧ fiduciallaw45_at W z D cs x y = some (row D (cC cs D (y * W + x))) := by
  have hb := mulB (D := D) (inB hy hx)
  obtain ⟨e1, e2⟩ := at_w (n := 0) (show (y * W + x) * D + D ≤ 1000000 by omega) hD
  have e3 : (cs.take ((((y * W + x) * D + D : Nat) : Int)).toNat).drop ((((y * W + x) * D : Nat) : Int)).toNat = row D (cC cs D (y * W + x)) := slice_eq (by omega)
  constructor
  · unfold aggregate_at
    rw [e1, e2, chk_pos (by omega), e3]
  · unfold fiduciallaw45_at
    rw [e1, e2, chk_pos (by omega), e3]
theorem image_cases {W0 H0 D0 : Int} {cs : List Int} (h6 : cs.length ≤ 600) (p q : Int) :
    (∃ W H D : Nat, W0 = W ∧ H0 = H ∧ D0 = D ∧ 0 < W ∧ W ≤ 64 ∧ 0 < H ∧ H ≤ 64 ∧ 0 < D ∧ D ≤ 64 ∧ cs.length = H * W * D ∧ (∀ z ∈ cs, 0 ≤ z ∧ z ≤ 1048576) ∧ PB p q ∧ aggregate_grid W0 H0 D0 cs p q = some 0 ∧ fiduciallaw45_image W0 H0 D0 cs p q = some 0) ∨
      ∃ k, k ≠ 0 ∧ aggregate_grid W0 H0 D0 cs p q = some k ∧ fiduciallaw45_image W0 H0 D0 cs p q = some k := by
  unfold aggregate_grid census_Check fiduciallaw45_image
  by_cases hd : 1 ≤ W0 ∧ W0 ≤ 64 ∧ 1 ≤ H0 ∧ H0 ≤ 64 ∧ 1 ≤ D0 ∧ D0 ≤ 64
  · obtain ⟨d1, d2, d3, d4, d5, d6⟩ := hd
    obtain ⟨W, rfl⟩ : ∃ W : Nat, W0 = W := ⟨W0.toNat, by omega⟩
    obtain ⟨H, rfl⟩ : ∃ H : Nat, H0 = H := ⟨H0.toNat, by omega⟩
    obtain ⟨D, rfl⟩ : ∃ D : Nat, D0 = D := ⟨D0.toNat, by omega⟩
    have m1 : H * W ≤ 64 * 64 := Nat.mul_le_mul (by omega) (by omega)
    have m2 : H * W * D ≤ 64 * 64 * 64 := Nat.mul_le_mul m1 (by omega)
    have e1 : (W : Int) * (H : Int) = ((H * W : Nat) : Int) := by rw [Nat.mul_comm]; push_cast; rfl
    rw [e1, w64_id (z := ((H * W : Nat) : Int)) (by omega) (by omega), show ((H * W : Nat) : Int) * (D : Int) = ((H * W * D : Nat) : Int) by push_cast; rfl, w64_id (z := ((H * W * D : Nat) : Int)) (by omega) (by omega)]
    simp only [show decide ((W : Int) < 1) = false from decide_eq_false (by omega), show decide (64 < (W : Int)) = false from decide_eq_false (by omega), show decide ((H : Int) < 1) = false from decide_eq_false (by omega), show decide (64 < (H : Int)) = false from decide_eq_false (by omega), show decide ((D : Int) < 1) = false from decide_eq_false (by omega), show decide (64 < (D : Int)) = false from decide_eq_false (by omega), Bool.false_eq_true, if_false, Option.bind_some]
    by_cases hn : cs.length = H * W * D
    · rw [if_neg (by simp only [bne_iff_ne, ne_eq, Classical.not_not]; omega), if_neg (by simp only [bne_iff_ne, ne_eq, Classical.not_not]; omega)]
      have a1 : slices_ContainsFunc_sint cs (fun z => census_Check_c1 z) = some (cs.any ok1) := any_int (fun z => by
        unfold census_Check_c1 ok1
        by_cases h : z < 0
        · rw [if_pos (decide_eq_true h), decide_eq_true h]; rfl
        · rw [if_neg (by simpa using h), decide_eq_false h]; rfl) (by omega)
      have a2 : slices_ContainsFunc_sint cs (fun z => fiduciallaw45_image_c1 z) = some (cs.any ok1) := any_int (fun z => by
        unfold fiduciallaw45_image_c1 ok1
        by_cases h : z < 0
        · rw [if_pos (decide_eq_true h), decide_eq_true h]; rfl
        · rw [if_neg (by simpa using h), decide_eq_false h]; rfl) (by omega)
      rw [a1, a2]
      simp only [Option.bind_some]
      cases ha : cs.any ok1
      · rw [if_neg (by decide), if_neg (by decide), Option.bind_some, if_neg (by decide)]
        have hz : ∀ z ∈ cs, 0 ≤ z ∧ z ≤ 1048576 := fun z hz => ok1_iff.1 (by simpa using List.any_eq_false.1 ha z hz)
        rcases pen_eq p q with ⟨hp, q1, q2⟩ | ⟨hp, q1, q2⟩
        · rw [q1, q2]
          exact .inl ⟨W, H, D, rfl, rfl, rfl, by omega, by omega, by omega, by omega, by omega, by omega, hn, hz, hp, rfl, rfl⟩
        · rw [q1, q2]
          exact .inr ⟨2, by decide, rfl, rfl⟩
      · exact .inr ⟨1, by decide, rfl, rfl⟩
    · rw [if_pos (by simp only [bne_iff_ne, ne_eq]; omega), if_pos (by simp only [bne_iff_ne, ne_eq]; omega)]
      exact .inr ⟨1, by decide, rfl, rfl⟩
  · right
    refine ⟨1, by decide, ?_⟩
    generalize ((cs.length : Int) != w64 (w64 (W0 * H0) * D0)) = b
    generalize slices_ContainsFunc_sint cs (fun z => census_Check_c1 z) = o1
    generalize slices_ContainsFunc_sint cs (fun z => fiduciallaw45_image_c1 z) = o2
    have : (if decide (W0 < 1) = true then some true else if decide (64 < W0) = true then some true else if decide (H0 < 1) = true then some true else if decide (64 < H0) = true then some true else if decide (D0 < 1) = true then some true else if decide (64 < D0) = true then some true else some b) = some true := by
      by_cases h1 : W0 < 1
      · rw [if_pos (decide_eq_true h1)]
      rw [if_neg (by simpa using h1)]
      by_cases h2 : 64 < W0
      · rw [if_pos (decide_eq_true h2)]
      rw [if_neg (by simpa using h2)]
      by_cases h3 : H0 < 1
      · rw [if_pos (decide_eq_true h3)]
      rw [if_neg (by simpa using h3)]
      by_cases h4 : 64 < H0
      · rw [if_pos (decide_eq_true h4)]
      rw [if_neg (by simpa using h4)]
      by_cases h5 : D0 < 1
      · rw [if_pos (decide_eq_true h5)]
      rw [if_neg (by simpa using h5)]
      by_cases h6 : 64 < D0
      · rw [if_pos (decide_eq_true h6)]
      exact absurd ⟨by omega, by omega, by omega, by omega, by omega, by omega⟩ hd
    rw [this]
    exact ⟨rfl, rfl⟩
theorem cC_CB {cs : List Int} (h : ∀ z ∈ cs, 0 ≤ z ∧ z ≤ 1048576) (D : Nat) : CB D (cC cs D) := fun i d _ => by
  unfold cC
  by_cases hi : i * D + d < cs.length
  · exact h _ (getD_mem hi)
  · rw [List.getD_eq_getElem?_getD, List.getElem?_eq_none (by omega)]; simp
theorem equal_self (xs : List Int) (h : xs.length ≤ 1000000) : slices_Equal_sint xs xs = some true := by
  unfold slices_Equal_sint
  rw [if_neg (by simp)]
  rcases eq_loop (step := fun s => slices_Equal_sint_s1 xs xs s) (fun a b => a == b) (fun a b => by simp) h rfl (fun s => rfl) with ⟨_, e⟩ | ⟨hn, _⟩
  · rw [e]; rfl
  · exact absurd rfl hn
end Go.Proofs.YtgakaghdiodakaaDoor
