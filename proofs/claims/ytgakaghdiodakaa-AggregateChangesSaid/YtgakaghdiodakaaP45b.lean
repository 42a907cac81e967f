/-
  PLAIN, chapter 45: tables of least energies, Line.
-/
import Derived.Test.YtgakaghdiodakaaP45a
import Derived.Test.YtgakaghdiodakaaQMin
import Derived.Test.YtgakaghdiodakaaQMax
import Derived.Test.YtgakaghdiodakaaQIndex
import Derived.KernelRfl
set_option linter.unusedSimpArgs false
set_option linter.unusedVariables false
namespace Go.Proofs.Ytgakaghdiodakaa
open Go.E

theorem between_eq (p q : Int) {a b : Nat} (ha : a < 100000) (hb : b < 100000) {x y : Int} (hx : x = a) (hy : y = b) : aggregate_between (w64 (x - y)) p q = some (vp p q a b) := by
  subst hx hy
  unfold aggregate_between vp
  rw [w64_id (by omega) (by omega)]
  by_cases h : a = b
  · rw [if_pos (by simp only [beq_iff_eq]; omega), if_pos h]
  · rw [if_neg (by simp only [beq_iff_eq]; omega), if_neg h]
    by_cases h1 : a = b + 1
    · rw [if_pos (by simp only [beq_iff_eq]; omega), if_pos (.inl h1)]
      have : (((a : Int) - (b : Int)) == 1) = true := by simp only [beq_iff_eq]; omega
      rw [this]; rfl
    · rw [if_neg (by simp only [beq_iff_eq]; omega), Option.bind_some]
      by_cases h2 : b = a + 1
      · rw [if_pos (by simp only [beq_iff_eq]; omega), if_pos (.inr h2)]
      · rw [if_neg (by simp only [beq_iff_eq]; omega), if_neg (by omega)]
theorem jump_eq (p q : Int) {a b : Nat} (ha : a < 100000) (hb : b < 100000) {x y : Int} (hx : x = a) (hy : y = b) : fiduciallaw45_jump (w64 (x - y)) p q = some (vp p q a b) := between_eq p q ha hb hx hy

theorem clone_eq (xs : List Int) (h : xs.length ≤ 1000000) : slices_Clone_sint xs = some xs := by
  unfold slices_Clone_sint
  rw [chk_pos (by simp; omega)]
  simp
theorem clones_eq (xs : List (List Int)) (h : xs.length ≤ 1000000) : slices_Clone_ssint xs = some xs := by
  unfold slices_Clone_ssint
  rw [chk_pos (by simp; omega)]
  simp

theorem min_row {W : Nat} (hW0 : 0 < W) (hW : W ≤ 1000) (f : Nat → Int) : slices_Min_sint (row W f) = some (mn f 0 (W - 1)) := by
  obtain ⟨M, h1, h2, h3⟩ := min_spec (xs := row W f) (fun h => by have := row_len W f; rw [h] at this; simp at this; omega) (by rw [row_len]; omega)
  rw [h1]
  congr 1
  obtain ⟨z, hz, rfl⟩ := List.mem_map.1 h2
  have hz := List.mem_range.1 hz
  exact mn_uniq _ _ _ _ ⟨z, by omega, by omega, rfl⟩ fun z' _ r2 => h3 _ (List.mem_map.2 ⟨z', List.mem_range.2 (by omega), rfl⟩)

/-- The first place of the least number. -/
theorem index_min {W : Nat} (hW0 : 0 < W) (hW : W ≤ 1000) (f : Nat → Int) : slices_Index_sint (row W f) (mn f 0 (W - 1)) = some (am f 0 (W - 1) : Int) := by
  have ha := am_in f 0 (W - 1)
  have hv := am_val f 0 (W - 1)
  rcases index_spec (row W f) (mn f 0 (W - 1)) (by rw [row_len]; omega) with ⟨i, h1, h2, h3, h4⟩ | ⟨h1, _⟩
  · rw [h4]
    rw [row_len] at h1
    rw [row_get _ _ h1] at h2
    have h2 := Option.some.inj h2
    have : i = am f 0 (W - 1) := by
      refine am_uniq _ _ _ _ (by omega) (by omega) (fun z _ hz => ?_) (fun z _ hz => ?_)
      · rw [h2]; exact mn_le _ _ _ _ (by omega) hz
      · have q1 := mn_le f 0 (W - 1) z (by omega) (by omega)
        have q2 := h3 z hz
        rw [row_get _ _ (by omega)] at q2
        have q3 : f z ≠ mn f 0 (W - 1) := fun h => q2 (by rw [h])
        omega
    rw [this]
  · exact absurd (List.mem_map.2 ⟨am f 0 (W - 1), List.mem_range.2 (by omega), hv⟩) h1

/-! ### One step along the line -/

theorem reached_eq {p q : Int} (hp : PB p q) {W : Nat} (hW0 : 0 < W) (hW : W ≤ 1000) {f : Nat → Int} (hf : ∀ d, -1125899906842624 ≤ f d ∧ f d ≤ 1125899906842624) : aggregate_reached (row W f) p q = some (row W (tr p q W f)) := by
  obtain ⟨p1, p2, p3⟩ := hp
  unfold aggregate_reached
  rw [min_row hW0 hW, Option.bind_some, row_len, chk_pos (by omega), show ((W : Int)).toNat = W by omega]
  have hr : List.replicate W (0 : Int) = row W (fun _ => 0) := by
    apply List.ext_getElem?
    intro z
    by_cases hz : z < W
    · rw [row_get _ _ hz, List.getElem?_replicate, if_pos hz]
    · rw [List.getElem?_eq_none (by simp; omega), List.getElem?_eq_none (by rw [row_len]; omega)]
  have hm := am_in f 0 (W - 1)
  have hmv := am_val f 0 (W - 1)
  have hmf := hf (am f 0 (W - 1))
  have : loopM FUEL (fun s : List Int × Int => aggregate_reached_s1 (row W f) p q (mn f 0 (W - 1)) s.1 s.2) (row W (fun _ => 0), 0) = some (row W (tr p q W f)) := by
    refine setrow hW (fun x hx => ?_) (fun l => ?_)
    · show aggregate_reached_s1 (row W f) p q (mn f 0 (W - 1)) (row W (mixf (fun _ => 0) (tr p q W f) x)) (x : Int) = _
      unfold aggregate_reached_s1
      have h0 := hf x
      have hl : ∀ v w : Int, (((row W (mixf (fun _ => 0) (tr p q W f) x)).set x v).set x w) = (row W (mixf (fun _ => 0) (tr p q W f) x)).set x w := fun v w => by rw [List.set_set]
      have hg : ∀ v : Int, ix ((row W (mixf (fun _ => 0) (tr p q W f) x)).set x v) (x : Int) = some v := fun v => ix_get rfl (by rw [List.getElem?_set_self (by rw [row_len]; exact hx)])
      rw [row_len, row_len, if_pos (by simpa using hx), row_ix W f rfl hx, Option.bind_some, chk_pos (by omega), w64_id (z := mn f 0 (W - 1) + q) (by omega) (by omega), show ((x : Int)).toNat = x by omega, w64_id (z := (x : Int) + 1) (by omega) (by omega)]
      generalize ha : (if mn f 0 (W - 1) + q < f x then mn f 0 (W - 1) + q else f x) = a
      have e1 : ∃ b : Int, (if decide (0 < (x : Int)) = true then (ix ((row W (mixf (fun _ => 0) (tr p q W f) x)).set x a) (x : Int)).bind fun v_10 => (ix (row W f) (w64 ((x : Int) - 1))).bind fun v_11 => chk (0 ≤ (x : Int) ∧ (x : Int) < (((row W (mixf (fun _ => 0) (tr p q W f) x)).set x a).length : Int)) (some (((row W (mixf (fun _ => 0) (tr p q W f) x)).set x a).set x (if (w64 (v_11 + p)) < v_10 then (w64 (v_11 + p)) else v_10))) else some ((row W (mixf (fun _ => 0) (tr p q W f) x)).set x a)) = some ((row W (mixf (fun _ => 0) (tr p q W f) x)).set x b) ∧ (b = a ∨ (0 < x ∧ b = f (x - 1) + p)) ∧ b ≤ a ∧ (0 < x → b ≤ f (x - 1) + p) := by
        by_cases hx0 : 0 < x
        · have h1 := hf (x - 1)
          rw [if_pos (by simpa using hx0), hg, Option.bind_some, w64_id (z := (x : Int) - 1) (by omega) (by omega), row_ix W f (x := x - 1) (by omega) (by omega), Option.bind_some, chk_pos (by rw [List.length_set, row_len]; omega), hl, w64_id (by omega) (by omega)]
          refine ⟨_, rfl, ?_⟩
          split <;> omega
        · rw [if_neg (by simpa using hx0)]
          exact ⟨a, rfl, .inl rfl, Int.le_refl _, fun h => absurd h hx0⟩
      obtain ⟨b, e1, b1, b2, b3⟩ := e1
      rw [e1, Option.bind_some]
      have e2 : ∃ m : Int, (if decide ((x : Int) + 1 < (W : Int)) = true then (ix ((row W (mixf (fun _ => 0) (tr p q W f) x)).set x b) (x : Int)).bind fun v_8 => (ix (row W f) ((x : Int) + 1)).bind fun v_9 => chk (0 ≤ (x : Int) ∧ (x : Int) < (((row W (mixf (fun _ => 0) (tr p q W f) x)).set x b).length : Int)) (some (((row W (mixf (fun _ => 0) (tr p q W f) x)).set x b).set x (if (w64 (v_9 + p)) < v_8 then (w64 (v_9 + p)) else v_8))) else some ((row W (mixf (fun _ => 0) (tr p q W f) x)).set x b)) = some ((row W (mixf (fun _ => 0) (tr p q W f) x)).set x m) ∧ (m = b ∨ (x + 1 < W ∧ m = f (x + 1) + p)) ∧ m ≤ b ∧ (x + 1 < W → m ≤ f (x + 1) + p) := by
        by_cases hx1 : x + 1 < W
        · have h1 := hf (x + 1)
          rw [if_pos (by simp only [decide_eq_true_eq]; omega), hg, Option.bind_some, row_ix W f (x := x + 1) (by omega) (by omega), Option.bind_some, chk_pos (by rw [List.length_set, row_len]; omega), hl, w64_id (by omega) (by omega)]
          refine ⟨_, rfl, ?_⟩
          split <;> omega
        · rw [if_neg (by simp only [decide_eq_true_eq]; omega)]
          exact ⟨b, rfl, .inl rfl, Int.le_refl _, fun h => absurd h hx1⟩
      obtain ⟨m, e2, m1, m2, m3⟩ := e2
      rw [e2, Option.bind_some]
      have a1 : (a = f x ∨ a = mn f 0 (W - 1) + q) ∧ a ≤ f x ∧ a ≤ mn f 0 (W - 1) + q := by rw [← ha]; split <;> omega
      have em : m = tr p q W f x := by
        have hall : ∀ z, 0 ≤ z → z ≤ 0 + (W - 1) → m ≤ f z + vp p q x z := fun z _ hz => by
          have hmn := mn_le f 0 (W - 1) z (by omega) hz
          unfold vp
          by_cases q1 : x = z
          · rw [if_pos q1, ← q1]; omega
          · rw [if_neg q1]
            by_cases q2 : x = z + 1 ∨ z = x + 1
            · rw [if_pos q2]
              rcases q2 with q2 | q2
              · have := b3 (by omega); rw [show z = x - 1 by omega]; omega
              · have := m3 (by omega); rw [q2]; omega
            · rw [if_neg q2]; omega
        refine mn_uniq2 _ _ _ _ ?_ hall
        have hv : ∀ z, vp p q x z ≤ q := fun z => (vp_bound ⟨p1, p2, p3⟩ x z).2
        rcases m1 with m1 | ⟨m1, m4⟩
        · rcases b1 with b1 | ⟨b1, b4⟩
          · rcases a1.1 with a2 | a2
            · refine ⟨x, by omega, by omega, ?_⟩
              show f x + vp p q x x ≤ m
              unfold vp
              rw [if_pos rfl]; omega
            · refine ⟨am f 0 (W - 1), by omega, by omega, ?_⟩
              show f (am f 0 (W - 1)) + vp p q x (am f 0 (W - 1)) ≤ m
              have := hv (am f 0 (W - 1))
              omega
          · refine ⟨x - 1, by omega, by omega, ?_⟩
            show f (x - 1) + vp p q x (x - 1) ≤ m
            unfold vp
            rw [if_neg (by omega), if_pos (by omega)]; omega
        · refine ⟨x + 1, by omega, by omega, ?_⟩
          show f (x + 1) + vp p q x (x + 1) ≤ m
          unfold vp
          rw [if_neg (by omega), if_pos (by omega)]; omega
      rw [em, mixf_set _ _ hx]
      rfl
    · show aggregate_reached_s1 (row W f) p q (mn f 0 (W - 1)) l (W : Int) = _
      unfold aggregate_reached_s1
      rw [row_len, if_neg (by simp)]
  rw [hr, this]
  rfl

theorem tail_get {W H : Nat} (c : Nat → Nat → Int) {i : Nat} {z : Int} (hz : z = i) (hi : i + 1 < H) : ix (((tbl W H c).take (tbl W H c).length).drop (1 : Int).toNat) z = some (row W (c (i + 1))) := by
  refine ix_get hz ?_
  rw [List.take_length, List.getElem?_drop, show (1 : Int).toNat + i = i + 1 by omega, tbl_get _ _ _ hi]
theorem tail_len {W H : Nat} (c : Nat → Nat → Int) : (((tbl W H c).take (tbl W H c).length).drop (1 : Int).toNat).length = H - 1 := by
  rw [List.take_length, List.length_drop, tbl_len]
  rfl

theorem table_eq {p q : Int} (hp : PB p q) {W H : Nat} (hW0 : 0 < W) (hH0 : 0 < H) (hW : W ≤ 64) (hH : H ≤ 64) {c : Nat → Nat → Int} (hc : CB W c) : aggregate_table (tbl W H c) p q = some (tbl W H (Fw p q c W)) := by
  have hB : ∀ y d, y < 64 → d < W → 0 ≤ Fw p q c W y d ∧ Fw p q c W y d ≤ 134217728 := fun y d hy hd => by
    have h := Fw_bound hp hW0 hc y d hd
    have := Int.mul_le_mul_of_nonneg_right (show (y : Int) + 1 ≤ 64 by omega) (show (0 : Int) ≤ 2097152 by omega)
    omega
  unfold aggregate_table
  rw [tbl_ix0 W c hH0, Option.bind_some, clone_eq _ (by rw [row_len]; omega), Option.bind_some, chk_pos (by rw [tbl_len]; omega)]
  have : loopM FUEL (fun s : List (List Int) × Int => aggregate_table_s1 (tbl W H c) p q s.1 s.2) ([row W (c 0)], 0) = some (tbl W H (Fw p q c W)) := by
    refine loop_go (fun i => (tbl W (i + 1) (Fw p q c W), (i : Int))) (H - 1) (by unfold FUEL; omega) rfl (fun i hi => ?_) ?_
    · show aggregate_table_s1 (tbl W H c) p q (tbl W (i + 1) (Fw p q c W)) (i : Int) = _
      unfold aggregate_table_s1
      rw [tail_len, if_pos (by simp; omega), tail_get c rfl (by omega), Option.bind_some, tbl_len, w64_id (z := ((i + 1 : Nat) : Int) - 1) (by omega) (by omega), tbl_ix W (i + 1) _ (y := i) (by omega) (by omega), Option.bind_some]
      -- a row's entries beyond its end stand for nothing
      have hrow : row W (Fw p q c W i) = row W (fun d => if d < W then Fw p q c W i d else 0) := row_congr fun d hd => by rw [if_pos hd]
      have htr : row W (tr p q W (fun d => if d < W then Fw p q c W i d else 0)) = row W (tr p q W (Fw p q c W i)) := row_congr fun d hd => tr_congr hW0 (fun e he => by rw [if_pos he]) d
      rw [hrow, reached_eq hp hW0 (by omega) (fun d => by
        split
        · have := hB i d (by omega) (by assumption); omega
        · omega), Option.bind_some, htr]
      have : loopM FUEL (fun s : List Int × Int => aggregate_table_s2 (row W (c (i + 1))) s.1 s.2) (row W (tr p q W (Fw p q c W i)), 0) = some (row W (Fw p q c W (i + 1))) := by
        refine setrow (by omega) (fun x hx => ?_) (fun l => ?_)
        · show aggregate_table_s2 (row W (c (i + 1))) (row W (mixf (tr p q W (Fw p q c W i)) (Fw p q c W (i + 1)) x)) (x : Int) = _
          unfold aggregate_table_s2
          have h1 := hB (i + 1) x (by omega) hx
          rw [row_len, if_pos (by simpa using hx), row_ix W _ rfl hx, Option.bind_some, row_ix W _ rfl hx, mixf_at, Option.bind_some, row_len, chk_pos (by omega)]
          have e : tr p q W (Fw p q c W i) x + c (i + 1) x = Fw p q c W (i + 1) x := by simp only [Fw]; omega
          rw [e, w64_id (z := Fw p q c W (i + 1) x) (by omega) (by omega), w64_id (by omega) (by omega), show ((x : Int)).toNat = x by omega, mixf_set _ _ hx]
          rfl
        · show aggregate_table_s2 (row W (c (i + 1))) l (W : Int) = _
          unfold aggregate_table_s2
          rw [row_len, if_neg (by simp)]
      rw [this, Option.bind_some, chk_pos (by omega), w64_id (by omega) (by omega)]
      show some (Step.next (_, _)) = some (Step.next (tbl W (i + 1 + 1) (Fw p q c W), ((i + 1 : Nat) : Int)))
      rw [tbl_succ W (i + 1)]
      rfl
    · show aggregate_table_s1 (tbl W H c) p q (tbl W (H - 1 + 1) (Fw p q c W)) ((H - 1 : Nat) : Int) = _
      unfold aggregate_table_s1
      rw [tail_len, if_neg (by simp), show H - 1 + 1 = H by omega]
  rw [this]
  rfl

theorem reversed_eq {W H : Nat} (hH0 : 0 < H) (hH : H ≤ 64) (c : Nat → Nat → Int) : aggregate_reversed (tbl W H c) = some (tbl W H (fun y => c (H - 1 - y))) := by
  unfold aggregate_reversed
  rw [clones_eq _ (by rw [tbl_len]; omega), Option.bind_some, tbl_len]
  have := rev_gen (step := fun s : List (List Int) × Int × Int => aggregate_reversed_s1 s.1 s.2.1 s.2.2) hH0 (by omega) (fun y => row W (c y)) (fun l s t => rfl)
  have e : tbl W H c = lrow H (fun y => row W (c y)) := rfl
  rw [e, this]
  rfl

/-! ### Line -/

def lbL (p q : Int) (c : Nat → Nat → Int) (W H i : Nat) : List Int := row i (fun y => (lb p q c W H y : Int))

theorem best45 {p q : Int} (hp : PB p q) {W : Nat} (hW0 : 0 < W) (hW : W ≤ 64) {f : Nat → Int} (hf : ∀ d, d < W → 0 ≤ f d ∧ f d ≤ 136314880) {l : Nat} (hl : l < W) :
    loopM FUEL (fun s : Int × Int => aggregate_Line_s2 p q (row W f) (l : Int) s.1 s.2) (0, 0) = some (am (fun e => f e + vp p q l e) 0 (W - 1) : Int) := by
  refine loop_go (fun i => ((i : Int), (am (fun e => f e + vp p q l e) 0 (i - 1) : Int))) W (by unfold FUEL; omega) rfl (fun i hi => ?_) ?_
  · show aggregate_Line_s2 p q (row W f) (l : Int) (i : Int) (am (fun e => f e + vp p q l e) 0 (i - 1) : Int) = _
    have ha := am_in (fun e => f e + vp p q l e) 0 (i - 1)
    have h1 := hf i hi
    have h2 := hf (am (fun e => f e + vp p q l e) 0 (i - 1)) (by omega)
    have h3 := vp_bound hp l i
    have h4 := vp_bound hp l (am (fun e => f e + vp p q l e) 0 (i - 1))
    have h5 := hp.2.2
    unfold aggregate_Line_s2
    rw [row_len, if_pos (by simpa using hi), row_ix W f rfl hi, Option.bind_some, row_ix W f rfl (by omega), Option.bind_some, between_eq p q (by omega) (by omega) rfl rfl, Option.bind_some, between_eq p q (by omega) (by omega) rfl rfl, Option.bind_some, vp_comm p q i l, vp_comm p q _ l,
      w64_id (z := f i + _) (by omega) (by omega), w64_id (z := f (am (fun e => f e + vp p q l e) 0 (i - 1)) + _) (by omega) (by omega), w64_id (by omega) (by omega)]
    have e : (if decide (f i + vp p q l i < f (am (fun e => f e + vp p q l e) 0 (i - 1)) + vp p q l (am (fun e => f e + vp p q l e) 0 (i - 1))) = true then some (i : Int) else some (am (fun e => f e + vp p q l e) 0 (i - 1) : Int)) = some (am (fun e => f e + vp p q l e) 0 i : Int) := by
      cases i with
      | zero => rw [if_neg (by simp [am])]
      | succ i =>
        simp only [Nat.add_sub_cancel, am, Nat.zero_add]
        by_cases hq : f (i + 1) + vp p q l (i + 1) < f (am (fun e => f e + vp p q l e) 0 i) + vp p q l (am (fun e => f e + vp p q l e) 0 i)
        · rw [if_pos (decide_eq_true hq), if_pos hq]
        · rw [if_neg (by simpa using hq), if_neg hq]
    rw [e]
    rfl
  · show aggregate_Line_s2 p q (row W f) (l : Int) (W : Int) (am (fun e => f e + vp p q l e) 0 (W - 1) : Int) = _
    unfold aggregate_Line_s2
    rw [row_len, if_neg (by simp)]

theorem line_ok {p q : Int} (hp : PB p q) {W H : Nat} (hW0 : 0 < W) (hH0 : 0 < H) (hW : W ≤ 64) (hH : H ≤ 64) {c : Nat → Nat → Int} (hc : CB W c) (hk : aggregate_checked (tbl W H c) p q = some 0) :
    aggregate_Line (tbl W H c) p q = some (lbL p q c W H H, me p q c W H, tbl W H (Fw p q c W), 0) := by
  unfold aggregate_Line
  have hcr : CB W (fun y => c (H - 1 - y)) := fun y x hx => hc _ x hx
  rw [hk, Option.bind_some, if_neg (by decide), reversed_eq hH0 hH, Option.bind_some, table_eq hp hW0 hH0 hW hH hcr, Option.bind_some, reversed_eq hH0 hH, Option.bind_some]
  have e : tbl W H (fun y => Fw p q (fun y => c (H - 1 - y)) W (H - 1 - y)) = tbl W H (RT p q c W H) := tbl_congr fun y x hy hx => by
    rw [Fw_rev hW0 (H - 1 - y) (by omega) x, show H - 1 - (H - 1 - y) = y by omega]
  have hm : mn (RT p q c W H 0) 0 (W - 1) = me p q c W H := (am_val _ _ _).symm
  rw [e, tbl_ix0 W _ hH0]
  simp only [Option.bind_some]
  rw [min_row hW0 (by omega), Option.bind_some, index_min hW0 (by omega), Option.bind_some, chk_pos (by rw [tbl_len]; omega), hm]
  have : loopM FUEL (fun s : List Int × Int => aggregate_Line_s1 p q (tbl W H (RT p q c W H)) s.1 s.2) ([(am (RT p q c W H 0) 0 (W - 1) : Int)], 0) = some (lbL p q c W H H) := by
    refine loop_go (fun i => (lbL p q c W H (i + 1), (i : Int))) (H - 1) (by unfold FUEL; omega) rfl (fun i hi => ?_) ?_
    · show aggregate_Line_s1 p q (tbl W H (RT p q c W H)) (lbL p q c W H (i + 1)) (i : Int) = _
      have hl := lb_lt p q c hW0 H i
      have hll : (lbL p q c W H (i + 1)).length = i + 1 := row_len _ _
      unfold aggregate_Line_s1
      rw [tail_len, if_pos (by simp; omega), tail_get _ rfl (by omega), Option.bind_some, hll, w64_id (z := ((i + 1 : Nat) : Int) - 1) (by omega) (by omega)]
      have e1 : ix (lbL p q c W H (i + 1)) (((i + 1 : Nat) : Int) - 1) = some (lb p q c W H i : Int) := row_ix _ _ (by omega) (by omega)
      rw [e1, Option.bind_some, best45 hp hW0 hW (fun d hd => RT_bound hp hW0 hH hc (i + 1) hd) hl, Option.bind_some, chk_pos (by omega), w64_id (by omega) (by omega)]
      show some (Step.next (_, _)) = some (Step.next (lbL p q c W H (i + 1 + 1), ((i + 1 : Nat) : Int)))
      unfold lbL
      rw [row_succ (i + 1)]
      rfl
    · show aggregate_Line_s1 p q (tbl W H (RT p q c W H)) (lbL p q c W H (H - 1 + 1)) ((H - 1 : Nat) : Int) = _
      unfold aggregate_Line_s1
      rw [tail_len, if_neg (by simp), show H - 1 + 1 = H by omega]
  rw [this, Option.bind_some, table_eq hp hW0 hH0 hW hH hc]
  rfl

/-! ### The definition -/

theorem least_eq45 {p q : Int} (hp : PB p q) {W H : Nat} (hW0 : 0 < W) (hW : W ≤ 64) (hH : H ≤ 64) {c : Nat → Nat → Int} (hc : CB W c) : fiduciallaw45_least (tbl W H c) p q = some (tbl W H (RT p q c W H)) := by
  unfold fiduciallaw45_least
  rw [tbl_len, chk_pos (by omega), w64_id (by omega) (by omega), show (H : Int).toNat = H by omega]
  have h5 := hp.2.2
  have : loopM FUEL (fun s : List (List Int) × Int => fiduciallaw45_least_s1 (tbl W H c) p q s.1 s.2) (List.replicate H [], (H : Int) - 1) = some (tbl W H (RT p q c W H)) := by
    refine up_loop (by omega) (by omega) _ _ (fun y s => fiduciallaw45_least_s2 (tbl W H c) p q (y : Int) (row W (c y)) s.1 s.2) (fun y l r hy hr => ?_) (fun l => ?_) (fun y x l hy hx hl h1 h2 => ?_) (fun y l hy => ?_)
    · show fiduciallaw45_least_s1 (tbl W H c) p q l (y : Int) = _
      unfold fiduciallaw45_least_s1
      rw [if_pos (by simp), tbl_ix W H c rfl hy, Option.bind_some, hr, Option.bind_some, w64_id (by omega) (by omega)]
    · show fiduciallaw45_least_s1 (tbl W H c) p q l (-1) = _
      unfold fiduciallaw45_least_s1
      rw [if_neg (by simp)]
    · show fiduciallaw45_least_s2 (tbl W H c) p q (y : Int) (row W (c y)) l (x : Int) = _
      unfold fiduciallaw45_least_s2
      rw [row_len, if_pos (by simpa using hx), row_ix W _ rfl hx, Option.bind_some, tbl_ix W H c rfl hy, Option.bind_some]
      have hb2 := RT_bound hp (H := H) hW0 hH hc y hx
      have e2 : ∃ s : Int, loopM FUEL (fun s : Int × Int => fiduciallaw45_least_s3 (tbl W H c) p q (y : Int) l (x : Int) (row W (c y)) s.1 s.2) (0, 0) = some s ∧ c y x + s = RT p q c W H y x := by
        by_cases hq : y + 1 < H
        · refine ⟨tr p q W (RT p q c W H (y + 1)) x, ?_, (RT_step hq x).symm⟩
          refine loop_go (fun i => ((if i = 0 then (0 : Int) else mn (fun e => RT p q c W H (y + 1) e + vp p q x e) 0 (i - 1)), (i : Int))) W (by unfold FUEL; omega) rfl (fun i hi => ?_) ?_
          · show fiduciallaw45_least_s3 (tbl W H c) p q (y : Int) l (x : Int) (row W (c y)) (if i = 0 then (0 : Int) else mn (fun e => RT p q c W H (y + 1) e + vp p q x e) 0 (i - 1)) (i : Int) = _
            unfold fiduciallaw45_least_s3
            have q1 := RT_bound hp (H := H) hW0 hH hc (y + 1) hi
            have q2 := vp_bound hp x i
            rw [row_len, if_pos (by simpa using hi), w64_id (z := (y : Int) + 1) (by omega) (by omega), tbl_len, if_pos (by simp only [decide_eq_true_eq]; omega), ix_get (z := (y : Int) + 1) (i := y + 1) (by push_cast; rfl) (h2 hq)]
            simp only [Option.bind_some]
            rw [row_ix W _ rfl hi]
            simp only [Option.bind_some]
            rw [jump_eq p q (a := i) (b := x) (by omega) (by omega) rfl rfl]
            simp only [Option.bind_some]
            rw [vp_comm p q i x, w64_id (z := RT p q c W H (y + 1) i + vp p q x i) (by omega) (by omega), w64_id (z := (i : Int) + 1) (by omega) (by omega)]
            cases i with
            | zero => rfl
            | succ i =>
              rw [if_neg (show ¬ (((i + 1 : Nat) : Int) == 0) = true by simp only [beq_iff_eq]; omega), if_neg (Nat.succ_ne_zero i), if_neg (Nat.succ_ne_zero (i + 1))]
              simp only [Option.bind_some, Nat.add_sub_cancel]
              by_cases hlt : RT p q c W H (y + 1) (i + 1) + vp p q x (i + 1) < mn (fun e => RT p q c W H (y + 1) e + vp p q x e) 0 i
              · rw [if_pos (decide_eq_true hlt), Option.bind_some]
                simp only [mn, Nat.zero_add]
                rw [if_pos hlt]
                rfl
              · rw [if_neg (by simpa using hlt), Option.bind_some]
                simp only [mn, Nat.zero_add]
                rw [if_neg hlt]
                rfl
          · show fiduciallaw45_least_s3 (tbl W H c) p q (y : Int) l (x : Int) (row W (c y)) (if W = 0 then (0 : Int) else mn (fun e => RT p q c W H (y + 1) e + vp p q x e) 0 (W - 1)) (W : Int) = _
            unfold fiduciallaw45_least_s3
            rw [row_len, if_neg (by simp), if_neg (by omega)]
            rfl
        · refine ⟨0, ?_, by rw [RT_last (by omega)]; omega⟩
          refine loop_go (fun i => (0, (i : Int))) W (by unfold FUEL; omega) rfl (fun i hi => ?_) ?_
          · show fiduciallaw45_least_s3 (tbl W H c) p q (y : Int) l (x : Int) (row W (c y)) 0 (i : Int) = _
            unfold fiduciallaw45_least_s3
            rw [row_len, if_pos (by simpa using hi), w64_id (z := (y : Int) + 1) (by omega) (by omega), tbl_len, if_neg (by simp only [decide_eq_true_eq]; omega), Option.bind_some, if_neg (by decide), Option.bind_some, w64_id (by omega) (by omega)]
            rfl
          · show fiduciallaw45_least_s3 (tbl W H c) p q (y : Int) l (x : Int) (row W (c y)) 0 (W : Int) = _
            unfold fiduciallaw45_least_s3
            rw [row_len, if_neg (by simp)]
      obtain ⟨s, hs1, hs2⟩ := e2
      rw [hs1, Option.bind_some, ix_get rfl h1, Option.bind_some, row_len, chk_pos (by omega), chk_pos (by omega), w64_id (z := (x : Int) + 1) (by omega) (by omega), hs2, w64_id (by omega) (by omega), row_succ]
      simp
    · show fiduciallaw45_least_s2 (tbl W H c) p q (y : Int) (row W (c y)) l (W : Int) = _
      unfold fiduciallaw45_least_s2
      rw [row_len, if_neg (by simp)]
  rw [this]
  rfl

theorem first45 {p q : Int} (hp : PB p q) {W H : Nat} (hW0 : 0 < W) (hH0 : 0 < H) (hW : W ≤ 64) (hH : H ≤ 64) {c : Nat → Nat → Int} (hc : CB W c) : fiduciallaw45_first (tbl W H c) p q = some (lbL p q c W H H, me p q c W H) := by
  unfold fiduciallaw45_first
  have hm : mn (RT p q c W H 0) 0 (W - 1) = me p q c W H := (am_val _ _ _).symm
  have h5 := hp.2.2
  rw [least_eq45 hp hW0 hW hH hc, Option.bind_some, tbl_ix0 W _ hH0]
  simp only [Option.bind_some]
  rw [min_row hW0 (by omega), Option.bind_some, index_min hW0 (by omega), Option.bind_some, hm]
  have : loopM FUEL (fun s : List Int × Int => fiduciallaw45_first_s1 (tbl W H c) p q (tbl W H (RT p q c W H)) s.1 s.2) ([(am (RT p q c W H 0) 0 (W - 1) : Int)], 1) = some (lbL p q c W H H) := by
    refine loop_go (fun i => (lbL p q c W H (i + 1), ((i + 1 : Nat) : Int))) (H - 1) (by unfold FUEL; omega) rfl (fun i hi => ?_) ?_
    · show fiduciallaw45_first_s1 (tbl W H c) p q (tbl W H (RT p q c W H)) (lbL p q c W H (i + 1)) ((i + 1 : Nat) : Int) = _
      have hl := lb_lt p q c hW0 H i
      unfold fiduciallaw45_first_s1
      rw [tbl_len, if_pos (by simp; omega), w64_id (z := ((i + 1 : Nat) : Int) - 1) (by omega) (by omega)]
      have e1 : ix (lbL p q c W H (i + 1)) (((i + 1 : Nat) : Int) - 1) = some (lb p q c W H i : Int) := row_ix _ _ (by omega) (by omega)
      rw [e1, Option.bind_some, tbl_ix W H _ (y := i) (by omega) (by omega), Option.bind_some, row_ix W _ rfl hl, Option.bind_some, tbl_ix W H c (y := i) (by omega) (by omega), Option.bind_some, row_ix W _ rfl hl, Option.bind_some, tbl_ix W H c (y := i + 1) rfl (by omega), Option.bind_some]
      have hi2 : loopM FUEL (fun s : List Int × Int => fiduciallaw45_first_s2 p q (tbl W H (RT p q c W H)) ((i + 1 : Nat) : Int) (lb p q c W H i : Int) (RT p q c W H i (lb p q c W H i)) (c i (lb p q c W H i)) (row W (c (i + 1))) s.1 s.2) (lbL p q c W H (i + 1), 0) = some (lbL p q c W H (i + 1 + 1)) := by
        have hst := RT_step (p := p) (q := q) (c := c) (W := W) (H := H) (y := i) (by omega) (lb p q c W H i)
        have hbb := RT_bound hp (H := H) hW0 hH hc i hl
        have hcc := hc i _ hl
        have hrest : w64 (RT p q c W H i (lb p q c W H i) - c i (lb p q c W H i)) = tr p q W (RT p q c W H (i + 1)) (lb p q c W H i) := by
          rw [w64_id (by omega) (by omega)]; omega
        have hval : ∀ e, e < W → w64 (RT p q c W H (i + 1) e + vp p q (lb p q c W H i) e) = RT p q c W H (i + 1) e + vp p q (lb p q c W H i) e := fun e he => by
          have q1 := RT_bound hp (H := H) hW0 hH hc (i + 1) he
          have q2 := vp_bound hp (lb p q c W H i) e
          exact w64_id (by omega) (by omega)
        have hli := lb_lt p q c hW0 H (i + 1)
        have hlv : RT p q c W H (i + 1) (lb p q c W H (i + 1)) + vp p q (lb p q c W H i) (lb p q c W H (i + 1)) = tr p q W (RT p q c W H (i + 1)) (lb p q c W H i) := am_val (fun e => RT p q c W H (i + 1) e + vp p q (lb p q c W H i) e) 0 (W - 1)
        refine loop_go (fun e => (lbL p q c W H (i + 1), (e : Int))) (lb p q c W H (i + 1)) (by unfold FUEL; omega) rfl (fun e he => ?_) ?_
        · show fiduciallaw45_first_s2 p q (tbl W H (RT p q c W H)) ((i + 1 : Nat) : Int) (lb p q c W H i : Int) (RT p q c W H i (lb p q c W H i)) (c i (lb p q c W H i)) (row W (c (i + 1))) (lbL p q c W H (i + 1)) (e : Int) = _
          unfold fiduciallaw45_first_s2
          have hlt := am_first (fun e => RT p q c W H (i + 1) e + vp p q (lb p q c W H i) e) 0 (W - 1) e (by omega) he
          have hlt : tr p q W (RT p q c W H (i + 1)) (lb p q c W H i) < RT p q c W H (i + 1) e + vp p q (lb p q c W H i) e := hlt
          rw [row_len, if_pos (by simp only [decide_eq_true_eq]; omega), tbl_ix W H _ (y := i + 1) rfl (by omega), Option.bind_some, row_ix W _ rfl (by omega), Option.bind_some, jump_eq p q (by omega) (by omega) rfl rfl, Option.bind_some, vp_comm p q e, hval e (by omega), hrest, if_neg (by simp only [beq_iff_eq]; omega), w64_id (by omega) (by omega)]
          rfl
        · show fiduciallaw45_first_s2 p q (tbl W H (RT p q c W H)) ((i + 1 : Nat) : Int) (lb p q c W H i : Int) (RT p q c W H i (lb p q c W H i)) (c i (lb p q c W H i)) (row W (c (i + 1))) (lbL p q c W H (i + 1)) (lb p q c W H (i + 1) : Int) = _
          unfold fiduciallaw45_first_s2
          rw [row_len, if_pos (by simp only [decide_eq_true_eq]; omega), tbl_ix W H _ (y := i + 1) rfl (by omega), Option.bind_some, row_ix W _ rfl hli, Option.bind_some, jump_eq p q (by omega) (by omega) rfl rfl, Option.bind_some, vp_comm p q (lb p q c W H (i + 1)), hval _ hli, hrest, if_pos (by simp only [beq_iff_eq]; omega)]
          have hll : (lbL p q c W H (i + 1)).length = i + 1 := row_len _ _
          rw [chk_pos (by omega)]
          unfold lbL
          rw [row_succ (i + 1)]
      rw [hi2, Option.bind_some, w64_id (by omega) (by omega)]
      rfl
    · show fiduciallaw45_first_s1 (tbl W H c) p q (tbl W H (RT p q c W H)) (lbL p q c W H (H - 1 + 1)) ((H - 1 + 1 : Nat) : Int) = _
      unfold fiduciallaw45_first_s1
      rw [tbl_len, if_neg (by simp; omega), show H - 1 + 1 = H by omega]
  rw [this]
  rfl
end Go.Proofs.Ytgakaghdiodakaa
