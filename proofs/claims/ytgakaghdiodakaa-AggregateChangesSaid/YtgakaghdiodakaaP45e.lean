/-
  PLAIN, chapter 45: disparity maps; Grids.
-/
import Derived.Test.YtgakaghdiodakaaP45d
set_option linter.unusedSimpArgs false
set_option linter.unusedVariables false
namespace Go.E

/-! ### Sums -/

def sg (f : Nat → Int) : Nat → Int
  | 0 => 0
  | n + 1 => sg f n + f n
theorem sg_congr {f g : Nat → Int} : ∀ {n : Nat}, (∀ i, i < n → f i = g i) → sg f n = sg g n
  | 0, _ => rfl
  | n + 1, h => by
    simp only [sg]
    rw [sg_congr (fun i hi => h i (by omega)), h n (by omega)]
theorem sg_add (f g : Nat → Int) : ∀ n : Nat, sg (fun i => f i + g i) n = sg f n + sg g n
  | 0 => rfl
  | n + 1 => by
    simp only [sg]
    rw [sg_add f g n]
    omega
theorem sg_zero : ∀ n : Nat, sg (fun _ => 0) n = 0
  | 0 => rfl
  | n + 1 => by simp only [sg]; rw [sg_zero n]; rfl
theorem sg_le {f g : Nat → Int} : ∀ {n : Nat}, (∀ i, i < n → f i ≤ g i) → sg f n ≤ sg g n
  | 0, _ => Int.le_refl _
  | n + 1, h => by
    have h1 := sg_le (f := f) (g := g) (n := n) (fun i hi => h i (by omega))
    have h2 := h n (by omega)
    simp only [sg]
    omega
theorem sg_bound {f : Nat → Int} {K : Int} : ∀ {n : Nat}, (∀ i, i < n → 0 ≤ f i ∧ f i ≤ K) → 0 ≤ sg f n ∧ sg f n ≤ n * K
  | 0, _ => by simp [sg]
  | n + 1, h => by
    have h1 := sg_bound (f := f) (K := K) (n := n) (fun i hi => h i (by omega))
    have h2 := h n (by omega)
    have h3 : ((n + 1 : Nat) : Int) * K = n * K + K := by push_cast; rw [Int.add_mul, Int.one_mul]
    simp only [sg]
    omega
theorem sg_join (f : Nat → Int) (a : Nat) : ∀ b : Nat, sg f (a + b) = sg f a + sg (fun x => f (a + x)) b
  | 0 => by simp [sg]
  | b + 1 => by
    show sg f (a + b) + f (a + b) = sg f a + (sg (fun x => f (a + x)) b + f (a + b))
    rw [sg_join f a b]
    omega
theorem sg_cut (f : Nat → Int) (W : Nat) : ∀ H : Nat, sg f (H * W) = sg (fun y => sg (fun x => f (y * W + x)) W) H
  | 0 => by simp [sg]
  | H + 1 => by
    rw [Nat.succ_mul, sg_join, sg_cut f W H]
    rfl
theorem sg_swap (f : Nat → Nat → Int) (W : Nat) : ∀ H : Nat, sg (fun y => sg (f y) W) H = sg (fun x => sg (fun y => f y x) H) W
  | 0 => by simp only [sg]; exact (sg_zero W).symm
  | H + 1 => by
    simp only [sg]
    rw [sg_swap f W H, ← sg_add]
theorem sg_two (f : Nat → Int) (n : Nat) : 2 * sg f n = sg (fun i => f i + f i) n := by
  rw [sg_add]
  omega

/-- The energy of a line as a sum. -/
theorem en_sg (p q : Int) (c : Nat → Nat → Int) (l : Nat → Nat) : ∀ n : Nat, en p q c l n = sg (fun i => c i (l i) + (if i = 0 then 0 else vp p q (l i) (l (i - 1)))) n
  | 0 => rfl
  | n + 1 => by
    simp only [en, sg]
    rw [en_sg p q c l n]
    omega

/-! ### The least of the last row -/

theorem Fw_congr {p q : Int} {c c' : Nat → Nat → Int} {W : Nat} (hW : 0 < W) : ∀ i, (∀ y, y ≤ i → c' y = c y) → ∀ d, Fw p q c' W i d = Fw p q c W i d
  | 0, h, d => by simp only [Fw]; rw [h 0 (by omega)]
  | i + 1, h, d => by
    simp only [Fw]
    rw [h (i + 1) (by omega), tr_congr hW (fun e _ => Fw_congr hW i (fun y hy => h y (by omega)) e)]
theorem last_me {p q : Int} {c : Nat → Nat → Int} {W n : Nat} (hW : 0 < W) (hn : 0 < n) : mn (Fw p q c W (n - 1)) 0 (W - 1) = me p q c W n := by
  have h1 := Fw_last (p := p) (q := q) c hW hn (d := am (Fw p q c W (n - 1)) 0 (W - 1)) (by have := am_in (Fw p q c W (n - 1)) 0 (W - 1); omega)
  rw [am_val (Fw p q c W (n - 1)) 0 (W - 1)] at h1
  have h2 := Fw_last (p := p) (q := q) (fun y => c (n - 1 - y)) hW hn (d := lb p q c W n 0) (lb_lt p q c hW n 0)
  rw [Fw_rev hW (n - 1) (by omega), Nat.sub_self] at h2
  have h3 : me p q (fun y => c (n - 1 - y)) W n = Fw p q c W (n - 1) (lb p q (fun y => c (n - 1 - y)) W n 0) := by
    unfold me
    have e := Fw_rev (p := p) (q := q) (c := fun y => c (n - 1 - y)) (H := n) hW (n - 1) (by omega) (lb p q (fun y => c (n - 1 - y)) W n 0)
    rw [Nat.sub_self] at e
    rw [← e]
    exact Fw_congr hW (n - 1) (fun y hy => by rw [show n - 1 - (n - 1 - y) = y by omega]) _
  have h4 := mn_le (Fw p q c W (n - 1)) 0 (W - 1) (lb p q (fun y => c (n - 1 - y)) W n 0) (by omega) (by have := lb_lt p q (fun y => c (n - 1 - y)) hW n 0; omega)
  have h5 : me p q c W n = RT p q c W n 0 (lb p q c W n 0) := rfl
  omega

/-! ### The energy of a map -/

def gt (p q : Int) (W : Nat) (C : Nat → Nat → Int) (l : Nat → Nat) (i : Nat) : Int :=
  C i (l i) + (if 0 < i % W then vp p q (l i) (l (i - 1)) else 0) + (if W ≤ i then vp p q (l i) (l (i - W)) else 0)
theorem gt_bound {p q : Int} (hp : PB p q) {W D : Nat} {C : Nat → Nat → Int} (hC : CB D C) {l : Nat → Nat} {i : Nat} (hl : l i < D) : 0 ≤ gt p q W C l i ∧ gt p q W C l i ≤ 3145728 := by
  have h1 := hC i (l i) hl
  have h2 := vp_bound hp (l i) (l (i - 1))
  have h3 := vp_bound hp (l i) (l (i - W))
  have h4 := hp.2.2
  unfold gt
  split <;> split <;> omega
theorem gt_at (p q : Int) {W x : Nat} (hx : x < W) (C : Nat → Nat → Int) (l : Nat → Nat) (y : Nat) : gt p q W C l (y * W + x) = C (y * W + x) (l (y * W + x)) + (if x = 0 then 0 else vp p q (l (y * W + x)) (l (y * W + (x - 1)))) + (if y = 0 then 0 else vp p q (l (y * W + x)) (l ((y - 1) * W + x))) := by
  unfold gt
  have e1 : (y * W + x) % W = x := by
    rw [Nat.mul_comm, Nat.mul_add_mod, Nat.mod_eq_of_lt hx]
  have e2 : W ≤ y * W + x ↔ y ≠ 0 := by
    cases y with
    | zero => simp; omega
    | succ y => rw [Nat.succ_mul]; constructor <;> intros <;> omega
  have e3 : y ≠ 0 → y * W + x - W = (y - 1) * W + x := fun h => by
    cases y with
    | zero => exact absurd rfl h
    | succ y => rw [Nat.succ_mul, Nat.add_sub_cancel]; omega
  rw [e1]
  by_cases h1 : x = 0
  · rw [if_neg (by omega), if_pos h1]
    by_cases h2 : y = 0
    · rw [if_neg (fun h => e2.1 h h2), if_pos h2]
    · rw [if_pos (e2.2 h2), if_neg h2, e3 h2]
  · rw [if_pos (by omega), if_neg h1, show y * W + x - 1 = y * W + (x - 1) by omega]
    by_cases h2 : y = 0
    · rw [if_neg (fun h => e2.1 h h2), if_pos h2]
    · rw [if_pos (e2.2 h2), if_neg h2, e3 h2]

theorem vp_two (p q : Int) (a b : Nat) : vp (2 * p) (2 * q) a b = vp p q a b + vp p q a b := by
  unfold vp
  split
  · rfl
  · split <;> omega

/-- Twice the energy is at least the least energies of rows and columns. -/
theorem bound_le (p q : Int) {W H D : Nat} (hW : 0 < W) (hH : 0 < H) (C : Nat → Nat → Int) {l : Nat → Nat} (hl : ∀ i, i < H * W → l i < D) :
    sg (fun y => me (2 * p) (2 * q) (fun x => C (y * W + x)) D W) H + sg (fun x => me (2 * p) (2 * q) (fun y => C (y * W + x)) D H) W ≤ 2 * sg (gt p q W C l) (H * W) := by
  have hin : ∀ y x, y < H → x < W → y * W + x < H * W := fun y x hy hx => by
    have : (y + 1) * W ≤ H * W := Nat.mul_le_mul_right W hy
    rw [Nat.succ_mul] at this
    omega
  have h1 : sg (fun y => me (2 * p) (2 * q) (fun x => C (y * W + x)) D W) H ≤ sg (fun y => en (2 * p) (2 * q) (fun x => C (y * W + x)) (fun x => l (y * W + x)) W) H := sg_le fun y hy => en_me hW fun x hx => hl _ (hin y x hy hx)
  have h2 : sg (fun x => me (2 * p) (2 * q) (fun y => C (y * W + x)) D H) W ≤ sg (fun x => en (2 * p) (2 * q) (fun y => C (y * W + x)) (fun y => l (y * W + x)) H) W := sg_le fun x hx => en_me hH fun y hy => hl _ (hin y x hy hx)
  have h3 : sg (fun x => en (2 * p) (2 * q) (fun y => C (y * W + x)) (fun y => l (y * W + x)) H) W = sg (fun y => sg (fun x => C (y * W + x) (l (y * W + x)) + (if y = 0 then 0 else vp (2 * p) (2 * q) (l (y * W + x)) (l ((y - 1) * W + x)))) W) H := by
    rw [sg_swap]
    exact sg_congr fun x _ => en_sg _ _ _ _ _
  have h4 : 2 * sg (gt p q W C l) (H * W) = sg (fun y => en (2 * p) (2 * q) (fun x => C (y * W + x)) (fun x => l (y * W + x)) W) H + sg (fun x => en (2 * p) (2 * q) (fun y => C (y * W + x)) (fun y => l (y * W + x)) H) W := by
    rw [h3, ← sg_add, sg_two, sg_cut]
    refine sg_congr fun y _ => ?_
    rw [en_sg, ← sg_add]
    refine sg_congr fun x hx => ?_
    rw [gt_at p q hx]
    simp only [vp_two]
    split <;> split <;> omega
  omega
end Go.E

namespace Go.Proofs.Ytgakaghdiodakaa
open Go.E

/-! ### Costs -/

def cC (cs : List Int) (D : Nat) : Nat → Nat → Int := fun i d => cs.getD (i * D + d) 0
theorem slice_eq {cs : List Int} {a D : Nat} (h : a + D ≤ cs.length) : (cs.take (a + D)).drop a = row D (fun d => cs.getD (a + d) 0) := by
  apply List.ext_getElem?
  intro z
  rw [List.getElem?_drop, List.getElem?_take]
  by_cases hz : z < D
  · rw [if_pos (by omega), row_get _ _ hz, List.getD_eq_getElem?_getD, List.getElem?_eq_getElem (by omega)]
    rfl
  · rw [if_neg (by omega), List.getElem?_eq_none (by rw [row_len]; omega)]

theorem mulB {i N D : Nat} (h : i < N) : i * D + D ≤ N * D := by
  have : (i + 1) * D ≤ N * D := Nat.mul_le_mul_right D h
  rw [Nat.succ_mul] at this
  exact this
theorem inB {y H x W : Nat} (hy : y < H) (hx : x < W) : y * W + x < H * W := by
  have := mulB (D := W) hy
  omega

theorem at_w {W D x y n : Nat} (h : (y * W + x) * D + D ≤ 1000000) (hD : 0 < D) : w64 ((w64 ((w64 ((y : Int) * W)) + x)) * D) = (((y * W + x) * D : Nat) : Int) ∧ w64 ((((y * W + x) * D : Nat) : Int) + D) = (((y * W + x) * D + D : Nat) : Int) := by
  have h0 : y * W + x ≤ (y * W + x) * D := Nat.le_mul_of_pos_right _ hD
  have e1 : (y : Int) * W = ((y * W : Nat) : Int) := by push_cast; rfl
  rw [e1, w64_id (z := ((y * W : Nat) : Int)) (by omega) (by omega), w64_id (z := ((y * W : Nat) : Int) + x) (by omega) (by omega), show ((y * W : Nat) : Int) + (x : Int) = ((y * W + x : Nat) : Int) by push_cast; rfl,
    show ((y * W + x : Nat) : Int) * (D : Int) = (((y * W + x) * D : Nat) : Int) by push_cast; rfl]
  refine ⟨w64_id (by omega) (by omega), ?_⟩
  rw [w64_id (by omega) (by omega)]
  push_cast
  rfl

theorem at_eq {W H D : Nat} {cs : List Int} (hD : 0 < D) (hn : cs.length = H * W * D) (h6 : cs.length ≤ 600) {x y : Nat} (hy : y < H) (hx : x < W) (z : Int) :
    aggregate_at W z D cs x y = some (row D (cC cs D (y * W + x))) ∧ fiduciallaw45_at W z D cs x y = some (row D (cC cs D (y * W + x))) := by
  have hb := mulB (D := D) (inB hy hx)
  obtain ⟨e1, e2⟩ := at_w (n := 0) (show (y * W + x) * D + D ≤ 1000000 by omega) hD
  have e3 : (cs.take ((((y * W + x) * D + D : Nat) : Int)).toNat).drop ((((y * W + x) * D : Nat) : Int)).toNat = row D (cC cs D (y * W + x)) := slice_eq (by omega)
  constructor
  · unfold aggregate_at
    rw [e1, e2, chk_pos (by omega), e3]
  · unfold fiduciallaw45_at
    rw [e1, e2, chk_pos (by omega), e3]

theorem image_cases {W0 H0 D0 : Int} {cs : List Int} (h6 : cs.length ≤ 600) (p q : Int) :
    (∃ W H D : Nat, W0 = W ∧ H0 = H ∧ D0 = D ∧ 0 < W ∧ W ≤ 64 ∧ 0 < H ∧ H ≤ 64 ∧ 0 < D ∧ D ≤ 64 ∧ cs.length = H * W * D ∧ (∀ z ∈ cs, 0 ≤ z ∧ z ≤ 1048576) ∧ PB p q ∧ aggregate_grid W0 H0 D0 cs p q = some 0 ∧ fiduciallaw45_image W0 H0 D0 cs p q = some 0) ∨
      ∃ k, k ≠ 0 ∧ aggregate_grid W0 H0 D0 cs p q = some k ∧ fiduciallaw45_image W0 H0 D0 cs p q = some k := by
  unfold aggregate_grid census_Check fiduciallaw45_image
  by_cases hd : 1 ≤ W0 ∧ W0 ≤ 64 ∧ 1 ≤ H0 ∧ H0 ≤ 64 ∧ 1 ≤ D0 ∧ D0 ≤ 64
  · obtain ⟨d1, d2, d3, d4, d5, d6⟩ := hd
    obtain ⟨W, rfl⟩ : ∃ W : Nat, W0 = W := ⟨W0.toNat, by omega⟩
    obtain ⟨H, rfl⟩ : ∃ H : Nat, H0 = H := ⟨H0.toNat, by omega⟩
    obtain ⟨D, rfl⟩ : ∃ D : Nat, D0 = D := ⟨D0.toNat, by omega⟩
    have m1 : H * W ≤ 64 * 64 := Nat.mul_le_mul (by omega) (by omega)
    have m2 : H * W * D ≤ 64 * 64 * 64 := Nat.mul_le_mul m1 (by omega)
    have e1 : (W : Int) * (H : Int) = ((H * W : Nat) : Int) := by rw [Nat.mul_comm]; push_cast; rfl
    rw [e1, w64_id (z := ((H * W : Nat) : Int)) (by omega) (by omega), show ((H * W : Nat) : Int) * (D : Int) = ((H * W * D : Nat) : Int) by push_cast; rfl, w64_id (z := ((H * W * D : Nat) : Int)) (by omega) (by omega)]
    simp only [show decide ((W : Int) < 1) = false from decide_eq_false (by omega), show decide (64 < (W : Int)) = false from decide_eq_false (by omega), show decide ((H : Int) < 1) = false from decide_eq_false (by omega), show decide (64 < (H : Int)) = false from decide_eq_false (by omega), show decide ((D : Int) < 1) = false from decide_eq_false (by omega), show decide (64 < (D : Int)) = false from decide_eq_false (by omega), Bool.false_eq_true, if_false, Option.bind_some]
    by_cases hn : cs.length = H * W * D
    · rw [if_neg (by simp only [bne_iff_ne, ne_eq, Classical.not_not]; omega), if_neg (by simp only [bne_iff_ne, ne_eq, Classical.not_not]; omega)]
      have a1 : slices_ContainsFunc_sint cs (fun z => census_Check_c1 z) = some (cs.any ok1) := any_int (fun z => by
        unfold census_Check_c1 ok1
        by_cases h : z < 0
        · rw [if_pos (decide_eq_true h), decide_eq_true h]; rfl
        · rw [if_neg (by simpa using h), decide_eq_false h]; rfl) (by omega)
      have a2 : slices_ContainsFunc_sint cs (fun z => fiduciallaw45_image_c1 z) = some (cs.any ok1) := any_int (fun z => by
        unfold fiduciallaw45_image_c1 ok1
        by_cases h : z < 0
        · rw [if_pos (decide_eq_true h), decide_eq_true h]; rfl
        · rw [if_neg (by simpa using h), decide_eq_false h]; rfl) (by omega)
      rw [a1, a2]
      simp only [Option.bind_some]
      cases ha : cs.any ok1
      · rw [if_neg (by decide), if_neg (by decide), Option.bind_some, if_neg (by decide)]
        have hz : ∀ z ∈ cs, 0 ≤ z ∧ z ≤ 1048576 := fun z hz => ok1_iff.1 (by simpa using List.any_eq_false.1 ha z hz)
        rcases pen_eq p q with ⟨hp, q1, q2⟩ | ⟨hp, q1, q2⟩
        · rw [q1, q2]
          exact .inl ⟨W, H, D, rfl, rfl, rfl, by omega, by omega, by omega, by omega, by omega, by omega, hn, hz, hp, rfl, rfl⟩
        · rw [q1, q2]
          exact .inr ⟨2, by decide, rfl, rfl⟩
      · exact .inr ⟨1, by decide, rfl, rfl⟩
    · rw [if_pos (by simp only [bne_iff_ne, ne_eq]; omega), if_pos (by simp only [bne_iff_ne, ne_eq]; omega)]
      exact .inr ⟨1, by decide, rfl, rfl⟩
  · right
    refine ⟨1, by decide, ?_⟩
    generalize ((cs.length : Int) != w64 (w64 (W0 * H0) * D0)) = b
    generalize slices_ContainsFunc_sint cs (fun z => census_Check_c1 z) = o1
    generalize slices_ContainsFunc_sint cs (fun z => fiduciallaw45_image_c1 z) = o2
    have : (if decide (W0 < 1) = true then some true else if decide (64 < W0) = true then some true else if decide (H0 < 1) = true then some true else if decide (64 < H0) = true then some true else if decide (D0 < 1) = true then some true else if decide (64 < D0) = true then some true else some b) = some true := by
      by_cases h1 : W0 < 1
      · rw [if_pos (decide_eq_true h1)]
      rw [if_neg (by simpa using h1)]
      by_cases h2 : 64 < W0
      · rw [if_pos (decide_eq_true h2)]
      rw [if_neg (by simpa using h2)]
      by_cases h3 : H0 < 1
      · rw [if_pos (decide_eq_true h3)]
      rw [if_neg (by simpa using h3)]
      by_cases h4 : 64 < H0
      · rw [if_pos (decide_eq_true h4)]
      rw [if_neg (by simpa using h4)]
      by_cases h5 : D0 < 1
      · rw [if_pos (decide_eq_true h5)]
      rw [if_neg (by simpa using h5)]
      by_cases h6 : 64 < D0
      · rw [if_pos (decide_eq_true h6)]
      exact absurd ⟨by omega, by omega, by omega, by omega, by omega, by omega⟩ hd
    rw [this]
    exact ⟨rfl, rfl⟩

/-! ### Grid -/

theorem gridE {p q : Int} (hp : PB p q) {W H D : Nat} (hW : 0 < W) (hH : 0 < H) (hD : 0 < D) (hD2 : D ≤ 64) {cs : List Int} (hn : cs.length = H * W * D) (h6 : cs.length ≤ 600) (hC : CB D (cC cs D)) {l : List Int} (hl : l.length = H * W) (hr : ∀ i, i < H * W → cr l i < D ∧ cg l i = (cr l i : Int)) (z : Int) :
    loopM FUEL (fun s : Int × Int => aggregate_Grid_s1 W D cs p q l s.1 s.2) (0, 0) = some (sg (gt p q W (cC cs D) (cr l)) (H * W)) ∧ fiduciallaw45_grid W H D cs p q l = some (sg (gt p q W (cC cs D) (cr l)) (H * W)) := by
  have hN : H * W ≤ 600 := by have := Nat.le_mul_of_pos_right (H * W) hD; omega
  have hWN : W ≤ H * W := Nat.le_mul_of_pos_left W hH
  have hHN : H ≤ H * W := Nat.le_mul_of_pos_right H hW
  have h5 := hp.2.2
  have hs : ∀ i, i ≤ H * W → 0 ≤ sg (gt p q W (cC cs D) (cr l)) i ∧ sg (gt p q W (cC cs D) (cr l)) i ≤ 2000000000 := fun i hi => by
    have h := sg_bound (f := gt p q W (cC cs D) (cr l)) (K := 3145728) (n := i) (fun j hj => gt_bound hp hC (hr j (by omega)).1)
    have : (i : Int) * 3145728 ≤ 600 * 3145728 := Int.mul_le_mul_of_nonneg_right (by omega) (by omega)
    omega
  constructor
  · refine loop_go (fun i => (sg (gt p q W (cC cs D) (cr l)) i, (i : Int))) (H * W) (by unfold FUEL; omega) rfl (fun i hi => ?_) ?_
    · show aggregate_Grid_s1 W D cs p q l (sg (gt p q W (cC cs D) (cr l)) i) (i : Int) = _
      have hb := mulB (D := D) hi
      obtain ⟨r1, r2⟩ := hr i hi
      have c1 := hC i _ r1
      have s1 := hs i (by omega)
      have s2 := hs (i + 1) (by omega)
      unfold aggregate_Grid_s1
      rw [if_pos (by simp only [decide_eq_true_eq]; omega), cg_ix rfl (by omega), Option.bind_some, r2, show (i : Int) * (D : Int) = ((i * D : Nat) : Int) by push_cast; rfl, w64_id (z := ((i * D : Nat) : Int)) (by omega) (by omega), w64_id (z := ((i * D : Nat) : Int) + _) (by omega) (by omega),
        ix_getD (i := i * D + cr l i) (by push_cast; rfl) (by omega) 0, Option.bind_some, chk_pos (by omega), show Int.tmod (i : Int) (W : Int) = ((i % W : Nat) : Int) from rfl]
      have e0 : cs.getD (i * D + cr l i) 0 = cC cs D i (cr l i) := rfl
      rw [e0, w64_id (z := sg (gt p q W (cC cs D) (cr l)) i + _) (by omega) (by omega)]
      have e1 : (if decide (0 < ((i % W : Nat) : Int)) = true then (ix l (w64 ((i : Int) - 1))).bind fun v_12 => (aggregate_between (w64 ((cr l i : Int) - v_12)) p q).bind fun y_13 => some (w64 (sg (gt p q W (cC cs D) (cr l)) i + cC cs D i (cr l i) + y_13)) else some (sg (gt p q W (cC cs D) (cr l)) i + cC cs D i (cr l i))) = some (sg (gt p q W (cC cs D) (cr l)) i + cC cs D i (cr l i) + (if 0 < i % W then vp p q (cr l i) (cr l (i - 1)) else 0)) := by
        by_cases h0 : 0 < i % W
        · have hi0 : 0 < i := Nat.lt_of_lt_of_le h0 (Nat.mod_le i W)
          have hv := vp_bound hp (cr l i) (cr l (i - 1))
          have hq := hr (i - 1) (by omega)
          rw [if_pos (by simp only [decide_eq_true_eq]; omega), if_pos h0, w64_id (z := (i : Int) - 1) (by omega) (by omega), cg_ix (y := i - 1) (by omega) (by omega), Option.bind_some, between_eq p q (a := cr l i) (b := cr l (i - 1)) (by omega) (by omega) rfl hq.2, Option.bind_some, w64_id (by omega) (by omega)]
        · rw [if_neg (by simp only [decide_eq_true_eq]; omega), if_neg h0, Int.add_zero]
      rw [e1, Option.bind_some]
      have e2 : (if decide ((W : Int) ≤ (i : Int)) = true then (ix l (w64 ((i : Int) - W))).bind fun v_10 => (aggregate_between (w64 ((cr l i : Int) - v_10)) p q).bind fun y_11 => some (w64 (sg (gt p q W (cC cs D) (cr l)) i + cC cs D i (cr l i) + (if 0 < i % W then vp p q (cr l i) (cr l (i - 1)) else 0) + y_11)) else some (sg (gt p q W (cC cs D) (cr l)) i + cC cs D i (cr l i) + (if 0 < i % W then vp p q (cr l i) (cr l (i - 1)) else 0))) = some (sg (gt p q W (cC cs D) (cr l)) (i + 1)) := by
        by_cases h0 : W ≤ i
        · have hq := hr (i - W) (by omega)
          have ht : sg (gt p q W (cC cs D) (cr l)) (i + 1) = sg (gt p q W (cC cs D) (cr l)) i + cC cs D i (cr l i) + (if 0 < i % W then vp p q (cr l i) (cr l (i - 1)) else 0) + vp p q (cr l i) (cr l (i - W)) := by
            show sg (gt p q W (cC cs D) (cr l)) i + gt p q W (cC cs D) (cr l) i = _
            unfold gt
            rw [if_pos h0]
            omega
          rw [if_pos (by simp only [decide_eq_true_eq]; omega), w64_id (z := (i : Int) - W) (by omega) (by omega), cg_ix (y := i - W) (by omega) (by omega), Option.bind_some, between_eq p q (a := cr l i) (b := cr l (i - W)) (by omega) (by omega) rfl hq.2, Option.bind_some, ← ht, w64_id (by omega) (by omega)]
        · rw [if_neg (by simp only [decide_eq_true_eq]; omega)]
          show _ = some (sg (gt p q W (cC cs D) (cr l)) i + gt p q W (cC cs D) (cr l) i)
          unfold gt
          rw [if_neg h0]
          congr 1
          omega
      rw [e2, Option.bind_some, w64_id (by omega) (by omega)]
      rfl
    · show aggregate_Grid_s1 W D cs p q l (sg (gt p q W (cC cs D) (cr l)) (H * W)) ((H * W : Nat) : Int) = _
      unfold aggregate_Grid_s1
      rw [if_neg (by simp only [decide_eq_true_eq]; omega)]
  · unfold fiduciallaw45_grid
    have : loopM FUEL (fun s : Int × Int => fiduciallaw45_grid_s1 W H D cs p q l s.1 s.2) (0, 0) = some (sg (gt p q W (cC cs D) (cr l)) (H * W)) := by
      refine loop_go (fun y => (sg (gt p q W (cC cs D) (cr l)) (y * W), (y : Int))) H (by unfold FUEL; omega) (by rw [Nat.zero_mul]; rfl) (fun y hy => ?_) ?_
      · show fiduciallaw45_grid_s1 W H D cs p q l (sg (gt p q W (cC cs D) (cr l)) (y * W)) (y : Int) = _
        unfold fiduciallaw45_grid_s1
        have hyW := mulB (D := W) hy
        have e : loopM FUEL (fun s : Int × Int => fiduciallaw45_grid_s2 W H D cs p q l (y : Int) s.1 s.2) (sg (gt p q W (cC cs D) (cr l)) (y * W), 0) = some (sg (gt p q W (cC cs D) (cr l)) ((y + 1) * W)) := by
          refine loop_go (fun x => (sg (gt p q W (cC cs D) (cr l)) (y * W + x), (x : Int))) W (by unfold FUEL; omega) rfl (fun x hx => ?_) ?_
          · show fiduciallaw45_grid_s2 W H D cs p q l (y : Int) (sg (gt p q W (cC cs D) (cr l)) (y * W + x)) (x : Int) = _
            have hi := inB hy hx
            obtain ⟨r1, r2⟩ := hr _ hi
            have c1 := hC (y * W + x) _ r1
            have s1 := hs (y * W + x) (by omega)
            have s2 := hs (y * W + x + 1) (by omega)
            unfold fiduciallaw45_grid_s2
            rw [if_pos (by simp only [decide_eq_true_eq]; omega), show (y : Int) * (W : Int) = ((y * W : Nat) : Int) by push_cast; rfl, w64_id (z := ((y * W : Nat) : Int)) (by omega) (by omega), w64_id (z := ((y * W : Nat) : Int) + (x : Int)) (by omega) (by omega),
              cg_ix (y := y * W + x) (by push_cast; rfl) (by omega), Option.bind_some, (at_eq hD hn h6 hy hx _).2, Option.bind_some, r2, row_ix D _ rfl r1, Option.bind_some, w64_id (z := sg (gt p q W (cC cs D) (cr l)) (y * W + x) + _) (by omega) (by omega)]
            have e1 : (if decide (0 < (x : Int)) = true then (ix l (w64 (((y * W : Nat) : Int) + (x : Int) - 1))).bind fun v_14 => (fiduciallaw45_jump (w64 ((cr l (y * W + x) : Int) - v_14)) p q).bind fun y_15 => some (w64 (sg (gt p q W (cC cs D) (cr l)) (y * W + x) + cC cs D (y * W + x) (cr l (y * W + x)) + y_15)) else some (sg (gt p q W (cC cs D) (cr l)) (y * W + x) + cC cs D (y * W + x) (cr l (y * W + x)))) = some (sg (gt p q W (cC cs D) (cr l)) (y * W + x) + cC cs D (y * W + x) (cr l (y * W + x)) + (if x = 0 then 0 else vp p q (cr l (y * W + x)) (cr l (y * W + (x - 1))))) := by
              by_cases h0 : x = 0
              · rw [if_neg (by simp only [decide_eq_true_eq]; omega), if_pos h0, Int.add_zero]
              · have hv := vp_bound hp (cr l (y * W + x)) (cr l (y * W + (x - 1)))
                have hq := hr (y * W + (x - 1)) (by omega)
                rw [if_pos (by simp only [decide_eq_true_eq]; omega), if_neg h0, w64_id (z := ((y * W : Nat) : Int) + (x : Int) - 1) (by omega) (by omega), cg_ix (y := y * W + (x - 1)) (by omega) (by omega), Option.bind_some, jump_eq p q (a := cr l (y * W + x)) (b := cr l (y * W + (x - 1))) (by omega) (by omega) rfl hq.2, Option.bind_some, w64_id (by omega) (by omega)]
            rw [e1, Option.bind_some]
            have hgt := gt_at p q hx (cC cs D) (cr l) y
            have hsum : sg (gt p q W (cC cs D) (cr l)) (y * W + x + 1) = sg (gt p q W (cC cs D) (cr l)) (y * W + x) + gt p q W (cC cs D) (cr l) (y * W + x) := rfl
            have e2 : (if decide (0 < (y : Int)) = true then (ix l (w64 ((w64 ((w64 ((y : Int) - 1)) * (W : Int))) + (x : Int)))).bind fun v_12 => (fiduciallaw45_jump (w64 ((cr l (y * W + x) : Int) - v_12)) p q).bind fun y_13 => some (w64 (sg (gt p q W (cC cs D) (cr l)) (y * W + x) + cC cs D (y * W + x) (cr l (y * W + x)) + (if x = 0 then 0 else vp p q (cr l (y * W + x)) (cr l (y * W + (x - 1)))) + y_13)) else some (sg (gt p q W (cC cs D) (cr l)) (y * W + x) + cC cs D (y * W + x) (cr l (y * W + x)) + (if x = 0 then 0 else vp p q (cr l (y * W + x)) (cr l (y * W + (x - 1)))))) = some (sg (gt p q W (cC cs D) (cr l)) (y * W + x + 1)) := by
              by_cases h0 : y = 0
              · rw [if_neg (by simp only [decide_eq_true_eq]; omega), hsum, hgt, if_pos h0]
                congr 1
                omega
              · have hlt : (y - 1) * W + x < H * W := inB (by omega) hx
                have hq := hr ((y - 1) * W + x) hlt
                have ht : sg (gt p q W (cC cs D) (cr l)) (y * W + x) + cC cs D (y * W + x) (cr l (y * W + x)) + (if x = 0 then 0 else vp p q (cr l (y * W + x)) (cr l (y * W + (x - 1)))) + vp p q (cr l (y * W + x)) (cr l ((y - 1) * W + x)) = sg (gt p q W (cC cs D) (cr l)) (y * W + x + 1) := by
                  rw [hsum, hgt, if_neg h0]
                  omega
                rw [if_pos (by simp only [decide_eq_true_eq]; omega), w64_id (z := (y : Int) - 1) (by omega) (by omega), show (y : Int) - 1 = ((y - 1 : Nat) : Int) by omega, show ((y - 1 : Nat) : Int) * (W : Int) = (((y - 1) * W : Nat) : Int) by push_cast; rfl, w64_id (z := (((y - 1) * W : Nat) : Int)) (by omega) (by omega), w64_id (z := (((y - 1) * W : Nat) : Int) + (x : Int)) (by omega) (by omega),
                  cg_ix (y := (y - 1) * W + x) (by push_cast; rfl) (by omega), Option.bind_some, jump_eq p q (a := cr l (y * W + x)) (b := cr l ((y - 1) * W + x)) (by omega) (by omega) rfl hq.2, Option.bind_some, ht, w64_id (by omega) (by omega)]
            rw [e2, Option.bind_some, w64_id (by omega) (by omega)]
            rfl
          · show fiduciallaw45_grid_s2 W H D cs p q l (y : Int) (sg (gt p q W (cC cs D) (cr l)) (y * W + W)) (W : Int) = _
            unfold fiduciallaw45_grid_s2
            rw [if_neg (by simp), Nat.succ_mul]
        rw [if_pos (by simp only [decide_eq_true_eq]; omega), e, Option.bind_some, w64_id (by omega) (by omega)]
        rfl
      · show fiduciallaw45_grid_s1 W H D cs p q l (sg (gt p q W (cC cs D) (cr l)) (H * W)) (H : Int) = _
        unfold fiduciallaw45_grid_s1
        rw [if_neg (by simp)]
    rw [this]
    rfl

/-! ### Bound -/

theorem me_bound {p q : Int} (hp : PB p q) {c : Nat → Nat → Int} {W H : Nat} (hW : 0 < W) (hH : H ≤ 64) (hc : CB W c) : 0 ≤ me p q c W H ∧ me p q c W H ≤ 136314880 := RT_bound hp hW hH hc 0 (lb_lt p q c hW H 0)

def bd (p q : Int) (W H D : Nat) (C : Nat → Nat → Int) : Int := sg (fun y => me (2 * p) (2 * q) (fun x => C (y * W + x)) D W) H + sg (fun x => me (2 * p) (2 * q) (fun y => C (y * W + x)) D H) W

theorem boundE {p q : Int} (hp : PB (2 * p) (2 * q)) {W H D : Nat} (hW : 0 < W) (hH : 0 < H) (hD : 0 < D) (hW2 : W ≤ 64) (hH2 : H ≤ 64) (hD2 : D ≤ 64) {cs : List Int} (hn : cs.length = H * W * D) (h6 : cs.length ≤ 600) (hC : CB D (cC cs D)) :
    ((loopM FUEL (fun s : Int × Int => aggregate_Bound_s1 W H D cs p q s.1 s.2) (0, 0)).bind fun s_4 => (loopM FUEL (fun s : Int × Int => aggregate_Bound_s2 W H D cs p q s.1 s.2) (0, s_4)).bind fun s_7 => some (s_7, 0)) = some (bd p q W H D (cC cs D), (0 : Int)) ∧ fiduciallaw45_bound W H D cs p q = some (bd p q W H D (cC cs D)) := by
  obtain ⟨p1, p2, p3⟩ := hp
  have hp : PB (2 * p) (2 * q) := ⟨p1, p2, p3⟩
  have hrow : ∀ y, CB D (fun x => cC cs D (y * W + x)) := fun y a d hd => hC _ d hd
  have hcol : ∀ x, CB D (fun y => cC cs D (y * W + x)) := fun x a d hd => hC _ d hd
  have m1 := fun y => me_bound hp hD hW2 (hrow y)
  have m2 := fun x => me_bound hp hD hH2 (hcol x)
  have s1 : ∀ n, n ≤ 64 → 0 ≤ sg (fun y => me (2 * p) (2 * q) (fun x => cC cs D (y * W + x)) D W) n ∧ sg (fun y => me (2 * p) (2 * q) (fun x => cC cs D (y * W + x)) D W) n ≤ 8724152320 := fun n hn => by
    have h := sg_bound (K := 136314880) (n := n) (fun i _ => m1 i)
    have : (n : Int) * 136314880 ≤ 64 * 136314880 := Int.mul_le_mul_of_nonneg_right (by omega) (by omega)
    omega
  have s2 : ∀ n, n ≤ 64 → 0 ≤ sg (fun x => me (2 * p) (2 * q) (fun y => cC cs D (y * W + x)) D H) n ∧ sg (fun x => me (2 * p) (2 * q) (fun y => cC cs D (y * W + x)) D H) n ≤ 8724152320 := fun n hn => by
    have h := sg_bound (K := 136314880) (n := n) (fun i _ => m2 i)
    have : (n : Int) * 136314880 ≤ 64 * 136314880 := Int.mul_le_mul_of_nonneg_right (by omega) (by omega)
    omega
  have wp : w64 (2 * p) = 2 * p := w64_id (by omega) (by omega)
  have wq : w64 (2 * q) = 2 * q := w64_id (by omega) (by omega)
  -- the lines
  have r1 : ∀ y : Nat, y < H → loopM FUEL (fun s : List (List Int) × Int => aggregate_Bound_s4 W H D cs (y : Int) s.1 s.2) (([] : List (List Int)), 0) = some (tbl D W (fun x => cC cs D (y * W + x))) := fun y hy => by
    refine loop_go (fun x => (tbl D x (fun x => cC cs D (y * W + x)), (x : Int))) W (by unfold FUEL; omega) rfl (fun x hx => ?_) ?_
    · show aggregate_Bound_s4 W H D cs (y : Int) (tbl D x (fun x => cC cs D (y * W + x))) (x : Int) = _
      unfold aggregate_Bound_s4 aggregate_Bound_c2
      rw [if_pos (by simp only [decide_eq_true_eq]; omega), (at_eq hD hn h6 hy hx _).1, Option.bind_some, Option.bind_some, tbl_len, chk_pos (by omega), w64_id (by omega) (by omega)]
      show some (Step.next (_, _)) = some (Step.next (tbl D (x + 1) (fun x => cC cs D (y * W + x)), ((x + 1 : Nat) : Int)))
      rw [tbl_succ]
      rfl
    · show aggregate_Bound_s4 W H D cs (y : Int) (tbl D W (fun x => cC cs D (y * W + x))) (W : Int) = _
      unfold aggregate_Bound_s4
      rw [if_neg (by simp)]
  have r2 : ∀ x : Nat, x < W → loopM FUEL (fun s : List (List Int) × Int => aggregate_Bound_s3 W H D cs (x : Int) s.1 s.2) (([] : List (List Int)), 0) = some (tbl D H (fun y => cC cs D (y * W + x))) := fun x hx => by
    refine loop_go (fun y => (tbl D y (fun y => cC cs D (y * W + x)), (y : Int))) H (by unfold FUEL; omega) rfl (fun y hy => ?_) ?_
    · show aggregate_Bound_s3 W H D cs (x : Int) (tbl D y (fun y => cC cs D (y * W + x))) (y : Int) = _
      unfold aggregate_Bound_s3 aggregate_Bound_c3
      rw [if_pos (by simp only [decide_eq_true_eq]; omega), (at_eq hD hn h6 hy hx _).1, Option.bind_some, Option.bind_some, tbl_len, chk_pos (by omega), w64_id (by omega) (by omega)]
      show some (Step.next (_, _)) = some (Step.next (tbl D (y + 1) (fun y => cC cs D (y * W + x)), ((y + 1 : Nat) : Int)))
      rw [tbl_succ]
      rfl
    · show aggregate_Bound_s3 W H D cs (x : Int) (tbl D H (fun y => cC cs D (y * W + x))) (H : Int) = _
      unfold aggregate_Bound_s3
      rw [if_neg (by simp)]
  have r3 : ∀ y : Nat, y < H → fiduciallaw45_row W H D cs (y : Int) = some (tbl D W (fun x => cC cs D (y * W + x))) := fun y hy => by
    unfold fiduciallaw45_row
    have : loopM FUEL (fun s : List (List Int) × Int => fiduciallaw45_row_s1 W H D cs (y : Int) s.1 s.2) (([] : List (List Int)), 0) = some (tbl D W (fun x => cC cs D (y * W + x))) := by
      refine loop_go (fun x => (tbl D x (fun x => cC cs D (y * W + x)), (x : Int))) W (by unfold FUEL; omega) rfl (fun x hx => ?_) ?_
      · show fiduciallaw45_row_s1 W H D cs (y : Int) (tbl D x (fun x => cC cs D (y * W + x))) (x : Int) = _
        unfold fiduciallaw45_row_s1
        rw [if_pos (by simp only [decide_eq_true_eq]; omega), (at_eq hD hn h6 hy hx _).2, Option.bind_some, tbl_len, chk_pos (by omega), w64_id (by omega) (by omega)]
        show some (Step.next (_, _)) = some (Step.next (tbl D (x + 1) (fun x => cC cs D (y * W + x)), ((x + 1 : Nat) : Int)))
        rw [tbl_succ]
        rfl
      · show fiduciallaw45_row_s1 W H D cs (y : Int) (tbl D W (fun x => cC cs D (y * W + x))) (W : Int) = _
        unfold fiduciallaw45_row_s1
        rw [if_neg (by simp)]
    rw [this]
    rfl
  have r4 : ∀ x : Nat, x < W → fiduciallaw45_column W H D cs (x : Int) = some (tbl D H (fun y => cC cs D (y * W + x))) := fun x hx => by
    unfold fiduciallaw45_column
    have : loopM FUEL (fun s : List (List Int) × Int => fiduciallaw45_column_s1 W H D cs (x : Int) s.1 s.2) (([] : List (List Int)), 0) = some (tbl D H (fun y => cC cs D (y * W + x))) := by
      refine loop_go (fun y => (tbl D y (fun y => cC cs D (y * W + x)), (y : Int))) H (by unfold FUEL; omega) rfl (fun y hy => ?_) ?_
      · show fiduciallaw45_column_s1 W H D cs (x : Int) (tbl D y (fun y => cC cs D (y * W + x))) (y : Int) = _
        unfold fiduciallaw45_column_s1
        rw [if_pos (by simp only [decide_eq_true_eq]; omega), (at_eq hD hn h6 hy hx _).2, Option.bind_some, tbl_len, chk_pos (by omega), w64_id (by omega) (by omega)]
        show some (Step.next (_, _)) = some (Step.next (tbl D (y + 1) (fun y => cC cs D (y * W + x)), ((y + 1 : Nat) : Int)))
        rw [tbl_succ]
        rfl
      · show fiduciallaw45_column_s1 W H D cs (x : Int) (tbl D H (fun y => cC cs D (y * W + x))) (H : Int) = _
        unfold fiduciallaw45_column_s1
        rw [if_neg (by simp)]
    rw [this]
    rfl
  constructor
  · have a1 : loopM FUEL (fun s : Int × Int => aggregate_Bound_s1 W H D cs p q s.1 s.2) (0, 0) = some (sg (fun y => me (2 * p) (2 * q) (fun x => cC cs D (y * W + x)) D W) H) := by
      refine loop_go (fun y => ((y : Int), sg (fun y => me (2 * p) (2 * q) (fun x => cC cs D (y * W + x)) D W) y)) H (by unfold FUEL; omega) rfl (fun y hy => ?_) ?_
      · show aggregate_Bound_s1 W H D cs p q (y : Int) (sg (fun y => me (2 * p) (2 * q) (fun x => cC cs D (y * W + x)) D W) y) = _
        unfold aggregate_Bound_s1
        have t1 := s1 (y + 1) (by omega)
        rw [if_pos (by simp only [decide_eq_true_eq]; omega), r1 y hy, Option.bind_some, wp, wq, table_eq hp hD hW hD2 hW2 (hrow y), Option.bind_some, w64_id (z := (W : Int) - 1) (by omega) (by omega), tbl_ix D W _ (y := W - 1) (by omega) (by omega), Option.bind_some, min_row hD (by omega), Option.bind_some, last_me hD hW, w64_id (z := (y : Int) + 1) (by omega) (by omega)]
        have e : sg (fun y => me (2 * p) (2 * q) (fun x => cC cs D (y * W + x)) D W) y + me (2 * p) (2 * q) (fun x => cC cs D (y * W + x)) D W = sg (fun y => me (2 * p) (2 * q) (fun x => cC cs D (y * W + x)) D W) (y + 1) := rfl
        rw [e, w64_id (by omega) (by omega)]
        rfl
      · show aggregate_Bound_s1 W H D cs p q (H : Int) (sg (fun y => me (2 * p) (2 * q) (fun x => cC cs D (y * W + x)) D W) H) = _
        unfold aggregate_Bound_s1
        rw [if_neg (by simp)]
    have a2 : loopM FUEL (fun s : Int × Int => aggregate_Bound_s2 W H D cs p q s.1 s.2) (0, sg (fun y => me (2 * p) (2 * q) (fun x => cC cs D (y * W + x)) D W) H) = some (bd p q W H D (cC cs D)) := by
      refine loop_go (fun x => ((x : Int), sg (fun y => me (2 * p) (2 * q) (fun x => cC cs D (y * W + x)) D W) H + sg (fun x => me (2 * p) (2 * q) (fun y => cC cs D (y * W + x)) D H) x)) W (by unfold FUEL; omega) (by simp only [sg]; rw [Int.add_zero]; rfl) (fun x hx => ?_) ?_
      · show aggregate_Bound_s2 W H D cs p q (x : Int) (sg (fun y => me (2 * p) (2 * q) (fun x => cC cs D (y * W + x)) D W) H + sg (fun x => me (2 * p) (2 * q) (fun y => cC cs D (y * W + x)) D H) x) = _
        unfold aggregate_Bound_s2
        have t1 := s1 H (by omega)
        have t2 := s2 (x + 1) (by omega)
        rw [if_pos (by simp only [decide_eq_true_eq]; omega), r2 x hx, Option.bind_some, wp, wq, table_eq hp hD hH hD2 hH2 (hcol x), Option.bind_some, w64_id (z := (H : Int) - 1) (by omega) (by omega), tbl_ix D H _ (y := H - 1) (by omega) (by omega), Option.bind_some, min_row hD (by omega), Option.bind_some, last_me hD hH, w64_id (z := (x : Int) + 1) (by omega) (by omega)]
        have e : sg (fun y => me (2 * p) (2 * q) (fun x => cC cs D (y * W + x)) D W) H + sg (fun x => me (2 * p) (2 * q) (fun y => cC cs D (y * W + x)) D H) x + me (2 * p) (2 * q) (fun y => cC cs D (y * W + x)) D H = sg (fun y => me (2 * p) (2 * q) (fun x => cC cs D (y * W + x)) D W) H + sg (fun x => me (2 * p) (2 * q) (fun y => cC cs D (y * W + x)) D H) (x + 1) := by
          simp only [sg]
          omega
        rw [e, w64_id (by omega) (by omega)]
        rfl
      · show aggregate_Bound_s2 W H D cs p q (W : Int) (bd p q W H D (cC cs D)) = _
        unfold aggregate_Bound_s2
        rw [if_neg (by simp)]
    rw [a1, Option.bind_some, a2]
    rfl
  · unfold fiduciallaw45_bound
    have a1 : loopM FUEL (fun s : Int × Int => fiduciallaw45_bound_s1 W H D cs p q s.1 s.2) (0, 0) = some (sg (fun y => me (2 * p) (2 * q) (fun x => cC cs D (y * W + x)) D W) H) := by
      refine loop_go (fun y => (sg (fun y => me (2 * p) (2 * q) (fun x => cC cs D (y * W + x)) D W) y, (y : Int))) H (by unfold FUEL; omega) rfl (fun y hy => ?_) ?_
      · show fiduciallaw45_bound_s1 W H D cs p q (sg (fun y => me (2 * p) (2 * q) (fun x => cC cs D (y * W + x)) D W) y) (y : Int) = _
        unfold fiduciallaw45_bound_s1
        have t1 := s1 (y + 1) (by omega)
        rw [if_pos (by simp only [decide_eq_true_eq]; omega), r3 y hy, Option.bind_some, wp, wq, first45 hp hD hW hD2 hW2 (hrow y), Option.bind_some, w64_id (z := (y : Int) + 1) (by omega) (by omega)]
        have e : sg (fun y => me (2 * p) (2 * q) (fun x => cC cs D (y * W + x)) D W) y + me (2 * p) (2 * q) (fun x => cC cs D (y * W + x)) D W = sg (fun y => me (2 * p) (2 * q) (fun x => cC cs D (y * W + x)) D W) (y + 1) := rfl
        show some (Step.next (w64 (sg (fun y => me (2 * p) (2 * q) (fun x => cC cs D (y * W + x)) D W) y + me (2 * p) (2 * q) (fun x => cC cs D (y * W + x)) D W), _)) = _
        rw [e, w64_id (by omega) (by omega)]
        rfl
      · show fiduciallaw45_bound_s1 W H D cs p q (sg (fun y => me (2 * p) (2 * q) (fun x => cC cs D (y * W + x)) D W) H) (H : Int) = _
        unfold fiduciallaw45_bound_s1
        rw [if_neg (by simp)]
    have a2 : loopM FUEL (fun s : Int × Int => fiduciallaw45_bound_s2 W H D cs p q s.1 s.2) (sg (fun y => me (2 * p) (2 * q) (fun x => cC cs D (y * W + x)) D W) H, 0) = some (bd p q W H D (cC cs D)) := by
      refine loop_go (fun x => (sg (fun y => me (2 * p) (2 * q) (fun x => cC cs D (y * W + x)) D W) H + sg (fun x => me (2 * p) (2 * q) (fun y => cC cs D (y * W + x)) D H) x, (x : Int))) W (by unfold FUEL; omega) (by simp only [sg]; rw [Int.add_zero]; rfl) (fun x hx => ?_) ?_
      · show fiduciallaw45_bound_s2 W H D cs p q (sg (fun y => me (2 * p) (2 * q) (fun x => cC cs D (y * W + x)) D W) H + sg (fun x => me (2 * p) (2 * q) (fun y => cC cs D (y * W + x)) D H) x) (x : Int) = _
        unfold fiduciallaw45_bound_s2
        have t1 := s1 H (by omega)
        have t2 := s2 (x + 1) (by omega)
        rw [if_pos (by simp only [decide_eq_true_eq]; omega), r4 x hx, Option.bind_some, wp, wq, first45 hp hD hH hD2 hH2 (hcol x), Option.bind_some, w64_id (z := (x : Int) + 1) (by omega) (by omega)]
        have e : sg (fun y => me (2 * p) (2 * q) (fun x => cC cs D (y * W + x)) D W) H + sg (fun x => me (2 * p) (2 * q) (fun y => cC cs D (y * W + x)) D H) x + me (2 * p) (2 * q) (fun y => cC cs D (y * W + x)) D H = sg (fun y => me (2 * p) (2 * q) (fun x => cC cs D (y * W + x)) D W) H + sg (fun x => me (2 * p) (2 * q) (fun y => cC cs D (y * W + x)) D H) (x + 1) := by
          simp only [sg]
          omega
        show some (Step.next (w64 (sg (fun y => me (2 * p) (2 * q) (fun x => cC cs D (y * W + x)) D W) H + sg (fun x => me (2 * p) (2 * q) (fun y => cC cs D (y * W + x)) D H) x + me (2 * p) (2 * q) (fun y => cC cs D (y * W + x)) D H), _)) = _
        rw [e, w64_id (by omega) (by omega)]
        rfl
      · show fiduciallaw45_bound_s2 W H D cs p q (bd p q W H D (cC cs D)) (W : Int) = _
        unfold fiduciallaw45_bound_s2
        rw [if_neg (by simp)]
    rw [a1, Option.bind_some, a2]
    rfl

theorem cC_CB {cs : List Int} (h : ∀ z ∈ cs, 0 ≤ z ∧ z ≤ 1048576) (D : Nat) : CB D (cC cs D) := fun i d _ => by
  unfold cC
  by_cases hi : i * D + d < cs.length
  · exact h _ (getD_mem hi)
  · rw [List.getD_eq_getElem?_getD, List.getElem?_eq_none (by omega)]; simp

theorem grids_true (W0 H0 D0 : Int) (cs : List Int) (p q : Int) (l : List Int) : fiduciallaw45_AggregateGrids W0 H0 D0 cs p q l = some true := by
  unfold fiduciallaw45_AggregateGrids
  rw [known45, Option.bind_some, if_neg (by decide)]
  unfold fiduciallaw45_small
  rw [Option.bind_some]
  by_cases h6 : cs.length ≤ 600
  · rw [if_neg (by simp; omega), Option.bind_some]
    by_cases hl : 700 < l.length
    · rw [if_pos (by simp only [decide_eq_true_eq]; omega)]
    rw [if_neg (by simp only [decide_eq_true_eq]; omega)]
    unfold aggregate_Grid aggregate_Bound
    rcases image_cases (W0 := W0) (H0 := H0) (D0 := D0) h6 p q with ⟨W, H, D, rfl, rfl, rfl, w1, w2, y1, y2, d1, d2, hn, hz, hp, g1, g2⟩ | ⟨k, hk, g1, g2⟩
    · have hC := cC_CB hz D
      obtain ⟨p1, p2, p3⟩ := hp
      have hp : PB p q := ⟨p1, p2, p3⟩
      have e1 : w64 ((W : Int) * (H : Int)) = ((H * W : Nat) : Int) := by
        have m1 : H * W ≤ 64 * 64 := Nat.mul_le_mul (by omega) (by omega)
        rw [show (W : Int) * (H : Int) = ((H * W : Nat) : Int) by rw [Nat.mul_comm]; push_cast; rfl]
        exact w64_id (by omega) (by omega)
      have hw : w64 (2 * q) = 2 * q := w64_id (by omega) (by omega)
      rw [g1, g2, e1, hw]
      simp only [Option.bind_some]
      rw [agg_labelled_eq]
      by_cases hq : 1048576 < 2 * q
      · rcases labelled_eq l (H * W) D (by omega) with ⟨⟨l1, l2⟩, l3⟩ | ⟨k, hk, l3⟩
        · obtain ⟨f1, f2⟩ := gridE hp w1 y1 d1 d2 hn h6 hC l1 l2 0
          rw [l3, f1, f2]
          simp [hq]
        · rw [l3]
          simp [hq, hk]
      · obtain ⟨b1, b2⟩ := boundE (p := p) (q := q) ⟨by omega, by omega, by omega⟩ w1 y1 d1 w2 y2 d2 hn h6 hC
        rw [b1, b2]
        rcases labelled_eq l (H * W) D (by omega) with ⟨⟨l1, l2⟩, l3⟩ | ⟨k, hk, l3⟩
        · obtain ⟨f1, f2⟩ := gridE hp w1 y1 d1 d2 hn h6 hC l1 l2 0
          have hb := bound_le p q w1 y1 (cC cs D) (D := D) (l := cr l) (fun i hi => (l2 i hi).1)
          have hN : H * W ≤ 600 := by have := Nat.le_mul_of_pos_right (H * W) d1; omega
          have hsb := sg_bound (f := gt p q W (cC cs D) (cr l)) (K := 3145728) (n := H * W) (fun j hj => gt_bound hp hC (l2 j hj).1)
          have hsc : ((H * W : Nat) : Int) * 3145728 ≤ 600 * 3145728 := Int.mul_le_mul_of_nonneg_right (by omega) (by omega)
          have hb : bd p q W H D (cC cs D) ≤ w64 (2 * sg (gt p q W (cC cs D) (cr l)) (H * W)) := by
            rw [w64_id (by omega) (by omega)]
            exact hb
          rw [l3, f1, f2]
          simp [hq, hb]
        · rw [l3]
          simp [hq, hk]
    · rw [g1, g2]
      simp [hk]
  · rw [if_pos (by simp; omega), Option.bind_some, if_pos rfl]
end Go.Proofs.Ytgakaghdiodakaa
