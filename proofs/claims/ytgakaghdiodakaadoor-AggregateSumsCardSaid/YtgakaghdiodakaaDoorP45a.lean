/-
  PLAIN, chapter 45: least energies along a line.
-/
import Derived.Test.YtgakaghdiodakaaDoorPtab
set_option linter.unusedSimpArgs false
set_option linter.unusedVariables false
namespace Go.E

theorem mn_uniq2 (f : Nat → Int) (a k : Nat) (m : Int) (h1 : ∃ z, a ≤ z ∧ z ≤ a + k ∧ f z ≤ m) (h2 : ∀ z, a ≤ z → z ≤ a + k → m ≤ f z) : m = mn f a k := by
  obtain ⟨z, q1, q2, q3⟩ := h1
  exact mn_uniq f a k m ⟨z, q1, q2, by have := h2 z q1 q2; omega⟩ h2

/-- The penalty of two labels. -/
def vp (p q : Int) (a b : Nat) : Int := if a = b then 0 else if a = b + 1 ∨ b = a + 1 then p else q
theorem vp_comm (p q : Int) (a b : Nat) : vp p q a b = vp p q b a := by
  unfold vp
  by_cases h : a = b
  · subst h; rfl
  · rw [if_neg h, if_neg (fun h2 : b = a => h h2.symm)]
    by_cases h3 : a = b + 1 ∨ b = a + 1
    · rw [if_pos h3, if_pos (show b = a + 1 ∨ a = b + 1 by omega)]
    · rw [if_neg h3, if_neg (show ¬ (b = a + 1 ∨ a = b + 1) by omega)]
def PB (p q : Int) : Prop := 0 ≤ p ∧ p ≤ q ∧ q ≤ 1048576
theorem vp_bound {p q : Int} (h : PB p q) (a b : Nat) : 0 ≤ vp p q a b ∧ vp p q a b ≤ q := by
  obtain ⟨h1, h2, h3⟩ := h
  unfold vp
  split
  · omega
  · split <;> omega

/-- The least of the numbers of another pixel, with the penalty. -/
def tr (p q : Int) (W : Nat) (f : Nat → Int) (d : Nat) : Int := mn (fun e => f e + vp p q d e) 0 (W - 1)
theorem tr_le {p q : Int} {W : Nat} (f : Nat → Int) (d : Nat) {e : Nat} (he : e < W) : tr p q W f d ≤ f e + vp p q d e := mn_le (fun e => f e + vp p q d e) 0 (W - 1) e (by omega) (by omega)
theorem tr_ex {p q : Int} {W : Nat} (hW : 0 < W) (f : Nat → Int) (d : Nat) : ∃ e, e < W ∧ f e + vp p q d e = tr p q W f d := by
  have h := am_in (fun e => f e + vp p q d e) 0 (W - 1)
  exact ⟨_, by omega, am_val (fun e => f e + vp p q d e) 0 (W - 1)⟩
theorem tr_bound {p q : Int} (hp : PB p q) {W : Nat} (hW : 0 < W) {f : Nat → Int} {K : Int} (hf : ∀ d, d < W → 0 ≤ f d ∧ f d ≤ K) (d : Nat) : 0 ≤ tr p q W f d ∧ tr p q W f d ≤ K + 1048576 := by
  obtain ⟨e, h1, h2⟩ := tr_ex (p := p) (q := q) hW f d
  have h3 := vp_bound hp d e
  have h4 := hf e h1
  have h5 := hp.2.2
  omega
theorem tr_congr {p q : Int} {W : Nat} (hW : 0 < W) {f g : Nat → Int} (h : ∀ e, e < W → g e = f e) (d : Nat) : tr p q W g d = tr p q W f d := by
  have := mn_congr (f := fun e => f e + vp p q d e) (g := fun e => g e + vp p q d e) (a := 0) (d := 0) (k := W - 1) (fun z _ hz => by have := h z (by omega); show g z + _ = f z + _ + 0; omega)
  unfold tr
  omega

def Fw (p q : Int) (c : Nat → Nat → Int) (W : Nat) : Nat → Nat → Int
  | 0, d => c 0 d
  | i + 1, d => c (i + 1) d + tr p q W (Fw p q c W i) d
/-- The least energy of n more pixels behind pixel y, with its label. -/
def Rt (p q : Int) (c : Nat → Nat → Int) (W : Nat) : Nat → Nat → Nat → Int
  | 0, y, d => c y d
  | n + 1, y, d => c y d + tr p q W (Rt p q c W n (y + 1)) d

/-- Costs of a line. -/
def CB (W : Nat) (c : Nat → Nat → Int) : Prop := ∀ y x, x < W → 0 ≤ c y x ∧ c y x ≤ 1048576
theorem Fw_bound {p q : Int} (hp : PB p q) {c : Nat → Nat → Int} {W : Nat} (hW : 0 < W) (hc : CB W c) : ∀ y d, d < W → 0 ≤ Fw p q c W y d ∧ Fw p q c W y d ≤ (y + 1) * 2097152
  | 0, d, hd => by have := hc 0 d hd; simp only [Fw]; omega
  | y + 1, d, hd => by
    have h1 := tr_bound (f := Fw p q c W y) hp hW (fun e he => Fw_bound hp hW hc y e he) d
    have h2 := hc (y + 1) d hd
    simp only [Fw]
    push_cast
    omega
theorem Rt_bound {p q : Int} (hp : PB p q) {c : Nat → Nat → Int} {W : Nat} (hW : 0 < W) (hc : CB W c) : ∀ n y d, d < W → 0 ≤ Rt p q c W n y d ∧ Rt p q c W n y d ≤ (n + 1) * 2097152
  | 0, y, d, hd => by have := hc y d hd; simp only [Rt]; omega
  | n + 1, y, d, hd => by
    have h1 := tr_bound (f := Rt p q c W n (y + 1)) hp hW (fun e he => Rt_bound hp hW hc n (y + 1) e he) d
    have h2 := hc y d hd
    simp only [Rt]
    push_cast
    omega

def RT (p q : Int) (c : Nat → Nat → Int) (W H : Nat) : Nat → Nat → Int := fun y d => Rt p q c W (H - 1 - y) y d
theorem RT_step {p q : Int} {c : Nat → Nat → Int} {W H y : Nat} (hy : y + 1 < H) (d : Nat) : RT p q c W H y d = c y d + tr p q W (RT p q c W H (y + 1)) d := by
  unfold RT
  rw [show H - 1 - y = (H - 1 - (y + 1)) + 1 by omega]
  rfl
theorem RT_last {p q : Int} {c : Nat → Nat → Int} {W H y : Nat} (hy : y + 1 = H) (d : Nat) : RT p q c W H y d = c y d := by
  unfold RT
  rw [show H - 1 - y = 0 by omega]
  rfl
theorem RT_bound {p q : Int} (hp : PB p q) {c : Nat → Nat → Int} {W H : Nat} (hW : 0 < W) (hH : H ≤ 64) (hc : CB W c) (y : Nat) {d : Nat} (hd : d < W) : 0 ≤ RT p q c W H y d ∧ RT p q c W H y d ≤ 136314880 := by
  have h := Rt_bound hp hW hc (H - 1 - y) y d hd
  unfold RT
  have : ((H - 1 - y : Nat) : Int) + 1 ≤ 65 := by omega
  have := Int.mul_le_mul_of_nonneg_right this (show (0 : Int) ≤ 2097152 by omega)
  omega

/-- The table of the line turned round. -/
theorem Fw_rev {p q : Int} {c : Nat → Nat → Int} {W H : Nat} (hW : 0 < W) : ∀ i, i < H → ∀ d, Fw p q (fun y => c (H - 1 - y)) W i d = RT p q c W H (H - 1 - i) d
  | 0, h, d => by
    rw [RT_last (by omega)]
    rfl
  | i + 1, h, d => by
    rw [RT_step (by omega)]
    simp only [Fw]
    rw [tr_congr hW (fun e _ => Fw_rev hW i (by omega) e), show H - 1 - (i + 1) + 1 = H - 1 - i by omega]

/-- The first of the labels with the least energy. -/
def lb (p q : Int) (c : Nat → Nat → Int) (W H : Nat) : Nat → Nat
  | 0 => am (RT p q c W H 0) 0 (W - 1)
  | y + 1 => am (fun e => RT p q c W H (y + 1) e + vp p q (lb p q c W H y) e) 0 (W - 1)
theorem lb_lt (p q : Int) (c : Nat → Nat → Int) {W : Nat} (hW : 0 < W) (H : Nat) : ∀ y, lb p q c W H y < W
  | 0 => by have := am_in (RT p q c W H 0) 0 (W - 1); simp only [lb]; omega
  | y + 1 => by have := am_in (fun e => RT p q c W H (y + 1) e + vp p q (lb p q c W H y) e) 0 (W - 1); simp only [lb]; omega
def me (p q : Int) (c : Nat → Nat → Int) (W H : Nat) : Int := RT p q c W H 0 (lb p q c W H 0)
theorem me_le (p q : Int) (c : Nat → Nat → Int) {W H d : Nat} (hd : d < W) : me p q c W H ≤ RT p q c W H 0 d := by
  show RT p q c W H 0 (am (RT p q c W H 0) 0 (W - 1)) ≤ _
  rw [am_val (RT p q c W H 0) 0 (W - 1)]
  exact mn_le _ _ _ _ (by omega) (by omega)

/-- The energy of the labels of the first n pixels. -/
def en (p q : Int) (c : Nat → Nat → Int) (l : Nat → Nat) : Nat → Int
  | 0 => 0
  | n + 1 => en p q c l n + (if n = 0 then 0 else vp p q (l n) (l (n - 1))) + c n (l n)
theorem en_ge {p q : Int} {c : Nat → Nat → Int} {W H : Nat} {l : Nat → Nat} (hl : ∀ y, y < H → l y < W) : ∀ y, y < H → RT p q c W H 0 (l 0) ≤ en p q c l y + (if y = 0 then 0 else vp p q (l y) (l (y - 1))) + RT p q c W H y (l y)
  | 0, h => by simp [en]
  | y + 1, h => by
    have ih := en_ge (c := c) (p := p) (q := q) (H := H) hl y (by omega)
    have h1 := tr_le (p := p) (q := q) (RT p q c W H (y + 1)) (l y) (hl (y + 1) h)
    rw [RT_step h] at ih
    rw [if_neg (by omega), Nat.add_sub_cancel, vp_comm p q (l (y + 1)) (l y)]
    simp only [en]
    omega
theorem en_me {p q : Int} {c : Nat → Nat → Int} {W H : Nat} (hH : 0 < H) {l : Nat → Nat} (hl : ∀ y, y < H → l y < W) : me p q c W H ≤ en p q c l H := by
  have h := en_ge (p := p) (q := q) (c := c) hl (H - 1) (by omega)
  have h1 := me_le p q c (H := H) (hl 0 hH)
  rw [RT_last (y := H - 1) (by omega)] at h
  obtain ⟨k, rfl⟩ : ∃ k, H = k + 1 := ⟨H - 1, by omega⟩
  simp only [Nat.add_sub_cancel] at h h1
  simp only [en]
  omega
theorem en_bound {p q : Int} (hp : PB p q) {c : Nat → Nat → Int} {W : Nat} (hc : CB W c) {l : Nat → Nat} : ∀ n, (∀ y, y < n → l y < W) → 0 ≤ en p q c l n ∧ en p q c l n ≤ n * 2097152
  | 0, _ => by simp [en]
  | n + 1, h => by
    have e1 := en_bound hp hc n (fun y hy => h y (by omega))
    have e2 := hc n (l n) (h n (by omega))
    have e3 := vp_bound hp (l n) (l (n - 1))
    have e4 := hp.2.2
    simp only [en]
    push_cast
    split <;> omega

theorem pot_en {p q : Int} {c P : Nat → Nat → Int} {W H : Nat} (h0 : ∀ d, d < W → P 0 d ≤ c 0 d) (hp : ∀ y d, y + 1 < H → d < W → P (y + 1) d ≤ tr p q W (P y) d + c (y + 1) d) {l : Nat → Nat} (hl : ∀ y, y < H → l y < W) :
    ∀ y, y < H → P y (l y) ≤ en p q c l (y + 1)
  | 0, h => by have := h0 _ (hl 0 h); simp [en]; omega
  | y + 1, h => by
    have ih := pot_en h0 hp hl y (by omega)
    have e := hp y (l (y + 1)) h (hl _ h)
    have h1 := tr_le (p := p) (q := q) (P y) (l (y + 1)) (hl y (by omega))
    rw [en, if_neg (by omega), Nat.add_sub_cancel]
    omega
theorem Fw_ge {p q : Int} (c : Nat → Nat → Int) {W H : Nat} (hW : 0 < W) : ∀ y, y < H → ∀ d, d < W → me p q c W H ≤ Fw p q c W y d + RT p q c W H y d - c y d
  | 0, _, d, hd => by
    have := me_le p q c (H := H) hd
    simp only [Fw]
    omega
  | y + 1, h, d, hd => by
    obtain ⟨e, h1, h2⟩ := tr_ex (p := p) (q := q) hW (Fw p q c W y) d
    have ih := Fw_ge (p := p) (q := q) c (H := H) hW y (by omega) e h1
    rw [RT_step h] at ih
    have := tr_le (p := p) (q := q) (RT p q c W H (y + 1)) e hd
    rw [vp_comm p q e d] at this
    simp only [Fw]
    omega
theorem Fw_last {p q : Int} (c : Nat → Nat → Int) {W H : Nat} (hW : 0 < W) (hH : 0 < H) {d : Nat} (hd : d < W) : me p q c W H ≤ Fw p q c W (H - 1) d := by
  have := Fw_ge (p := p) (q := q) c (H := H) hW (H - 1) (by omega) d hd
  rw [RT_last (y := H - 1) (by omega)] at this
  omega
end Go.E
