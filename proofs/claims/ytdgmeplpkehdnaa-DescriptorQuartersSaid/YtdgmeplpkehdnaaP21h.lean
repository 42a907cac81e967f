/-
  PLAIN, chapter 21: the brightest side.
-/
import Derived.Test.YtdgmeplpkehdnaaP21e
import Derived.Test.YtdgmeplpkehdnaaQContains
import Derived.Test.YtdgmeplpkehdnaaQMax
set_option linter.unusedSimpArgs false
set_option linter.unusedVariables false
namespace Go.Proofs.Ytdgmeplpkehdnaa
open Go.E

abbrev BndP (a b c d : Int) : Prop := -16 ≤ a ∧ a ≤ 17 ∧ -16 ≤ b ∧ b ≤ 17 ∧ 1 ≤ c ∧ c ≤ 33 ∧ 1 ≤ d ∧ d ≤ 33

section
variable {W H : Nat} {m : Int} {g : Nat → Nat → Int}

theorem imgsum_w (bd : Bd W H m g) {a b c d x y : Int} (hx : 0 ≤ x ∧ x < W) (hy : 0 ≤ y ∧ y < H) (hb : BndP a b c d) :
    fiducial_descriptor_image_sum W H m (grid W H g) (tabS g W H) (w64 (x + a)) (w64 (y + b)) c d = some (if fitB W H a b c d x y = true then (bs g a b c d x y, true) else (0, false)) := by
  have hbd := bd
  obtain ⟨b1, b2, b3, b4, b5, b6, b7⟩ := hbd
  obtain ⟨h1, h2, h3, h4, h5, h6, h7, h8⟩ := hb
  have e1 : w64 (x + a) = x + a := w64_id (by omega) (by omega)
  have e2 : w64 (y + b) = y + b := w64_id (by omega) (by omega)
  unfold fiducial_descriptor_image_sum
  rw [e1, e2]
  by_cases hf : FitP W H a b c d x y
  · have hfb : fitB W H a b c d x y = true := decide_eq_true hf
    obtain ⟨f1, f2, f3, f4⟩ := hf
    have := sum_good bd (x + a).toNat (y + b).toNat c.toNat d.toNat (by omega) (by omega)
    rw [show (((x + a).toNat : Nat) : Int) = x + a by omega, show (((y + b).toNat : Nat) : Int) = y + b by omega, show ((c.toNat : Nat) : Int) = c by omega, show ((d.toNat : Nat) : Int) = d by omega] at this
    rw [this, hfb]
    rfl
  · have hfb : fitB W H a b c d x y = false := decide_eq_false hf
    have := sum_unfit b2 b4 g (x := x + a) (y := y + b) (a := c) (b := d) (fun h => hf (by obtain ⟨q1, q2, q3, q4, q5, q6, q7, q8⟩ := h; exact ⟨by omega, by omega, by omega, by omega⟩))
    rw [this, hfb]
    rfl

theorem fits_w (bd : Bd W H m g) (l : List Int) {a b c d x y : Int} (hx : 0 ≤ x ∧ x < W) (hy : 0 ≤ y ∧ y < H) (hb : BndP a b c d) : fiduciallaw21_fits W H m l a b c d x y = some (fitB W H a b c d x y) := by
  obtain ⟨b1, b2, b3, b4, b5, b6, b7⟩ := bd
  obtain ⟨h1, h2, h3, h4, h5, h6, h7, h8⟩ := hb
  have e1 : w64 (x + a) = x + a := w64_id (by omega) (by omega)
  have e2 : w64 (y + b) = y + b := w64_id (by omega) (by omega)
  have e3 : w64 (x + a + c) = x + a + c := w64_id (by omega) (by omega)
  have e4 : w64 (y + b + d) = y + b + d := w64_id (by omega) (by omega)
  have e5 : w64 (x + a + c - 1) = x + a + c - 1 := w64_id (by omega) (by omega)
  have e6 : w64 (y + b + d - 1) = y + b + d - 1 := w64_id (by omega) (by omega)
  unfold fiduciallaw21_fits
  rw [e1, e2, e3, e4, e5, e6, inside_eq, inside_eq]
  by_cases hf : FitP W H a b c d x y
  · have hfb : fitB W H a b c d x y = true := decide_eq_true hf
    obtain ⟨f1, f2, f3, f4⟩ := hf
    rw [hfb, decide_eq_true (show 0 ≤ x + a ∧ x + a < (W : Int) ∧ 0 ≤ y + b ∧ y + b < (H : Int) by omega), decide_eq_true (show 0 ≤ x + a + c - 1 ∧ x + a + c - 1 < (W : Int) ∧ 0 ≤ y + b + d - 1 ∧ y + b + d - 1 < (H : Int) by omega)]
    rfl
  · have hfb : fitB W H a b c d x y = false := decide_eq_false hf
    rw [hfb]
    by_cases q1 : 0 ≤ x + a ∧ x + a < (W : Int) ∧ 0 ≤ y + b ∧ y + b < (H : Int)
    · have q2 : ¬ (0 ≤ x + a + c - 1 ∧ x + a + c - 1 < (W : Int) ∧ 0 ≤ y + b + d - 1 ∧ y + b + d - 1 < (H : Int)) := fun h => hf ⟨by omega, by omega, by omega, by omega⟩
      rw [decide_eq_true q1, decide_eq_false q2]
      rfl
    · rw [decide_eq_false q1]
      rfl

theorem lawsum_w (bd : Bd W H m g) {a b c d x y : Int} (hx : 0 ≤ x ∧ x < W) (hy : 0 ≤ y ∧ y < H) (hb : BndP a b c d) (hf : fitB W H a b c d x y = true) : fiducialref13_Sum W H m (grid W H g) (w64 (x + a)) (w64 (y + b)) c d = some (bs g a b c d x y) := by
  have hbd := bd
  obtain ⟨b1, b2, b3, b4, b5, b6, b7⟩ := hbd
  obtain ⟨h1, h2, h3, h4, h5, h6, h7, h8⟩ := hb
  have e1 : w64 (x + a) = x + a := w64_id (by omega) (by omega)
  have e2 : w64 (y + b) = y + b := w64_id (by omega) (by omega)
  obtain ⟨f1, f2, f3, f4⟩ : FitP W H a b c d x y := of_decide_eq_true hf
  rw [e1, e2]
  have := refsum_good bd (x + a).toNat (y + b).toNat c.toNat d.toNat (by omega) (by omega)
  rw [show (((x + a).toNat : Nat) : Int) = x + a by omega, show (((y + b).toNat : Nat) : Int) = y + b by omega, show ((c.toNat : Nat) : Int) = c by omega, show ((d.toNat : Nat) : Int) = d by omega] at this
  exact this
end

/-- The sides. -/
def sdA (k : Nat) (n : Int) : Int := if k = 0 then 1 else -n
def sdB (k : Nat) (n : Int) : Int := if k = 3 then 1 else -n
def sdC (k : Nat) (n : Int) : Int := if k = 0 ∨ k = 2 then n else 2 * n + 1
def sdD (k : Nat) (n : Int) : Int := if k = 0 ∨ k = 2 then 2 * n + 1 else n

theorem sd_bnd {n : Int} (hn : 1 ≤ n ∧ n ≤ 16) {k : Nat} (hk : k < 4) : BndP (sdA k n) (sdB k n) (sdC k n) (sdD k n) := by
  have : k = 0 ∨ k = 1 ∨ k = 2 ∨ k = 3 := by omega
  rcases this with rfl | rfl | rfl | rfl <;> simp [sdA, sdB, sdC, sdD, BndP] <;> omega

theorem side_eq {n : Int} (hn : 1 ≤ n ∧ n ≤ 16) {k : Nat} (hk : k < 4) : fiduciallaw21_side (k : Int) n = some (sdA k n, sdB k n, sdC k n, sdD k n) := by
  have e1 : w64 (0 - n) = -n := by rw [w64_id (by omega) (by omega)]; omega
  have e2 : w64 (w64 (2 * n) + 1) = 2 * n + 1 := by rw [w64_id (z := 2 * n) (by omega) (by omega), w64_id (by omega) (by omega)]
  unfold fiduciallaw21_side
  rw [e1, e2]
  have : k = 0 ∨ k = 1 ∨ k = 2 ∨ k = 3 := by omega
  rcases this with rfl | rfl | rfl | rfl <;> rfl

def sS (g : Nat → Nat → Int) (n x y : Int) (k : Nat) : Int := bs g (sdA k n) (sdB k n) (sdC k n) (sdD k n) x y
def sF (W H : Nat) (n x y : Int) (k : Nat) : Bool := fitB W H (sdA k n) (sdB k n) (sdC k n) (sdD k n) x y

/-- Which of four numbers is the greatest, if one is. -/
def qq (a b c d : Int) : Int × Int :=
  if b < a ∧ c < a ∧ d < a then (0, 0) else if a < b ∧ c < b ∧ d < b then (1, 0) else if a < c ∧ b < c ∧ d < c then (2, 0) else if a < d ∧ b < d ∧ c < d then (3, 0) else (0, 13)
def qres (W H : Nat) (g : Nat → Nat → Int) (n x y : Int) : Int × Int :=
  if sF W H n x y 0 = true ∧ sF W H n x y 1 = true ∧ sF W H n x y 2 = true ∧ sF W H n x y 3 = true then qq (sS g n x y 0) (sS g n x y 1) (sS g n x y 2) (sS g n x y 3) else (0, 15)

theorem sS_nonneg {W H : Nat} {m : Int} {g : Nat → Nat → Int} (bd : Bd W H m g) {n x y : Int} {k : Nat} (h : sF W H n x y k = true) : 0 ≤ sS g n x y k := by
  obtain ⟨f1, f2, f3, f4⟩ : FitP W H (sdA k n) (sdB k n) (sdC k n) (sdD k n) x y := of_decide_eq_true h
  have b7 := bd.2.2.2.2.2.2
  unfold sS bs Rc
  rcases Int.lt_or_le (sdC k n) 0 with hc | hc
  · rw [show (sdC k n).toNat = 0 by omega]
    have : ∀ q : Nat, tot (fun j => tot (fun i => g ((x + sdA k n).toNat + i) ((y + sdB k n).toNat + j)) 0) q = 0 := fun q => by
      have := tot_zero q
      exact this
    rw [this]; exact Int.le_refl _
  rcases Int.lt_or_le (sdD k n) 0 with hd | hd
  · rw [show (sdD k n).toNat = 0 by omega]
    exact Int.le_refl _
  have pos : ∀ (f : Nat → Int) (q : Nat), (∀ i, i < q → 0 ≤ f i) → 0 ≤ tot f q := by
    intro f q
    induction q with
    | zero => intro _; exact Int.le_refl _
    | succ q ih =>
      intro hf
      simp only [tot]
      have := ih (fun i hi => hf i (by omega))
      have := hf q (by omega)
      omega
  exact pos _ _ fun j hj => pos _ _ fun i hi => (b7 _ _ (by omega) (by omega)).1

/-- The law's walk over the sides. -/
def fold4 (s : Int × Int × Int) (k : Int) (v : Int) : Int × Int × Int := if s.1 < v then (v, 1, k) else if v = s.1 then (s.1, s.2.1 + 1, s.2.2) else s

theorem fold4_lt {m t k j v : Int} (h : m < v) : fold4 (m, t, k) j v = (v, 1, j) := if_pos h
theorem fold4_eq {m t k j v : Int} (h : v = m) : fold4 (m, t, k) j v = (m, t + 1, k) := by
  unfold fold4
  dsimp only
  rw [if_neg (by omega), if_pos h]
theorem fold4_gt {m t k j v : Int} (h : v < m) : fold4 (m, t, k) j v = (m, t, k) := by
  unfold fold4
  dsimp only
  rw [if_neg (by omega), if_neg (by omega)]

theorem fold_qq {a b c d : Int} (ha : 0 ≤ a) : (if 1 < (fold4 (fold4 (fold4 (a, 1, 0) 1 b) 2 c) 3 d).2.1 then ((0 : Int), (13 : Int)) else ((fold4 (fold4 (fold4 (a, 1, 0) 1 b) 2 c) 3 d).2.2, 0)) = qq a b c d := by
  rcases Int.lt_trichotomy a b with h1 | h1 | h1
  · rcases Int.lt_trichotomy b c with h2 | h2 | h2
    · rcases Int.lt_trichotomy c d with h3 | h3 | h3
      · rw [fold4_lt h1, fold4_lt h2, fold4_lt h3]
        unfold qq
        dsimp only
        rw [if_neg (by decide), if_neg (by omega), if_neg (by omega), if_neg (by omega), if_pos (by omega)]
      · rw [fold4_lt h1, fold4_lt h2, fold4_eq (show d = c by omega)]
        unfold qq
        dsimp only
        rw [if_pos (by decide), if_neg (by omega), if_neg (by omega), if_neg (by omega), if_neg (by omega)]
      · rw [fold4_lt h1, fold4_lt h2, fold4_gt h3]
        unfold qq
        dsimp only
        rw [if_neg (by decide), if_neg (by omega), if_neg (by omega), if_pos (by omega)]
    · rcases Int.lt_trichotomy b d with h3 | h3 | h3
      · rw [fold4_lt h1, fold4_eq (show c = b by omega), fold4_lt h3]
        unfold qq
        dsimp only
        rw [if_neg (by decide), if_neg (by omega), if_neg (by omega), if_neg (by omega), if_pos (by omega)]
      · rw [fold4_lt h1, fold4_eq (show c = b by omega), fold4_eq (show d = b by omega)]
        unfold qq
        dsimp only
        rw [if_pos (by decide), if_neg (by omega), if_neg (by omega), if_neg (by omega), if_neg (by omega)]
      · rw [fold4_lt h1, fold4_eq (show c = b by omega), fold4_gt h3]
        unfold qq
        dsimp only
        rw [if_pos (by decide), if_neg (by omega), if_neg (by omega), if_neg (by omega), if_neg (by omega)]
    · rcases Int.lt_trichotomy b d with h3 | h3 | h3
      · rw [fold4_lt h1, fold4_gt h2, fold4_lt h3]
        unfold qq
        dsimp only
        rw [if_neg (by decide), if_neg (by omega), if_neg (by omega), if_neg (by omega), if_pos (by omega)]
      · rw [fold4_lt h1, fold4_gt h2, fold4_eq (show d = b by omega)]
        unfold qq
        dsimp only
        rw [if_pos (by decide), if_neg (by omega), if_neg (by omega), if_neg (by omega), if_neg (by omega)]
      · rw [fold4_lt h1, fold4_gt h2, fold4_gt h3]
        unfold qq
        dsimp only
        rw [if_neg (by decide), if_neg (by omega), if_pos (by omega)]
  · rcases Int.lt_trichotomy a c with h2 | h2 | h2
    · rcases Int.lt_trichotomy c d with h3 | h3 | h3
      · rw [fold4_eq (show b = a by omega), fold4_lt h2, fold4_lt h3]
        unfold qq
        dsimp only
        rw [if_neg (by decide), if_neg (by omega), if_neg (by omega), if_neg (by omega), if_pos (by omega)]
      · rw [fold4_eq (show b = a by omega), fold4_lt h2, fold4_eq (show d = c by omega)]
        unfold qq
        dsimp only
        rw [if_pos (by decide), if_neg (by omega), if_neg (by omega), if_neg (by omega), if_neg (by omega)]
      · rw [fold4_eq (show b = a by omega), fold4_lt h2, fold4_gt h3]
        unfold qq
        dsimp only
        rw [if_neg (by decide), if_neg (by omega), if_neg (by omega), if_pos (by omega)]
    · rcases Int.lt_trichotomy a d with h3 | h3 | h3
      · rw [fold4_eq (show b = a by omega), fold4_eq (show c = a by omega), fold4_lt h3]
        unfold qq
        dsimp only
        rw [if_neg (by decide), if_neg (by omega), if_neg (by omega), if_neg (by omega), if_pos (by omega)]
      · rw [fold4_eq (show b = a by omega), fold4_eq (show c = a by omega), fold4_eq (show d = a by omega)]
        unfold qq
        dsimp only
        rw [if_pos (by decide), if_neg (by omega), if_neg (by omega), if_neg (by omega), if_neg (by omega)]
      · rw [fold4_eq (show b = a by omega), fold4_eq (show c = a by omega), fold4_gt h3]
        unfold qq
        dsimp only
        rw [if_pos (by decide), if_neg (by omega), if_neg (by omega), if_neg (by omega), if_neg (by omega)]
    · rcases Int.lt_trichotomy a d with h3 | h3 | h3
      · rw [fold4_eq (show b = a by omega), fold4_gt h2, fold4_lt h3]
        unfold qq
        dsimp only
        rw [if_neg (by decide), if_neg (by omega), if_neg (by omega), if_neg (by omega), if_pos (by omega)]
      · rw [fold4_eq (show b = a by omega), fold4_gt h2, fold4_eq (show d = a by omega)]
        unfold qq
        dsimp only
        rw [if_pos (by decide), if_neg (by omega), if_neg (by omega), if_neg (by omega), if_neg (by omega)]
      · rw [fold4_eq (show b = a by omega), fold4_gt h2, fold4_gt h3]
        unfold qq
        dsimp only
        rw [if_pos (by decide), if_neg (by omega), if_neg (by omega), if_neg (by omega), if_neg (by omega)]
  · rcases Int.lt_trichotomy a c with h2 | h2 | h2
    · rcases Int.lt_trichotomy c d with h3 | h3 | h3
      · rw [fold4_gt h1, fold4_lt h2, fold4_lt h3]
        unfold qq
        dsimp only
        rw [if_neg (by decide), if_neg (by omega), if_neg (by omega), if_neg (by omega), if_pos (by omega)]
      · rw [fold4_gt h1, fold4_lt h2, fold4_eq (show d = c by omega)]
        unfold qq
        dsimp only
        rw [if_pos (by decide), if_neg (by omega), if_neg (by omega), if_neg (by omega), if_neg (by omega)]
      · rw [fold4_gt h1, fold4_lt h2, fold4_gt h3]
        unfold qq
        dsimp only
        rw [if_neg (by decide), if_neg (by omega), if_neg (by omega), if_pos (by omega)]
    · rcases Int.lt_trichotomy a d with h3 | h3 | h3
      · rw [fold4_gt h1, fold4_eq (show c = a by omega), fold4_lt h3]
        unfold qq
        dsimp only
        rw [if_neg (by decide), if_neg (by omega), if_neg (by omega), if_neg (by omega), if_pos (by omega)]
      · rw [fold4_gt h1, fold4_eq (show c = a by omega), fold4_eq (show d = a by omega)]
        unfold qq
        dsimp only
        rw [if_pos (by decide), if_neg (by omega), if_neg (by omega), if_neg (by omega), if_neg (by omega)]
      · rw [fold4_gt h1, fold4_eq (show c = a by omega), fold4_gt h3]
        unfold qq
        dsimp only
        rw [if_pos (by decide), if_neg (by omega), if_neg (by omega), if_neg (by omega), if_neg (by omega)]
    · rcases Int.lt_trichotomy a d with h3 | h3 | h3
      · rw [fold4_gt h1, fold4_gt h2, fold4_lt h3]
        unfold qq
        dsimp only
        rw [if_neg (by decide), if_neg (by omega), if_neg (by omega), if_neg (by omega), if_pos (by omega)]
      · rw [fold4_gt h1, fold4_gt h2, fold4_eq (show d = a by omega)]
        unfold qq
        dsimp only
        rw [if_pos (by decide), if_neg (by omega), if_neg (by omega), if_neg (by omega), if_neg (by omega)]
      · rw [fold4_gt h1, fold4_gt h2, fold4_gt h3]
        unfold qq
        dsimp only
        rw [if_neg (by decide), if_pos (by omega)]

def fs (S : Nat → Int) : Nat → Int × Int × Int
  | 0 => (-1, 0, 0)
  | k + 1 => fold4 (fs S k) k (S k)
theorem fs_times (S : Nat → Int) : ∀ k : Nat, 0 ≤ (fs S k).2.1 ∧ (fs S k).2.1 ≤ k
  | 0 => by simp [fs]
  | k + 1 => by
    have ih := fs_times S k
    simp only [fs, fold4]
    split
    · dsimp only; omega
    · split
      · dsimp only; omega
      · omega

theorem lawquarter_in {W H : Nat} {m : Int} {g : Nat → Nat → Int} (bd : Bd W H m g) {x y n : Int} (hx : 0 ≤ x ∧ x < W) (hy : 0 ≤ y ∧ y < H) (hn : 1 ≤ n ∧ n ≤ 16) : fiduciallaw21_quarter W H m (grid W H g) x y n = some (qres W H g n x y) := by
  have q1 : ¬ n < 1 := by omega
  have q2 : ¬ 16 < n := by omega
  unfold fiduciallaw21_quarter
  rw [inside_eq, decide_eq_true (show 0 ≤ x ∧ x < (W : Int) ∧ 0 ≤ y ∧ y < (H : Int) from ⟨hx.1, hx.2, hy.1, hy.2⟩)]
  simp only [Option.bind_some, Bool.not_true, Bool.false_eq_true, if_false, q1, q2, decide_false]
  rcases loop_first (step := fun s : Int × Int × Int × Int => fiduciallaw21_quarter_s1 W H m (grid W H g) x y n s.1 s.2.1 s.2.2.1 s.2.2.2) (fun i => ((fs (sS g n x y) i).1, (fs (sS g n x y) i).2.1, (i : Int), (fs (sS g n x y) i).2.2)) (fun i => sF W H n x y i = false) (fun _ => .inl (0, 15)) (.inr ((fs (sS g n x y) 4).2.1, (fs (sS g n x y) 4).2.2)) 4 (s0 := (-1, 0, 0, 0)) (by unfold FUEL; omega) rfl
    (fun i hi hp => by
      have hf : sF W H n x y i = true := by
        cases h : sF W H n x y i with
        | true => rfl
        | false => exact absurd h hp
      have hb := sd_bnd hn hi
      have ht := fs_times (sS g n x y) i
      show fiduciallaw21_quarter_s1 W H m (grid W H g) x y n _ _ (i : Int) _ = _
      unfold fiduciallaw21_quarter_s1
      rw [if_pos (by rw [decide_eq_true_iff]; omega), side_eq hn hi, Option.bind_some]
      dsimp only
      rw [fits_w bd _ hx hy hb, Option.bind_some, show fitB W H (sdA i n) (sdB i n) (sdC i n) (sdD i n) x y = true from hf]
      simp only [Bool.not_true, Bool.false_eq_true, if_false]
      rw [lawsum_w bd hx hy hb hf, Option.bind_some]
      show Option.bind (if decide ((fs (sS g n x y) i).1 < sS g n x y i) = true then (_ : Option (Int × Int × Int)) else _) _ = _
      simp only [fs]
      unfold fold4
      by_cases h1 : (fs (sS g n x y) i).1 < sS g n x y i
      · rw [if_pos (by simpa using h1), if_pos h1, Option.bind_some]
        dsimp only
        rw [if_pos (show (bs g (sdA i n) (sdB i n) (sdC i n) (sdD i n) x y == bs g (sdA i n) (sdB i n) (sdC i n) (sdD i n) x y) = true by simp), Option.bind_some, w64_id (z := (i : Int) + 1) (by omega) (by omega)]
        rfl
      · rw [if_neg (by simpa using h1), if_neg h1, Option.bind_some]
        dsimp only
        by_cases h2 : sS g n x y i = (fs (sS g n x y) i).1
        · rw [if_pos h2, if_pos (show (bs g (sdA i n) (sdB i n) (sdC i n) (sdD i n) x y == (fs (sS g n x y) i).1) = true from beq_iff_eq.2 h2), Option.bind_some, w64_id (z := (i : Int) + 1) (by omega) (by omega), w64_id (by omega) (by omega)]
          rfl
        · rw [if_neg h2, if_neg (show ¬ (bs g (sdA i n) (sdB i n) (sdC i n) (sdD i n) x y == (fs (sS g n x y) i).1) = true from fun hh => h2 (beq_iff_eq.1 hh)), Option.bind_some, w64_id (z := (i : Int) + 1) (by omega) (by omega)]
          rfl)
    (fun i hi hf _ => by
      have hb := sd_bnd hn hi
      show fiduciallaw21_quarter_s1 W H m (grid W H g) x y n _ _ (i : Int) _ = _
      unfold fiduciallaw21_quarter_s1
      rw [if_pos (by rw [decide_eq_true_iff]; omega), side_eq hn hi, Option.bind_some]
      dsimp only
      rw [fits_w bd _ hx hy hb, Option.bind_some, show fitB W H (sdA i n) (sdB i n) (sdC i n) (sdD i n) x y = false from hf]
      rfl)
    (by
      show fiduciallaw21_quarter_s1 W H m (grid W H g) x y n _ _ ((4 : Nat) : Int) _ = _
      unfold fiduciallaw21_quarter_s1
      rw [if_neg (by decide)]) with ⟨ha, hl⟩ | ⟨i, hi, hf, _, hl⟩
  · have hall : ∀ i, i < 4 → sF W H n x y i = true := fun i hi => by
      cases h : sF W H n x y i with
      | true => rfl
      | false => exact absurd h (ha i hi)
    rw [hl]
    unfold qres
    rw [if_pos ⟨hall 0 (by decide), hall 1 (by decide), hall 2 (by decide), hall 3 (by decide)⟩, ← fold_qq (sS_nonneg bd (hall 0 (by decide)))]
    have e0 : fs (sS g n x y) 4 = fold4 (fold4 (fold4 (sS g n x y 0, 1, 0) 1 (sS g n x y 1)) 2 (sS g n x y 2)) 3 (sS g n x y 3) := by
      show fold4 (fold4 (fold4 (fold4 (-1, 0, 0) ((0 : Nat) : Int) (sS g n x y 0)) ((1 : Nat) : Int) (sS g n x y 1)) ((2 : Nat) : Int) (sS g n x y 2)) ((3 : Nat) : Int) (sS g n x y 3) = _
      rw [fold4_lt (show (-1 : Int) < sS g n x y 0 by have := sS_nonneg bd (hall 0 (by decide)); omega)]
      rfl
    rw [← e0]
    show (if decide (1 < (fs (sS g n x y) 4).2.1) = true then _ else _) = _
    by_cases h : 1 < (fs (sS g n x y) 4).2.1
    · rw [if_pos (by simpa using h), if_pos h]
    · rw [if_neg (by simpa using h), if_neg h]
  · rw [hl]
    unfold qres
    rw [if_neg (fun h => by
      have : i = 0 ∨ i = 1 ∨ i = 2 ∨ i = 3 := by omega
      rcases this with rfl | rfl | rfl | rfl
      · rw [h.1] at hf; cases hf
      · rw [h.2.1] at hf; cases hf
      · rw [h.2.2.1] at hf; cases hf
      · rw [h.2.2.2] at hf; cases hf)]
    rfl

theorem lawquarter_out {w h m : Int} {px : List Int} {x y n : Int} (hb : ¬ ((0 ≤ x ∧ x < w ∧ 0 ≤ y ∧ y < h) ∧ 1 ≤ n ∧ n ≤ 16)) : fiduciallaw21_quarter w h m px x y n = some (0, 2) := by
  unfold fiduciallaw21_quarter
  rw [inside_eq, Option.bind_some]
  by_cases h1 : 0 ≤ x ∧ x < w ∧ 0 ≤ y ∧ y < h
  · rw [decide_eq_true h1]
    by_cases h2 : n < 1
    · simp [h2]
    · have h3 : 16 < n := by
        rcases Int.lt_or_le 16 n with h3 | h3
        · exact h3
        · exact absurd ⟨h1, by omega, h3⟩ hb
      simp [h2, h3]
  · rw [decide_eq_false h1]
    rfl

/-- The program's walk over the sums. -/
theorem imgsums (a b c d : Int) : ((slices_Max_sint [a, b, c, d]).bind fun y_5 => (slices_Index_sint [a, b, c, d] y_5).bind fun y_6 => chk (0 ≤ (w64 (y_6 + 1) : Int) ∧ (w64 (y_6 + 1) : Int) ≤ (([a, b, c, d] : List Int).length : Int) ∧ (([a, b, c, d] : List Int).length : Int) ≤ (([a, b, c, d] : List Int).length : Int)) ((ix [a, b, c, d] y_6).bind fun v_7 => (slices_Contains_sint ((([a, b, c, d] : List Int).take ([a, b, c, d] : List Int).length).drop (w64 (y_6 + 1) : Int).toNat) v_7).bind fun y_8 => (if y_8 = true then some ((0 : Int), (13 : Int)) else some (y_6, 0)))) = some (qq a b c d) := by
  obtain ⟨M, h1, h2, h3⟩ := max_spec (xs := [a, b, c, d]) (by simp) (by simp)
  have ha := h3 a (by simp)
  have hb := h3 b (by simp)
  have hc := h3 c (by simp)
  have hd := h3 d (by simp)
  rw [h1, Option.bind_some]
  obtain ⟨i, i1, i2, i3, i4⟩ := (index_spec [a, b, c, d] M (by simp)).resolve_right (fun h => h.1 h2)
  rw [i4, Option.bind_some]
  simp only [List.length_cons, List.length_nil] at i1
  have e1 : w64 ((i : Int) + 1) = ((i + 1 : Nat) : Int) := by rw [w64_id (by omega) (by omega)]; simp
  rw [e1, chk_pos (by simp; omega), ix_get (i := i) rfl i2, Option.bind_some, contains_eq _ _ (by simp; omega), Option.bind_some, Int.toNat_natCast]
  have : i = 0 ∨ i = 1 ∨ i = 2 ∨ i = 3 := by omega
  rcases this with rfl | rfl | rfl | rfl
  · simp at i2
    subst i2
    by_cases hm : a ∈ [b, c, d]
    · rw [if_pos (by simpa using hm)]
      simp at hm
      unfold qq
      rw [if_neg (by omega), if_neg (by omega), if_neg (by omega), if_neg (by omega)]
    · rw [if_neg (by simpa using hm)]
      simp at hm
      unfold qq
      rw [if_pos (by omega)]
      rfl
  · have j0 := i3 0 (by omega)
    simp at i2 j0
    subst i2
    by_cases hm : b ∈ [c, d]
    · rw [if_pos (by simpa using hm)]
      simp at hm
      unfold qq
      rw [if_neg (by omega), if_neg (by omega), if_neg (by omega), if_neg (by omega)]
    · rw [if_neg (by simpa using hm)]
      simp at hm
      unfold qq
      rw [if_neg (by omega), if_pos (by omega)]
      rfl
  · have j0 := i3 0 (by omega)
    have j1 := i3 1 (by omega)
    simp at i2 j0 j1
    subst i2
    by_cases hm : c ∈ [d]
    · rw [if_pos (by simpa using hm)]
      simp at hm
      unfold qq
      rw [if_neg (by omega), if_neg (by omega), if_neg (by omega), if_neg (by omega)]
    · rw [if_neg (by simpa using hm)]
      simp at hm
      unfold qq
      rw [if_neg (by omega), if_neg (by omega), if_pos (by omega)]
      rfl
  · have j0 := i3 0 (by omega)
    have j1 := i3 1 (by omega)
    have j2 := i3 2 (by omega)
    simp at i2 j0 j1 j2
    subst i2
    rw [if_neg (by simp)]
    unfold qq
    rw [if_neg (by omega), if_neg (by omega), if_neg (by omega), if_pos (by omega)]
    rfl

theorem imgquarter_in {W H : Nat} {m : Int} {g : Nat → Nat → Int} (bd : Bd W H m g) {x y n : Int} (hx : 0 ≤ x ∧ x < W) (hy : 0 ≤ y ∧ y < H) (hn : 1 ≤ n ∧ n ≤ 16) : fiducial_descriptor_image_quarter W H m (grid W H g) (tabS g W H) x y n = some (qres W H g n x y) := by
  have q1 : ¬ n < 1 := by omega
  have q2 : ¬ 16 < n := by omega
  have e2 : w64 (w64 (2 * n) + 1) = 2 * n + 1 := by rw [w64_id (z := 2 * n) (by omega) (by omega), w64_id (by omega) (by omega)]
  have each : ∀ i : Nat, i < 4 → ix ([(w64 (x + 1), w64 (y - n), n, w64 ((w64 (2 * n)) + 1)), (w64 (x - n), w64 (y - n), w64 ((w64 (2 * n)) + 1), n), (w64 (x - n), w64 (y - n), n, w64 ((w64 (2 * n)) + 1)), (w64 (x - n), w64 (y + 1), w64 ((w64 (2 * n)) + 1), n)] : List (Int × Int × Int × Int)) (i : Int) = some (w64 (x + sdA i n), w64 (y + sdB i n), sdC i n, sdD i n) := fun i hi => by
    rw [e2]
    have : i = 0 ∨ i = 1 ∨ i = 2 ∨ i = 3 := by omega
    rcases this with rfl | rfl | rfl | rfl <;> rfl
  unfold fiducial_descriptor_image_quarter
  rw [pixel_eq, decide_eq_true (show 0 ≤ x ∧ x < (W : Int) ∧ 0 ≤ y ∧ y < (H : Int) from ⟨hx.1, hx.2, hy.1, hy.2⟩)]
  simp only [Option.bind_some, Bool.not_true, Bool.false_eq_true, if_false, q1, q2, decide_false]
  rcases loop_first (step := fun s : List Int × Int => fiducial_descriptor_image_quarter_s1 W H m (grid W H g) (tabS g W H) x y n s.1 s.2) (fun i => ((List.range i).map (sS g n x y), (i : Int))) (fun i => sF W H n x y i = false) (fun _ => .inl (0, 15)) (.inr ((List.range 4).map (sS g n x y))) 4 (s0 := ([], 0)) (by unfold FUEL; omega) rfl
    (fun i hi hp => by
      have hf : sF W H n x y i = true := by
        cases h : sF W H n x y i with
        | true => rfl
        | false => exact absurd h hp
      have hb := sd_bnd hn hi
      show fiducial_descriptor_image_quarter_s1 W H m (grid W H g) (tabS g W H) x y n _ (i : Int) = _
      unfold fiducial_descriptor_image_quarter_s1
      rw [if_pos (by rw [decide_eq_true_iff]; omega), each i hi, Option.bind_some]
      dsimp only
      rw [imgsum_w bd hx hy hb, show fitB W H (sdA i n) (sdB i n) (sdC i n) (sdD i n) x y = true from hf]
      simp only [if_true, Option.bind_some, Bool.not_true, Bool.false_eq_true, if_false]
      rw [chk_pos (by simp; omega), w64_id (by omega) (by omega), List.range_succ, List.map_append]
      rfl)
    (fun i hi hf _ => by
      have hb := sd_bnd hn hi
      show fiducial_descriptor_image_quarter_s1 W H m (grid W H g) (tabS g W H) x y n _ (i : Int) = _
      unfold fiducial_descriptor_image_quarter_s1
      rw [if_pos (by rw [decide_eq_true_iff]; omega), each i hi, Option.bind_some]
      dsimp only
      rw [imgsum_w bd hx hy hb, show fitB W H (sdA i n) (sdB i n) (sdC i n) (sdD i n) x y = false from hf]
      rfl)
    (by
      show fiducial_descriptor_image_quarter_s1 W H m (grid W H g) (tabS g W H) x y n _ ((4 : Nat) : Int) = _
      unfold fiducial_descriptor_image_quarter_s1
      rw [if_neg (by decide)]) with ⟨ha, hl⟩ | ⟨i, hi, hf, _, hl⟩
  · have hall : ∀ i, i < 4 → sF W H n x y i = true := fun i hi => by
      cases h : sF W H n x y i with
      | true => rfl
      | false => exact absurd h (ha i hi)
    rw [hl]
    unfold qres
    rw [if_pos ⟨hall 0 (by decide), hall 1 (by decide), hall 2 (by decide), hall 3 (by decide)⟩]
    exact imgsums _ _ _ _
  · rw [hl]
    unfold qres
    rw [if_neg (fun h => by
      have : i = 0 ∨ i = 1 ∨ i = 2 ∨ i = 3 := by omega
      rcases this with rfl | rfl | rfl | rfl
      · rw [h.1] at hf; cases hf
      · rw [h.2.1] at hf; cases hf
      · rw [h.2.2.1] at hf; cases hf
      · rw [h.2.2.2] at hf; cases hf)]
    rfl

theorem imgquarter_out {w h m : Int} {px : List Int} {tb : List (List Int)} {x y n : Int} (hb : ¬ ((0 ≤ x ∧ x < w ∧ 0 ≤ y ∧ y < h) ∧ 1 ≤ n ∧ n ≤ 16)) : fiducial_descriptor_image_quarter w h m px tb x y n = some (0, 2) := by
  unfold fiducial_descriptor_image_quarter
  rw [pixel_eq, Option.bind_some]
  by_cases h1 : 0 ≤ x ∧ x < w ∧ 0 ≤ y ∧ y < h
  · rw [decide_eq_true h1]
    by_cases h2 : n < 1
    · simp [h2]
    · have h3 : 16 < n := by
        rcases Int.lt_or_le 16 n with h3 | h3
        · exact h3
        · exact absurd ⟨h1, by omega, h3⟩ hb
      simp [h2, h3]
  · rw [decide_eq_false h1]
    rfl

theorem quarter_good {W H : Nat} {m : Int} {g : Nat → Nat → Int} (bd : Bd W H m g) (x y n : Int) : descriptor_Quarter W H m (grid W H g) x y n = fiduciallaw21_quarter W H m (grid W H g) x y n := by
  unfold descriptor_Quarter descriptor_open
  rw [integral_good bd]
  simp only [Option.bind_some, bne_self_eq_false, Bool.false_eq_true, if_false]
  by_cases hb : (0 ≤ x ∧ x < (W : Int) ∧ 0 ≤ y ∧ y < (H : Int)) ∧ 1 ≤ n ∧ n ≤ 16
  · obtain ⟨⟨h1, h2, h3, h4⟩, h5⟩ := hb
    rw [imgquarter_in bd ⟨h1, h2⟩ ⟨h3, h4⟩ h5, lawquarter_in bd ⟨h1, h2⟩ ⟨h3, h4⟩ h5]
    rfl
  · rw [imgquarter_out hb, lawquarter_out hb]
    rfl

theorem quarter_bad {w h m : Int} {px : List Int} (hg : ¬ Good w h m px) (x y n : Int) : descriptor_Quarter w h m px x y n = some (0, 1) := by
  unfold descriptor_Quarter descriptor_open
  rw [integral_bad hg]
  rfl

/-! ### The turned raster -/

theorem bs_turn' {W H : Nat} {g : Nat → Nat → Int} {a b c d x y : Int} (hc : 0 ≤ c) (hd : 0 ≤ d) (hf : fitB W H a b c d x y = true) :
    bs (fun x y => g (W - 1 - y) x) b (1 - a - c) d c y ((W : Int) - 1 - x) = bs g a b c d x y := by
  obtain ⟨f1, f2, f3, f4⟩ : FitP W H a b c d x y := of_decide_eq_true hf
  unfold bs
  have := Rc_turn g W (x + a).toNat (y + b).toNat c.toNat d.toNat (by omega)
  rw [← this]
  congr 1
  omega

theorem side_turn {n : Int} (hn : 1 ≤ n ∧ n ≤ 16) (k : Nat) (hk : k < 4) : sdA ((k + 1) % 4) n = sdB k n ∧ sdB ((k + 1) % 4) n = 1 - sdA k n - sdC k n ∧ sdC ((k + 1) % 4) n = sdD k n ∧ sdD ((k + 1) % 4) n = sdC k n := by
  have : k = 0 ∨ k = 1 ∨ k = 2 ∨ k = 3 := by omega
  rcases this with rfl | rfl | rfl | rfl <;> simp [sdA, sdB, sdC, sdD] <;> omega

theorem sF_turn {W H : Nat} {n x y : Int} (hn : 1 ≤ n ∧ n ≤ 16) (k : Nat) (hk : k < 4) : sF H W n y ((W : Int) - 1 - x) ((k + 1) % 4) = sF W H n x y k := by
  obtain ⟨e1, e2, e3, e4⟩ := side_turn hn k hk
  unfold sF
  rw [e1, e2, e3, e4, fit_turn]
theorem sS_turn {W H : Nat} {g : Nat → Nat → Int} {n x y : Int} (hn : 1 ≤ n ∧ n ≤ 16) (k : Nat) (hk : k < 4) (hf : sF W H n x y k = true) : sS (fun x y => g (W - 1 - y) x) n y ((W : Int) - 1 - x) ((k + 1) % 4) = sS g n x y k := by
  obtain ⟨e1, e2, e3, e4⟩ := side_turn hn k hk
  have hb := sd_bnd hn hk
  unfold sS
  rw [e1, e2, e3, e4]
  exact bs_turn' (by omega) (by omega) hf

theorem qq_turn (a b c d : Int) : (qq d a b c).2 = (qq a b c d).2 ∧ ((qq a b c d).2 = 0 → (qq d a b c).1 = Int.tmod (w64 ((qq a b c d).1 + 1)) 4) := by
  unfold qq
  by_cases h0 : b < a ∧ c < a ∧ d < a
  · rw [if_pos h0, if_neg (by omega), if_pos (by omega)]
    exact ⟨rfl, fun _ => by decide⟩
  by_cases h1 : a < b ∧ c < b ∧ d < b
  · rw [if_neg h0, if_pos h1, if_neg (by omega), if_neg (by omega), if_pos (by omega)]
    exact ⟨rfl, fun _ => by decide⟩
  by_cases h2 : a < c ∧ b < c ∧ d < c
  · rw [if_neg h0, if_neg h1, if_pos h2, if_neg (by omega), if_neg (by omega), if_neg (by omega), if_pos (by omega)]
    exact ⟨rfl, fun _ => by decide⟩
  by_cases h3 : a < d ∧ b < d ∧ c < d
  · rw [if_neg h0, if_neg h1, if_neg h2, if_pos h3, if_pos (by omega)]
    exact ⟨rfl, fun _ => by decide⟩
  rw [if_neg h0, if_neg h1, if_neg h2, if_neg h3, if_neg (by omega), if_neg (by omega), if_neg (by omega), if_neg (by omega)]
  exact ⟨rfl, fun h => by simp at h⟩

theorem qres_turn {W H : Nat} {g : Nat → Nat → Int} {n x y : Int} (hn : 1 ≤ n ∧ n ≤ 16) :
    (qres H W (fun x y => g (W - 1 - y) x) n y ((W : Int) - 1 - x)).2 = (qres W H g n x y).2 ∧ ((qres W H g n x y).2 = 0 → (qres H W (fun x y => g (W - 1 - y) x) n y ((W : Int) - 1 - x)).1 = Int.tmod (w64 ((qres W H g n x y).1 + 1)) 4) := by
  have f0 := sF_turn (W := W) (H := H) (x := x) (y := y) hn 0 (by decide)
  have f1 := sF_turn (W := W) (H := H) (x := x) (y := y) hn 1 (by decide)
  have f2 := sF_turn (W := W) (H := H) (x := x) (y := y) hn 2 (by decide)
  have f3 := sF_turn (W := W) (H := H) (x := x) (y := y) hn 3 (by decide)
  unfold qres
  rw [show sF H W n y ((W : Int) - 1 - x) 0 = sF W H n x y 3 from f3, show sF H W n y ((W : Int) - 1 - x) 1 = sF W H n x y 0 from f0, show sF H W n y ((W : Int) - 1 - x) 2 = sF W H n x y 1 from f1, show sF H W n y ((W : Int) - 1 - x) 3 = sF W H n x y 2 from f2]
  by_cases h : sF W H n x y 0 = true ∧ sF W H n x y 1 = true ∧ sF W H n x y 2 = true ∧ sF W H n x y 3 = true
  · obtain ⟨h0, h1, h2, h3⟩ := h
    rw [if_pos ⟨h3, h0, h1, h2⟩, if_pos ⟨h0, h1, h2, h3⟩]
    rw [show sS (fun x y => g (W - 1 - y) x) n y ((W : Int) - 1 - x) 0 = sS g n x y 3 from sS_turn hn 3 (by decide) h3, show sS (fun x y => g (W - 1 - y) x) n y ((W : Int) - 1 - x) 1 = sS g n x y 0 from sS_turn hn 0 (by decide) h0,
      show sS (fun x y => g (W - 1 - y) x) n y ((W : Int) - 1 - x) 2 = sS g n x y 1 from sS_turn hn 1 (by decide) h1, show sS (fun x y => g (W - 1 - y) x) n y ((W : Int) - 1 - x) 3 = sS g n x y 2 from sS_turn hn 2 (by decide) h2]
    exact qq_turn _ _ _ _
  · rw [if_neg (fun hh => h ⟨hh.2.1, hh.2.2.1, hh.2.2.2, hh.1⟩), if_neg h]
    exact ⟨rfl, fun h => by simp at h⟩

theorem qres_range {W H : Nat} {g : Nat → Nat → Int} {n x y : Int} : ((qres W H g n x y).2 = 0 ∨ (qres W H g n x y).2 = 13 ∨ (qres W H g n x y).2 = 15) ∧ 0 ≤ (qres W H g n x y).1 ∧ (qres W H g n x y).1 ≤ 3 := by
  unfold qres qq
  repeat' split
  all_goals simp

theorem quarters_true (w h m : Int) (px : List Int) (x y n : Int) : fiduciallaw21_DescriptorQuarters w h m px x y n = some true := by
  unfold fiduciallaw21_DescriptorQuarters
  rw [known21, Option.bind_some, few21]
  by_cases hf : px.length ≤ 600 ∧ ([] : List Tst).length ≤ 70
  case neg =>
    rw [decide_eq_false hf]
    rfl
  rw [decide_eq_true hf]
  simp only [Bool.not_true, Bool.false_eq_true, if_false, Option.bind_some]
  by_cases hg : Good w h m px
  case neg =>
    rw [quarter_bad hg, refcheck_bad hg]
    rfl
  rw [refcheck_good hg]
  obtain ⟨W, H, g, rfl, rfl, rfl, bd⟩ := hg.grid
  rw [quarter_good bd]
  by_cases hb : (0 ≤ x ∧ x < (W : Int) ∧ 0 ≤ y ∧ y < (H : Int)) ∧ 1 ≤ n ∧ n ≤ 16
  case neg =>
    rw [lawquarter_out hb]
    rfl
  obtain ⟨⟨h1, h2, h3, h4⟩, hn⟩ := hb
  have b2 := bd.2.1
  have e1 : w64 (w64 ((W : Int) - 1) - x) = (W : Int) - 1 - x := by rw [w64_id (z := (W : Int) - 1) (by omega) (by omega), w64_id (by omega) (by omega)]
  rw [lawquarter_in bd ⟨h1, h2⟩ ⟨h3, h4⟩ hn, refturn_grid bd]
  simp only [Option.bind_some, bne_self_eq_false, Bool.false_eq_true, if_false]
  rw [e1, quarter_good bd.turn, lawquarter_in bd.turn ⟨h3, h4⟩ ⟨by omega, by omega⟩ hn]
  obtain ⟨t1, t2⟩ := qres_turn (W := W) (H := H) (g := g) (x := x) (y := y) hn
  obtain ⟨r1, r2, r3⟩ := qres_range (W := W) (H := H) (g := g) (n := n) (x := x) (y := y)
  simp only [Option.bind_some]
  rw [t1]
  rcases r1 with r1 | r1 | r1
  · rw [t2 r1, r1]
    simp
  · rw [r1]
    simp
  · rw [r1]
    simp

end Go.Proofs.Ytdgmeplpkehdnaa
