/-
  PLAIN, chapter 21: the word of a feature.
-/
import Derived.Test.YtdgmeplpkehdnaaP21b
import Derived.Test.YtdgmeplpkehdnaaQSumTab
import Derived.Test.YtdgmeplpkehdnaaQRefSum
import Derived.Test.YtdgmeplpkehdnaaQInside
import Derived.Test.YtdgmeplpkehdnaaQRefCheck
set_option linter.unusedSimpArgs false
namespace Go.Proofs.Ytdgmeplpkehdnaa
open Go.E

abbrev FitP (W H : Nat) (a b c d x y : Int) : Prop := 0 ≤ x + a ∧ x + a + c ≤ W ∧ 0 ≤ y + b ∧ y + b + d ≤ H
def fitB (W H : Nat) (a b c d x y : Int) : Bool := decide (FitP W H a b c d x y)
def fitT (W H : Nat) (x y : Int) (t : Tst) : Bool := fitB W H t.1 t.2.1 t.2.2.1 t.2.2.2.1 x y && fitB W H t.2.2.2.2.1 t.2.2.2.2.2.1 t.2.2.2.2.2.2.1 t.2.2.2.2.2.2.2 x y
/-- The sum of a box. -/
def bs (g : Nat → Nat → Int) (a b c d x y : Int) : Int := Rc g (x + a).toNat (y + b).toNat c.toNat d.toNat
def cmpT (g : Nat → Nat → Int) (x y : Int) (t : Tst) : Bool :=
  decide (w64 ((w64 (bs g t.1 t.2.1 t.2.2.1 t.2.2.2.1 x y * t.2.2.2.2.2.2.1)) * t.2.2.2.2.2.2.2) < w64 ((w64 (bs g t.2.2.2.2.1 t.2.2.2.2.2.1 t.2.2.2.2.2.2.1 t.2.2.2.2.2.2.2 x y * t.2.2.1)) * t.2.2.2.1))
def orB (w : Int) (n : Nat) : Int := wu64 (((BitVec.ofInt 64 w ||| BitVec.ofInt 64 (wu64 (1 * 2 ^ (min ((n : Int)).toNat 64)))).toNat : Int))
def wordF (f : Nat → Bool) : Nat → Int
  | 0 => 0
  | n + 1 => if f n = true then orB (wordF f n) n else wordF f n
theorem wordF_congr {f f' : Nat → Bool} : ∀ n : Nat, (∀ i, i < n → f i = f' i) → wordF f n = wordF f' n
  | 0, _ => rfl
  | n + 1, h => by simp only [wordF]; rw [wordF_congr n (fun i hi => h i (by omega)), h n (by omega)]
abbrev t0 : Tst := (0, 0, 0, 0, 0, 0, 0, 0)
def wordR (W H : Nat) (g : Nat → Nat → Int) (p : List Tst) (x y : Int) : Int × Bool :=
  if p.all (fitT W H x y) = true then (wordF (fun i => cmpT g x y (p.getD i t0)) p.length, true) else (0, false)

theorem bxB_true {t : Tst} (h : bxB t = true) : BoxP t.1 t.2.1 t.2.2.1 t.2.2.2.1 ∧ BoxP t.2.2.2.2.1 t.2.2.2.2.2.1 t.2.2.2.2.2.2.1 t.2.2.2.2.2.2.2 := by
  unfold bxB at h
  rw [Bool.and_eq_true] at h
  exact ⟨boxB_true h.1, boxB_true h.2⟩

section
variable {W H : Nat} {m : Int} {g : Nat → Nat → Int}

theorem imgsum_eq (bd : Bd W H m g) {a b c d x y : Int} (hx : 0 ≤ x ∧ x < W) (hy : 0 ≤ y ∧ y < H) (hb : BoxP a b c d) :
    fiducial_descriptor_image_sum W H m (grid W H g) (tabS g W H) (w64 (x + a)) (w64 (y + b)) c d = some (if fitB W H a b c d x y = true then (bs g a b c d x y, true) else (0, false)) := by
  have hbd := bd
  obtain ⟨b1, b2, b3, b4, b5, b6, b7⟩ := hbd
  obtain ⟨h1, h2, h3, h4, h5, h6, h7, h8⟩ := hb
  have e1 : w64 (x + a) = x + a := w64_id (by omega) (by omega)
  have e2 : w64 (y + b) = y + b := w64_id (by omega) (by omega)
  unfold fiducial_descriptor_image_sum
  rw [e1, e2]
  by_cases hf : FitP W H a b c d x y
  · have hfb : fitB W H a b c d x y = true := decide_eq_true hf
    obtain ⟨f1, f2, f3, f4⟩ := hf
    have := sum_good bd (x + a).toNat (y + b).toNat c.toNat d.toNat (by omega) (by omega)
    rw [show (((x + a).toNat : Nat) : Int) = x + a by omega, show (((y + b).toNat : Nat) : Int) = y + b by omega, show ((c.toNat : Nat) : Int) = c by omega, show ((d.toNat : Nat) : Int) = d by omega] at this
    rw [this, hfb]
    rfl
  · have hfb : fitB W H a b c d x y = false := decide_eq_false hf
    have := sum_unfit b2 b4 g (x := x + a) (y := y + b) (a := c) (b := d) (fun h => hf (by obtain ⟨q1, q2, q3, q4, q5, q6, q7, q8⟩ := h; exact ⟨by omega, by omega, by omega, by omega⟩))
    rw [this, hfb]
    rfl

theorem fits_eq (bd : Bd W H m g) (l : List Int) {a b c d x y : Int} (hx : 0 ≤ x ∧ x < W) (hy : 0 ≤ y ∧ y < H) (hb : BoxP a b c d) : fiduciallaw21_fits W H m l a b c d x y = some (fitB W H a b c d x y) := by
  obtain ⟨b1, b2, b3, b4, b5, b6, b7⟩ := bd
  obtain ⟨h1, h2, h3, h4, h5, h6, h7, h8⟩ := hb
  have e1 : w64 (x + a) = x + a := w64_id (by omega) (by omega)
  have e2 : w64 (y + b) = y + b := w64_id (by omega) (by omega)
  have e3 : w64 (x + a + c) = x + a + c := w64_id (by omega) (by omega)
  have e4 : w64 (y + b + d) = y + b + d := w64_id (by omega) (by omega)
  have e5 : w64 (x + a + c - 1) = x + a + c - 1 := w64_id (by omega) (by omega)
  have e6 : w64 (y + b + d - 1) = y + b + d - 1 := w64_id (by omega) (by omega)
  unfold fiduciallaw21_fits
  rw [e1, e2, e3, e4, e5, e6, inside_eq, inside_eq]
  by_cases hf : FitP W H a b c d x y
  · have hfb : fitB W H a b c d x y = true := decide_eq_true hf
    obtain ⟨f1, f2, f3, f4⟩ := hf
    rw [hfb, decide_eq_true (show 0 ≤ x + a ∧ x + a < (W : Int) ∧ 0 ≤ y + b ∧ y + b < (H : Int) by omega), decide_eq_true (show 0 ≤ x + a + c - 1 ∧ x + a + c - 1 < (W : Int) ∧ 0 ≤ y + b + d - 1 ∧ y + b + d - 1 < (H : Int) by omega)]
    rfl
  · have hfb : fitB W H a b c d x y = false := decide_eq_false hf
    rw [hfb]
    by_cases q1 : 0 ≤ x + a ∧ x + a < (W : Int) ∧ 0 ≤ y + b ∧ y + b < (H : Int)
    · have q2 : ¬ (0 ≤ x + a + c - 1 ∧ x + a + c - 1 < (W : Int) ∧ 0 ≤ y + b + d - 1 ∧ y + b + d - 1 < (H : Int)) := fun h => hf ⟨by omega, by omega, by omega, by omega⟩
      rw [decide_eq_true q1, decide_eq_false q2]
      rfl
    · rw [decide_eq_false q1]
      rfl

theorem lawsum_eq (bd : Bd W H m g) {a b c d x y : Int} (hx : 0 ≤ x ∧ x < W) (hy : 0 ≤ y ∧ y < H) (hb : BoxP a b c d) (hf : fitB W H a b c d x y = true) : fiducialref13_Sum W H m (grid W H g) (w64 (x + a)) (w64 (y + b)) c d = some (bs g a b c d x y) := by
  have hbd := bd
  obtain ⟨b1, b2, b3, b4, b5, b6, b7⟩ := hbd
  obtain ⟨h1, h2, h3, h4, h5, h6, h7, h8⟩ := hb
  have e1 : w64 (x + a) = x + a := w64_id (by omega) (by omega)
  have e2 : w64 (y + b) = y + b := w64_id (by omega) (by omega)
  obtain ⟨f1, f2, f3, f4⟩ : FitP W H a b c d x y := of_decide_eq_true hf
  rw [e1, e2]
  have := refsum_good bd (x + a).toNat (y + b).toNat c.toNat d.toNat (by omega) (by omega)
  rw [show (((x + a).toNat : Nat) : Int) = x + a by omega, show (((y + b).toNat : Nat) : Int) = y + b by omega, show ((c.toNat : Nat) : Int) = c by omega, show ((d.toNat : Nat) : Int) = d by omega] at this
  exact this

theorem imgword_eq (bd : Bd W H m g) {p : List Tst} (hp : patB p = true) {x y : Int} (hx : 0 ≤ x ∧ x < W) (hy : 0 ≤ y ∧ y < H) : fiducial_descriptor_image_word W H m (grid W H g) (tabS g W H) p x y = some (wordR W H g p x y) := by
  obtain ⟨p1, p2, p3⟩ := patB_true hp
  unfold fiducial_descriptor_image_word wordR
  have each : ∀ (i : Nat) (hi : i < p.length) (w : Int), fiducial_descriptor_image_word_s1 W H m (grid W H g) (tabS g W H) p x y w (i : Int) =
      if fitT W H x y p[i] = true then some (.next (if cmpT g x y p[i] = true then orB w i else w, ((i + 1 : Nat) : Int))) else some (.done (.inl (0, false))) := fun i hi w => by
    have hb := bxB_true (p3 p[i] (List.getElem_mem hi))
    unfold fiducial_descriptor_image_word_s1
    rw [if_pos (by simpa using hi), ix_lt p i hi, Option.bind_some, imgsum_eq bd hx hy hb.1, Option.bind_some, imgsum_eq bd hx hy hb.2]
    unfold fitT
    cases h1 : fitB W H p[i].1 p[i].2.1 p[i].2.2.1 p[i].2.2.2.1 x y <;> cases h2 : fitB W H p[i].2.2.2.2.1 p[i].2.2.2.2.2.1 p[i].2.2.2.2.2.2.1 p[i].2.2.2.2.2.2.2 x y
    · rfl
    · rfl
    · rfl
    · simp only [if_true, Bool.not_true, Bool.false_eq_true, if_false, Option.bind_some, Bool.and_self]
      rw [w64_id (z := (i : Int) + 1) (by omega) (by omega)]
      unfold cmpT orB
      by_cases hc : w64 ((w64 (bs g p[i].1 p[i].2.1 p[i].2.2.1 p[i].2.2.2.1 x y * p[i].2.2.2.2.2.2.1)) * p[i].2.2.2.2.2.2.2) < w64 ((w64 (bs g p[i].2.2.2.2.1 p[i].2.2.2.2.2.1 p[i].2.2.2.2.2.2.1 p[i].2.2.2.2.2.2.2 x y * p[i].2.2.1)) * p[i].2.2.2.1)
      · rw [decide_eq_true hc, if_pos rfl, if_pos rfl, chk_pos (by omega)]
        simp
      · rw [decide_eq_false hc]
        simp
  rcases loop_first (step := fun s : Int × Int => fiducial_descriptor_image_word_s1 W H m (grid W H g) (tabS g W H) p x y s.1 s.2) (fun i => (wordF (fun i => cmpT g x y (p.getD i t0)) i, (i : Int))) (fun i => ∃ t, p[i]? = some t ∧ fitT W H x y t = false) (fun _ => .inl (0, false)) (.inr (wordF (fun i => cmpT g x y (p.getD i t0)) p.length)) p.length (s0 := (0, 0)) (by unfold FUEL; omega) rfl
    (fun i hi hq => by
      have hf : fitT W H x y p[i] = true := by
        cases h : fitT W H x y p[i] with
        | true => rfl
        | false => exact absurd ⟨_, List.getElem?_eq_getElem hi, h⟩ hq
      show fiducial_descriptor_image_word_s1 W H m (grid W H g) (tabS g W H) p x y _ (i : Int) = _
      rw [each i hi, hf, if_pos rfl]
      simp only [wordF, getD_eq hi])
    (fun i hi hq _ => by
      obtain ⟨t, ht, hf⟩ := hq
      rw [List.getElem?_eq_getElem hi] at ht
      cases ht
      show fiducial_descriptor_image_word_s1 W H m (grid W H g) (tabS g W H) p x y _ (i : Int) = _
      rw [each i hi, hf]
      rfl)
    (by
      show fiducial_descriptor_image_word_s1 W H m (grid W H g) (tabS g W H) p x y _ (p.length : Int) = _
      unfold fiducial_descriptor_image_word_s1
      rw [if_neg (by simp)]) with ⟨ha, hl⟩ | ⟨i, hi, ⟨t, ht, hf⟩, _, hl⟩
  · rw [hl]
    have : p.all (fitT W H x y) = true := List.all_eq_true.2 fun t ht => by
      obtain ⟨j, hj⟩ := List.getElem?_of_mem ht
      cases h : fitT W H x y t with
      | true => rfl
      | false => exact absurd ⟨t, hj, h⟩ (ha j (List.getElem?_eq_some_iff.1 hj).1)
    rw [if_pos this]
    rfl
  · rw [hl]
    have : ¬ p.all (fitT W H x y) = true := fun h => by
      rw [List.all_eq_true.1 h t (List.mem_of_getElem? ht)] at hf; cases hf
    rw [if_neg this]
    rfl

theorem lawword_eq (bd : Bd W H m g) {p : List Tst} (hp : patB p = true) {x y : Int} (hx : 0 ≤ x ∧ x < W) (hy : 0 ≤ y ∧ y < H) : fiduciallaw21_word W H m (grid W H g) p x y = some (wordR W H g p x y) := by
  obtain ⟨p1, p2, p3⟩ := patB_true hp
  unfold fiduciallaw21_word wordR
  have each : ∀ (i : Nat) (hi : i < p.length) (w : Int), fiduciallaw21_word_s1 W H m (grid W H g) p x y w (i : Int) =
      if fitT W H x y p[i] = true then some (.next (if cmpT g x y p[i] = true then orB w i else w, ((i + 1 : Nat) : Int))) else some (.done (.inl (0, false))) := fun i hi w => by
    have hb := bxB_true (p3 p[i] (List.getElem_mem hi))
    unfold fiduciallaw21_word_s1
    rw [if_pos (by simpa using hi), ix_lt p i hi, Option.bind_some, fits_eq bd _ hx hy hb.1, Option.bind_some, fits_eq bd _ hx hy hb.2]
    unfold fitT
    cases h1 : fitB W H p[i].1 p[i].2.1 p[i].2.2.1 p[i].2.2.2.1 x y <;> cases h2 : fitB W H p[i].2.2.2.2.1 p[i].2.2.2.2.2.1 p[i].2.2.2.2.2.2.1 p[i].2.2.2.2.2.2.2 x y
    · rfl
    · rfl
    · rfl
    · rw [lawsum_eq bd hx hy hb.1 h1, lawsum_eq bd hx hy hb.2 h2]
      simp only [if_true, Bool.not_true, Bool.false_eq_true, if_false, Option.bind_some, Bool.and_self]
      rw [w64_id (z := (i : Int) + 1) (by omega) (by omega)]
      unfold cmpT orB
      by_cases hc : w64 ((w64 (bs g p[i].1 p[i].2.1 p[i].2.2.1 p[i].2.2.2.1 x y * p[i].2.2.2.2.2.2.1)) * p[i].2.2.2.2.2.2.2) < w64 ((w64 (bs g p[i].2.2.2.2.1 p[i].2.2.2.2.2.1 p[i].2.2.2.2.2.2.1 p[i].2.2.2.2.2.2.2 x y * p[i].2.2.1)) * p[i].2.2.2.1)
      · rw [decide_eq_true hc, if_pos rfl, if_pos rfl, chk_pos (by omega)]
        simp
      · rw [decide_eq_false hc]
        simp
  rcases loop_first (step := fun s : Int × Int => fiduciallaw21_word_s1 W H m (grid W H g) p x y s.1 s.2) (fun i => (wordF (fun i => cmpT g x y (p.getD i t0)) i, (i : Int))) (fun i => ∃ t, p[i]? = some t ∧ fitT W H x y t = false) (fun _ => .inl (0, false)) (.inr (wordF (fun i => cmpT g x y (p.getD i t0)) p.length)) p.length (s0 := (0, 0)) (by unfold FUEL; omega) rfl
    (fun i hi hq => by
      have hf : fitT W H x y p[i] = true := by
        cases h : fitT W H x y p[i] with
        | true => rfl
        | false => exact absurd ⟨_, List.getElem?_eq_getElem hi, h⟩ hq
      show fiduciallaw21_word_s1 W H m (grid W H g) p x y _ (i : Int) = _
      rw [each i hi, hf, if_pos rfl]
      simp only [wordF, getD_eq hi])
    (fun i hi hq _ => by
      obtain ⟨t, ht, hf⟩ := hq
      rw [List.getElem?_eq_getElem hi] at ht
      cases ht
      show fiduciallaw21_word_s1 W H m (grid W H g) p x y _ (i : Int) = _
      rw [each i hi, hf]
      rfl)
    (by
      show fiduciallaw21_word_s1 W H m (grid W H g) p x y _ (p.length : Int) = _
      unfold fiduciallaw21_word_s1
      rw [if_neg (by simp)]) with ⟨ha, hl⟩ | ⟨i, hi, ⟨t, ht, hf⟩, _, hl⟩
  · rw [hl]
    have : p.all (fitT W H x y) = true := List.all_eq_true.2 fun t ht => by
      obtain ⟨j, hj⟩ := List.getElem?_of_mem ht
      cases h : fitT W H x y t with
      | true => rfl
      | false => exact absurd ⟨t, hj, h⟩ (ha j (List.getElem?_eq_some_iff.1 hj).1)
    rw [if_pos this]
    rfl
  · rw [hl]
    have : ¬ p.all (fitT W H x y) = true := fun h => by
      rw [List.all_eq_true.1 h t (List.mem_of_getElem? ht)] at hf; cases hf
    rw [if_neg this]
    rfl
end

theorem opened_good {W H : Nat} {m : Int} {g : Nat → Nat → Int} (bd : Bd W H m g) {p : List Tst} (hn : p.length ≤ 1000000) : descriptor_opened W H m (grid W H g) p = some ((W : Int), (H : Int), m, grid W H g, tabS g W H, if patB p = true then 0 else 1) := by
  unfold descriptor_opened descriptor_open
  rw [integral_good bd, check21_eq hn]
  rfl
theorem integral_bad {w h m : Int} {px : List Int} (hg : ¬ Good w h m px) : raster_Integral w h m px = some ([], 1) := by
  unfold raster_Integral
  rw [check_bad hg]; simp
theorem opened_bad {w h m : Int} {px : List Int} (hg : ¬ Good w h m px) (p : List Tst) : descriptor_opened w h m px p = some (w, h, m, px, [], 1) := by
  unfold descriptor_opened descriptor_open
  rw [integral_bad hg]
  rfl
theorem pixel_eq (w h m : Int) (px : List Int) (tb : List (List Int)) (x y : Int) : fiducial_descriptor_image_pixel w h m px tb x y = some (decide (0 ≤ x ∧ x < w ∧ 0 ≤ y ∧ y < h)) := by
  unfold fiducial_descriptor_image_pixel
  by_cases h1 : 0 ≤ x <;> by_cases h2 : x < w <;> by_cases h3 : 0 ≤ y <;> by_cases h4 : y < h <;> simp [h1, h2, h3, h4]

theorem code_eq (w h m : Int) (px : List Int) (p : List Tst) [Decidable (Good w h m px)] : fiduciallaw21_code w h m px p = some (if Good w h m px ∧ patB p = true then 0 else 1) := by
  unfold fiduciallaw21_code
  by_cases hg : Good w h m px
  · rw [refcheck_good hg, pattern_eq]
    cases patB p <;> simp [hg]
  · rw [refcheck_bad hg]
    simp [hg]

/-- What Describe returns for a raster and a pattern. -/
theorem describe_good {W H : Nat} {m : Int} {g : Nat → Nat → Int} (bd : Bd W H m g) {p : List Tst} (hp : patB p = true) (x y : Int) :
    descriptor_Describe W H m (grid W H g) p x y = some (if 0 ≤ x ∧ x < (W : Int) ∧ 0 ≤ y ∧ y < (H : Int) then (if (wordR W H g p x y).2 = true then ((wordR W H g p x y).1, 0) else (0, 15)) else (0, 2)) := by
  have hn := (patB_true hp).2.1
  unfold descriptor_Describe
  rw [opened_good bd (by omega), Option.bind_some]
  simp only [hp, if_true, bne_self_eq_false, Bool.false_eq_true, if_false]
  rw [pixel_eq, Option.bind_some]
  by_cases hin : 0 ≤ x ∧ x < (W : Int) ∧ 0 ≤ y ∧ y < (H : Int)
  · rw [decide_eq_true hin, if_pos hin]
    simp only [Bool.not_true, Bool.false_eq_true, if_false]
    rw [imgword_eq bd hp ⟨hin.1, hin.2.1⟩ ⟨hin.2.2.1, hin.2.2.2⟩, Option.bind_some]
    cases h : (wordR W H g p x y).2 with
    | true => simp [h]
    | false => simp [h]
  · rw [decide_eq_false hin, if_neg hin]
    rfl

theorem describe_bad {w h m : Int} {px : List Int} {p : List Tst} (hn : p.length ≤ 1000000) (hb : ¬ (Good w h m px ∧ patB p = true)) (x y : Int) : descriptor_Describe w h m px p x y = some (0, 1) := by
  unfold descriptor_Describe
  by_cases hg : Good w h m px
  · obtain ⟨W, H, g, rfl, rfl, rfl, bd⟩ := hg.grid
    rw [opened_good bd hn]
    have : ¬ patB p = true := fun h => hb ⟨hg, h⟩
    rw [if_neg this]
    rfl
  · rw [opened_bad hg]
    rfl

theorem few21 (w h m : Int) (px : List Int) (p : List Tst) : fiduciallaw21_few w h m px p = some (decide (px.length ≤ 600 ∧ p.length ≤ 70)) := by
  unfold fiduciallaw21_few
  by_cases h1 : px.length ≤ 600
  · have q : (px.length : Int) ≤ 600 := by omega
    by_cases h2 : p.length ≤ 70
    · have q2 : (p.length : Int) ≤ 70 := by omega
      simp [h1, h2, q, q2]
    · have q2 : ¬ (p.length : Int) ≤ 70 := by omega
      simp [h1, h2, q, q2]
  · have q : ¬ (px.length : Int) ≤ 600 := by omega
    simp [h1, q]

end Go.Proofs.Ytdgmeplpkehdnaa
