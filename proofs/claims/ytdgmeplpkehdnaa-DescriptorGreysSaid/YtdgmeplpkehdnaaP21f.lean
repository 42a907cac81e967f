/-
  PLAIN, chapter 21: all words of a raster.
-/
import Derived.Test.YtdgmeplpkehdnaaP21e
set_option linter.unusedSimpArgs false
set_option linter.unusedVariables false
namespace Go.Proofs.Ytdgmeplpkehdnaa
open Go.E

abbrev AllS := List (Int × Int) × List Int
def updW (w : Int × Bool) (x y : Int) (s : AllS) : AllS := if w.2 = true then (s.1 ++ [(x, y)], s.2 ++ [w.1]) else s
def rowW (R : Int → Int → Int × Bool) (y : Int) : Nat → AllS → AllS
  | 0, s => s
  | x + 1, s => updW (R x y) x y (rowW R y x s)
def rowsW (R : Int → Int → Int × Bool) (W : Nat) : Nat → AllS
  | 0 => ([], [])
  | y + 1 => rowW R y W (rowsW R W y)

theorem rowW_len (R : Int → Int → Int × Bool) (y : Int) (s : AllS) : ∀ x : Nat, (rowW R y x s).1.length ≤ s.1.length + x ∧ (rowW R y x s).2.length ≤ s.2.length + x
  | 0 => ⟨Nat.le_refl _, Nat.le_refl _⟩
  | x + 1 => by
    have ih := rowW_len R y s x
    simp only [rowW, updW]
    split
    · simp; omega
    · omega
theorem rowsW_len (R : Int → Int → Int × Bool) (W : Nat) : ∀ y : Nat, (rowsW R W y).1.length ≤ y * W ∧ (rowsW R W y).2.length ≤ y * W
  | 0 => ⟨Nat.zero_le _, Nat.zero_le _⟩
  | y + 1 => by
    have ih := rowsW_len R W y
    have := rowW_len R y (rowsW R W y) W
    simp only [rowsW]
    rw [Nat.add_mul]
    omega
theorem rowW_congr {R R' : Int → Int → Int × Bool} {y : Int} : ∀ {x : Nat} {s : AllS}, (∀ i : Nat, i < x → R i y = R' i y) → rowW R y x s = rowW R' y x s
  | 0, _, _ => rfl
  | x + 1, s, h => by
    simp only [rowW]
    rw [rowW_congr (fun i hi => h i (by omega)), h x (by omega)]
theorem rowsW_congr {R R' : Int → Int → Int × Bool} {W : Nat} : ∀ {H : Nat}, (∀ x y : Nat, x < W → y < H → R x y = R' x y) → rowsW R W H = rowsW R' W H
  | 0, _ => rfl
  | H + 1, h => by
    simp only [rowsW]
    rw [rowsW_congr (fun x y hx hy => h x y hx (by omega)), rowW_congr (fun i hi => h i H hi (by omega))]

theorem all_loop {W H : Nat} (hW : W ≤ 64) (hH : H ≤ 64) {R : Int → Int → Int × Bool} {step2 : Int → AllS × Int → Option (Step (List (Int × Int) × List Int × Int) AllS)} {f : Int → Int → Option (Int × Bool)} (hf : ∀ x y : Nat, x < W → y < H → f x y = some (R x y))
    {s2 : Int → (List (Int × Int) × List Int × Int) → Option (Step (List (Int × Int) × List Int × Int) AllS)} {s1 : (List (Int × Int) × List Int × Int) → Option (Step (List (Int × Int) × List Int × Int) AllS)}
    (h2 : ∀ (y : Int) (a : List (Int × Int)) (b : List Int) (x : Int), s2 y (a, b, x) = if decide (x < (W : Int)) = true then (f x y).bind fun q => ((if q.2 = true then chk (a.length + 1 ≤ 1099511627776) (chk (b.length + 1 ≤ 1099511627776) (some (a ++ [(x, y)], b ++ [q.1]))) else some (a, b))).bind fun r => some (.next (r.1, r.2, w64 (x + 1))) else some (.done (a, b)))
    (h1 : ∀ (a : List (Int × Int)) (b : List Int) (y : Int), s1 (a, b, y) = if decide (y < (H : Int)) = true then (loopM FUEL (s2 y) (a, b, 0)).bind fun r => some (.next (r.1, r.2, w64 (y + 1))) else some (.done (a, b))) :
    loopM FUEL s1 ([], [], 0) = some (rowsW R W H) := by
  refine loop_go (fun y => ((rowsW R W y).1, (rowsW R W y).2, (y : Int))) H (by unfold FUEL; omega) rfl (fun y hy => ?_) (by rw [h1, if_neg (by simp)])
  have inner : loopM FUEL (s2 (y : Int)) ((rowsW R W y).1, (rowsW R W y).2, 0) = some (rowW R y W (rowsW R W y)) := by
    refine loop_go (fun x => ((rowW R y x (rowsW R W y)).1, (rowW R y x (rowsW R W y)).2, (x : Int))) W (by unfold FUEL; omega) rfl (fun x hx => ?_) (by rw [h2, if_neg (by simp)])
    have l1 := rowW_len R y (rowsW R W y) x
    have l2 := rowsW_len R W y
    have l3 : y * W ≤ 64 * 64 := Nat.mul_le_mul (by omega) hW
    rw [h2, if_pos (by simpa using hx), hf x y hx hy, Option.bind_some]
    cases hq : (R x y).2 with
    | true =>
      rw [if_pos rfl, chk_pos (by omega), chk_pos (by omega), Option.bind_some, w64_id (by omega) (by omega)]
      simp [rowW, updW, hq]
    | false =>
      rw [if_neg (by decide), Option.bind_some, w64_id (by omega) (by omega)]
      simp [rowW, updW, hq]
  rw [h1, if_pos (by simpa using hy), inner, Option.bind_some, w64_id (by omega) (by omega)]
  simp [rowsW]

theorem all_good {W H : Nat} {m : Int} {g : Nat → Nat → Int} (bd : Bd W H m g) {p : List Tst} (hp : patB p = true) :
    descriptor_All W H m (grid W H g) p = some ((rowsW (wordR W H g p) W H).1, (rowsW (wordR W H g p) W H).2, 0) := by
  have hn := (patB_true hp).2.1
  unfold descriptor_All
  rw [opened_good bd (by omega), hp, Option.bind_some]
  simp only [if_true, bne_self_eq_false, Bool.false_eq_true, if_false]
  rw [all_loop bd.2.1 bd.2.2.2.1 (R := wordR W H g p) (f := fun x y => fiducial_descriptor_image_word W H m (grid W H g) (tabS g W H) p x y) (step2 := fun _ _ => none)
    (fun x y hx hy => imgword_eq bd hp ⟨by omega, by omega⟩ ⟨by omega, by omega⟩) (s2 := fun y s => descriptor_All_s2 W p W H m (grid W H g) (tabS g W H) y s.1 s.2.1 s.2.2) (fun _ _ _ _ => rfl) (fun _ _ _ => rfl)]
  rfl

theorem all_bad {w h m : Int} {px : List Int} {p : List Tst} (hn : p.length ≤ 1000000) (hb : ¬ (Good w h m px ∧ patB p = true)) : descriptor_All w h m px p = some ([], [], 1) := by
  unfold descriptor_All
  by_cases hg : Good w h m px
  · obtain ⟨W, H, g, rfl, rfl, rfl, bd⟩ := hg.grid
    rw [opened_good bd hn]
    have : ¬ patB p = true := fun h => hb ⟨hg, h⟩
    rw [if_neg this]
    rfl
  · rw [opened_bad hg]
    rfl

theorem pequal (a b : List (Int × Int)) (ha : a.length ≤ 1000000) : slices_Equal_sapi_Pix a b = some (decide (a = b)) := by
  unfold slices_Equal_sapi_Pix
  by_cases hl : a.length = b.length
  · rw [if_neg (by simp [hl])]
    rcases eq_loop (step := fun s => slices_Equal_sapi_Pix_s1 a b s) (fun v w => ((v.1 == w.1) && ((v.2 == w.2) && true))) (fun v w => by
      obtain ⟨a, b⟩ := v
      obtain ⟨c, d⟩ := w
      simp) ha hl (fun _ => rfl) with ⟨h1, h2⟩ | ⟨h1, h2⟩
    · rw [h2, decide_eq_true h1]; rfl
    · rw [h2, decide_eq_false h1]; rfl
  · have hl' : ¬ ((a.length : Int) = (b.length : Int)) := by omega
    rw [decide_eq_false (fun h => hl (by rw [h])), if_pos (by simpa using hl')]

theorem uequal (a b : List Int) (ha : a.length ≤ 1000000) : slices_Equal_suint64 a b = some (decide (a = b)) := by
  unfold slices_Equal_suint64
  by_cases hl : a.length = b.length
  · rw [if_neg (by simp [hl])]
    rcases eq_loop (step := fun s => slices_Equal_suint64_s1 a b s) (fun v w => v == w) (fun v w => by simp) ha hl (fun _ => rfl) with ⟨h1, h2⟩ | ⟨h1, h2⟩
    · rw [h2, decide_eq_true h1]; rfl
    · rw [h2, decide_eq_false h1]; rfl
  · have hl' : ¬ ((a.length : Int) = (b.length : Int)) := by omega
    rw [decide_eq_false (fun h => hl (by rw [h])), if_pos (by simpa using hl')]

theorem rowsW_small (R : Int → Int → Int × Bool) {W H : Nat} (hW : W ≤ 64) (hH : H ≤ 64) : (rowsW R W H).1.length ≤ 1000000 ∧ (rowsW R W H).2.length ≤ 1000000 := by
  have := rowsW_len R W H
  have l3 : H * W ≤ 64 * 64 := Nat.mul_le_mul hH hW
  omega

theorem all_true (w h m : Int) (px : List Int) (p : List Tst) : fiduciallaw21_DescriptorAll w h m px p = some true := by
  unfold fiduciallaw21_DescriptorAll
  rw [known21, Option.bind_some, few21]
  by_cases hf : px.length ≤ 600 ∧ p.length ≤ 70
  case neg =>
    rw [decide_eq_false hf]
    rfl
  rw [decide_eq_true hf]
  simp only [Bool.not_true, Bool.false_eq_true, if_false, Option.bind_some]
  by_cases hb : Good w h m px ∧ patB p = true
  · obtain ⟨hg, hp⟩ := hb
    have hc := code_of hg hp
    obtain ⟨W, H, g, rfl, rfl, rfl, bd⟩ := hg.grid
    have sm := rowsW_small (wordR W H g p) bd.2.1 bd.2.2.2.1
    rw [all_good bd hp, hc]
    simp only [Option.bind_some, bne_self_eq_false, Bool.false_eq_true, if_false]
    rw [all_loop bd.2.1 bd.2.2.2.1 (R := wordR W H g p) (f := fun x y => fiduciallaw21_word W H m (grid W H g) p x y) (step2 := fun _ _ => none)
      (fun x y hx hy => lawword_eq bd hp ⟨by omega, by omega⟩ ⟨by omega, by omega⟩) (s2 := fun y s => fiduciallaw21_DescriptorAll_s2 W H m (grid W H g) p y s.1 s.2.1 s.2.2) (fun _ _ _ _ => rfl) (fun _ _ _ => rfl)]
    simp only [Option.bind_some, beq_self_eq_true, if_true, pequal _ _ sm.1, uequal _ _ sm.2, decide_true]
  · rw [all_bad (by omega) hb, code_bad hb]
    rfl

end Go.Proofs.Ytdgmeplpkehdnaa
