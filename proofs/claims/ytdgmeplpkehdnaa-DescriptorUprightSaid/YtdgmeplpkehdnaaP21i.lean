/-
  PLAIN, chapter 21: upright words.
-/
import Derived.Test.YtdgmeplpkehdnaaP21h
set_option linter.unusedSimpArgs false
set_option linter.unusedVariables false
namespace Go.Proofs.Ytdgmeplpkehdnaa
open Go.E

def turnN (p : List Tst) : Nat → List Tst
  | 0 => p
  | n + 1 => (turnN p n).map turnT
theorem turnN_pat {p : List Tst} (hp : patB p = true) : ∀ n : Nat, patB (turnN p n) = true
  | 0 => hp
  | n + 1 => patB_map (turnN_pat hp n)
theorem turnN_succ (p : List Tst) : ∀ n : Nat, (turnN p n).map turnT = turnN (p.map turnT) n
  | 0 => rfl
  | n + 1 => by
    show ((turnN p n).map turnT).map turnT = (turnN (p.map turnT) n).map turnT
    rw [turnN_succ p n]
theorem turnN_mod {p : List Tst} (hp : patB p = true) : ∀ n : Nat, turnN p (n + 4) = turnN p n := fun n => map_four (turnN_pat hp n)

theorem uploop {p : List Tst} (hp : patB p = true) (K : Nat) (hK : K ≤ 3) : loopM FUEL (fun s : List Tst × Int => descriptor_Upright_s1 (K : Int) s.1 s.2) (p, 0) = some (turnN p K) := by
  refine loop_go (fun i => (turnN p i, (i : Int))) K (by unfold FUEL; omega) rfl (fun i hi => ?_) ?_
  · show descriptor_Upright_s1 (K : Int) (turnN p i) (i : Int) = _
    unfold descriptor_Upright_s1
    rw [if_pos (by rw [decide_eq_true_iff]; omega), turned_eq (turnN_pat hp i), Option.bind_some, w64_id (by omega) (by omega)]
    rfl
  · show descriptor_Upright_s1 (K : Int) (turnN p K) (K : Int) = _
    unfold descriptor_Upright_s1
    rw [if_neg (by simp)]
theorem lawuploop {p : List Tst} (hp : patB p = true) (K : Nat) (hK : K ≤ 3) : loopM FUEL (fun s : List Tst × Int => fiduciallaw21_DescriptorUpright_s1 (K : Int) s.1 s.2) (p, 0) = some (turnN p K) := by
  refine loop_go (fun i => (turnN p i, (i : Int))) K (by unfold FUEL; omega) rfl (fun i hi => ?_) ?_
  · show fiduciallaw21_DescriptorUpright_s1 (K : Int) (turnN p i) (i : Int) = _
    unfold fiduciallaw21_DescriptorUpright_s1
    have := (patB_true (turnN_pat hp i)).2.1
    rw [if_pos (by rw [decide_eq_true_iff]; omega), lawturned_eq (by omega), Option.bind_some, w64_id (by omega) (by omega)]
    rfl
  · show fiduciallaw21_DescriptorUpright_s1 (K : Int) (turnN p K) (K : Int) = _
    unfold fiduciallaw21_DescriptorUpright_s1
    rw [if_neg (by simp)]

/-- What Upright returns for a raster, a pattern, a pixel and a size that are valid. -/
def upR (W H : Nat) (g : Nat → Nat → Int) (p : List Tst) (n x y : Int) : Int × Int :=
  if (qres W H g n x y).2 = 0 then (if (wordR W H g (turnN p (qres W H g n x y).1.toNat) x y).2 = true then ((wordR W H g (turnN p (qres W H g n x y).1.toNat) x y).1, 0) else (0, 15)) else (0, (qres W H g n x y).2)

theorem upright_in {W H : Nat} {m : Int} {g : Nat → Nat → Int} (bd : Bd W H m g) {p : List Tst} (hp : patB p = true) {x y n : Int} (hx : 0 ≤ x ∧ x < W) (hy : 0 ≤ y ∧ y < H) (hn : 1 ≤ n ∧ n ≤ 16) :
    descriptor_Upright W H m (grid W H g) p x y n = some (upR W H g p n x y) := by
  have hl := (patB_true hp).2.1
  obtain ⟨r1, r2, r3⟩ := qres_range (W := W) (H := H) (g := g) (n := n) (x := x) (y := y)
  unfold descriptor_Upright upR
  rw [opened_good bd (by omega), hp]
  simp only [if_true, Option.bind_some, bne_self_eq_false, Bool.false_eq_true, if_false]
  rw [imgquarter_in bd hx hy hn, Option.bind_some]
  by_cases h0 : (qres W H g n x y).2 = 0
  · have e : (qres W H g n x y).1 = (((qres W H g n x y).1.toNat : Nat) : Int) := by omega
    have lp := uploop hp (qres W H g n x y).1.toNat (by omega)
    rw [← e] at lp
    rw [if_neg (by simp [h0]), if_pos h0]
    show Option.bind (loopM FUEL (fun s : List Tst × Int => descriptor_Upright_s1 (qres W H g n x y).1 s.1 s.2) (p, 0)) _ = _
    rw [lp, Option.bind_some, imgword_eq bd (turnN_pat hp _) hx hy, Option.bind_some]
    cases h : (wordR W H g (turnN p (qres W H g n x y).1.toNat) x y).2 with
    | true => simp [h]
    | false => simp [h]
  · rw [if_pos (by simpa using h0), if_neg h0]

theorem upright_out {W H : Nat} {m : Int} {g : Nat → Nat → Int} (bd : Bd W H m g) {p : List Tst} (hp : patB p = true) {x y n : Int} (hb : ¬ ((0 ≤ x ∧ x < (W : Int) ∧ 0 ≤ y ∧ y < (H : Int)) ∧ 1 ≤ n ∧ n ≤ 16)) : descriptor_Upright W H m (grid W H g) p x y n = some (0, 2) := by
  have hl := (patB_true hp).2.1
  unfold descriptor_Upright
  rw [opened_good bd (by omega), hp]
  simp only [if_true, Option.bind_some, bne_self_eq_false, Bool.false_eq_true, if_false]
  rw [imgquarter_out hb]
  rfl

theorem upright_bad {w h m : Int} {px : List Int} {p : List Tst} (hn : p.length ≤ 1000000) (hb : ¬ (Good w h m px ∧ patB p = true)) (x y n : Int) : descriptor_Upright w h m px p x y n = some (0, 1) := by
  unfold descriptor_Upright
  by_cases hg : Good w h m px
  · obtain ⟨W, H, g, rfl, rfl, rfl, bd⟩ := hg.grid
    rw [opened_good bd hn]
    have : ¬ patB p = true := fun h => hb ⟨hg, h⟩
    rw [if_neg this]
    rfl
  · rw [opened_bad hg]
    rfl

theorem upR_turn {W H : Nat} {m : Int} {g : Nat → Nat → Int} (bd : Bd W H m g) {p : List Tst} (hp : patB p = true) {x y n : Int} (hx : 0 ≤ x ∧ x < W) (hy : 0 ≤ y ∧ y < H) (hn : 1 ≤ n ∧ n ≤ 16) :
    upR H W (fun x y => g (W - 1 - y) x) p n y ((W : Int) - 1 - x) = upR W H g p n x y := by
  obtain ⟨t1, t2⟩ := qres_turn (W := W) (H := H) (g := g) (x := x) (y := y) hn
  obtain ⟨r1, r2, r3⟩ := qres_range (W := W) (H := H) (g := g) (n := n) (x := x) (y := y)
  unfold upR
  rw [t1]
  by_cases h0 : (qres W H g n x y).2 = 0
  · rw [if_pos h0, if_pos h0, t2 h0]
    have hk : (qres W H g n x y).1.toNat < 4 := by omega
    have e : (Int.tmod (w64 ((qres W H g n x y).1 + 1)) 4).toNat = ((qres W H g n x y).1.toNat + 1) % 4 := by
      rw [w64_id (by omega) (by omega), Int.tmod_eq_emod_of_nonneg (by omega)]
      omega
    have e2 : turnN p (((qres W H g n x y).1.toNat + 1) % 4) = (turnN p (qres W H g n x y).1.toNat).map turnT := by
      by_cases h3 : (qres W H g n x y).1.toNat = 3
      · rw [h3]
        exact (turnN_mod hp 0).symm
      · rw [Nat.mod_eq_of_lt (by omega)]
        rfl
    rw [e, e2, word_turn bd (turnN_pat hp _) hx hy]
  · rw [if_neg h0, if_neg h0]

theorem upright_true (w h m : Int) (px : List Int) (p : List Tst) (x y n : Int) : fiduciallaw21_DescriptorUpright w h m px p x y n = some true := by
  unfold fiduciallaw21_DescriptorUpright
  rw [known21, Option.bind_some, few21]
  by_cases hf : px.length ≤ 600 ∧ p.length ≤ 70
  case neg =>
    rw [decide_eq_false hf]
    rfl
  rw [decide_eq_true hf]
  simp only [Bool.not_true, Bool.false_eq_true, if_false, Option.bind_some]
  by_cases h20 : 20 < (p.length : Int)
  · simp [h20]
  simp only [h20, decide_false, Bool.false_eq_true, if_false]
  by_cases hb : Good w h m px ∧ patB p = true
  case neg =>
    rw [upright_bad (by omega) hb, code_bad hb]
    rfl
  obtain ⟨hg, hp⟩ := hb
  have hc := code_of hg hp
  obtain ⟨W, H, g, rfl, rfl, rfl, bd⟩ := hg.grid
  by_cases hb : (0 ≤ x ∧ x < (W : Int) ∧ 0 ≤ y ∧ y < (H : Int)) ∧ 1 ≤ n ∧ n ≤ 16
  case neg =>
    rw [upright_out bd hp hb, hc, lawquarter_out hb]
    rfl
  obtain ⟨⟨h1, h2, h3, h4⟩, hn⟩ := hb
  have b2 := bd.2.1
  obtain ⟨r1, r2, r3⟩ := qres_range (W := W) (H := H) (g := g) (n := n) (x := x) (y := y)
  have e1 : w64 (w64 ((W : Int) - 1) - x) = (W : Int) - 1 - x := by rw [w64_id (z := (W : Int) - 1) (by omega) (by omega), w64_id (by omega) (by omega)]
  rw [upright_in bd hp ⟨h1, h2⟩ ⟨h3, h4⟩ hn, hc, lawquarter_in bd ⟨h1, h2⟩ ⟨h3, h4⟩ hn]
  simp only [Option.bind_some, bne_self_eq_false, Bool.false_eq_true, if_false]
  by_cases h0 : (qres W H g n x y).2 = 0
  · have e : (qres W H g n x y).1 = (((qres W H g n x y).1.toNat : Nat) : Int) := by omega
    have lp := lawuploop hp (qres W H g n x y).1.toNat (by omega)
    rw [← e] at lp
    have hu : upR W H g p n x y = (if (wordR W H g (turnN p (qres W H g n x y).1.toNat) x y).2 = true then ((wordR W H g (turnN p (qres W H g n x y).1.toNat) x y).1, 0) else (0, 15)) := by
      unfold upR
      rw [if_pos h0]
    rw [if_neg (by simp [h0]), lp, Option.bind_some, lawword_eq bd (turnN_pat hp _) ⟨h1, h2⟩ ⟨h3, h4⟩, refturn_grid bd]
    simp only [Option.bind_some]
    rw [e1, upright_in bd.turn hp ⟨h3, h4⟩ ⟨by omega, by omega⟩ hn, upR_turn bd hp ⟨h1, h2⟩ ⟨h3, h4⟩ hn, hu]
    cases h : (wordR W H g (turnN p (qres W H g n x y).1.toNat) x y).2 with
    | true => simp [h]
    | false => simp [h]
  · have hu : upR W H g p n x y = (0, (qres W H g n x y).2) := by
      unfold upR
      rw [if_neg h0]
    rw [if_pos (by simpa using h0), hu]
    simp

end Go.Proofs.Ytdgmeplpkehdnaa
