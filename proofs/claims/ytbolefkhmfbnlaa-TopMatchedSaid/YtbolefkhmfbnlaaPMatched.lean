/-
  PLAIN: the features of an image and of the image turned are matched one by one.
-/
import Derived.Test.YtbolefkhmfbnlaaPDesc
import Derived.Test.YtbolefkhmfbnlaaPMatch
import Derived.Test.YtbolefkhmfbnlaaPSortk
set_option linter.unusedSimpArgs false
set_option linter.unusedVariables false
set_option maxRecDepth 100000
namespace Go.Proofs.Ytbolefkhmfbnlaa
open Go.E

/-! ### What stands in the lists of features -/

def Vis (R : Int → Int → Int × Bool) (V : Nat → Nat → Prop) (s : AllS) : Prop :=
  s.1.length = s.2.length ∧ (∀ (i : Nat) v, s.1[i]? = some v → ∃ X Y : Nat, v = ((X : Int), (Y : Int)) ∧ V X Y ∧ (R X Y).2 = true ∧ s.2[i]? = some (R X Y).1) ∧
  ∀ X Y : Nat, V X Y → (R X Y).2 = true → ∃ i : Nat, s.1[i]? = some ((X : Int), (Y : Int))
theorem Vis.congr {R : Int → Int → Int × Bool} {V V' : Nat → Nat → Prop} {s : AllS} (h : Vis R V s) (hV : ∀ X Y, V X Y ↔ V' X Y) : Vis R V' s :=
  ⟨h.1, fun i v hv => by
    obtain ⟨X, Y, h1, h2, h3, h4⟩ := h.2.1 i v hv
    exact ⟨X, Y, h1, (hV X Y).1 h2, h3, h4⟩, fun X Y h1 h2 => h.2.2 X Y ((hV X Y).2 h1) h2⟩
theorem Vis.upd {R : Int → Int → Int × Bool} {V : Nat → Nat → Prop} {s : AllS} (h : Vis R V s) (x y : Nat) : Vis R (fun X Y => V X Y ∨ (X = x ∧ Y = y)) (updW (R x y) x y s) := by
  obtain ⟨h1, h2, h3⟩ := h
  unfold updW
  cases hr : (R x y).2 with
  | false =>
    rw [if_neg (by decide)]
    refine ⟨h1, fun i v hv => ?_, fun X Y hV hR => ?_⟩
    · obtain ⟨X, Y, a1, a2, a3, a4⟩ := h2 i v hv
      exact ⟨X, Y, a1, .inl a2, a3, a4⟩
    · rcases hV with hV | ⟨rfl, rfl⟩
      · exact h3 X Y hV hR
      · rw [hr] at hR; cases hR
  | true =>
    rw [if_pos rfl]
    refine ⟨by simp [h1], fun i v hv => ?_, fun X Y hV hR => ?_⟩
    · dsimp only at hv ⊢
      by_cases hi : i < s.1.length
      · rw [List.getElem?_append_left hi] at hv
        obtain ⟨X, Y, a1, a2, a3, a4⟩ := h2 i v hv
        exact ⟨X, Y, a1, .inl a2, a3, by rw [List.getElem?_append_left (by omega)]; exact a4⟩
      · rw [List.getElem?_append_right (by omega)] at hv
        have hi2 : i - s.1.length = 0 := by
          have := (List.getElem?_eq_some_iff.1 hv).1
          simp only [List.length_cons, List.length_nil] at this
          omega
        rw [hi2] at hv
        have hv2 := (Option.some.inj hv).symm
        exact ⟨x, y, hv2, .inr ⟨rfl, rfl⟩, hr, by rw [List.getElem?_append_right (by omega), ← h1, hi2]; rfl⟩
    · dsimp only
      rcases hV with hV | ⟨rfl, rfl⟩
      · obtain ⟨i, hi⟩ := h3 X Y hV hR
        exact ⟨i, by rw [List.getElem?_append_left (List.getElem?_eq_some_iff.1 hi).1]; exact hi⟩
      · exact ⟨s.1.length, by rw [List.getElem?_append_right (Nat.le_refl _), Nat.sub_self]; rfl⟩
theorem Vis.row {R : Int → Int → Int × Bool} {V : Nat → Nat → Prop} {s : AllS} (h : Vis R V s) (y : Nat) : ∀ x : Nat, Vis R (fun X Y => V X Y ∨ (X < x ∧ Y = y)) (rowW R y x s)
  | 0 => h.congr fun X Y => ⟨.inl, fun h => h.elim id fun h => by omega⟩
  | x + 1 => ((Vis.row h y x).upd x y).congr fun X Y => by
    constructor
    · rintro ((h | ⟨h1, h2⟩) | ⟨h1, h2⟩)
      · exact .inl h
      · exact .inr ⟨by omega, h2⟩
      · exact .inr ⟨by omega, h2⟩
    · rintro (h | ⟨h1, h2⟩)
      · exact .inl (.inl h)
      · by_cases hx : X = x
        · exact .inr ⟨hx, h2⟩
        · exact .inl (.inr ⟨by omega, h2⟩)
theorem vis_rows (R : Int → Int → Int × Bool) (W : Nat) : ∀ H : Nat, Vis R (fun X Y => X < W ∧ Y < H) (rowsW R W H)
  | 0 => ⟨rfl, fun i v h => by simp [rowsW] at h, fun X Y h _ => by omega⟩
  | H + 1 => ((vis_rows R W H).row H W).congr fun X Y => by
    constructor
    · rintro (⟨h1, h2⟩ | ⟨h1, h2⟩)
      · exact ⟨h1, by omega⟩
      · exact ⟨h1, by omega⟩
    · rintro ⟨h1, h2⟩
      by_cases hy : Y = H
      · exact .inr ⟨h1, hy⟩
      · exact .inl ⟨h1, by omega⟩

def ind (R : Int → Int → Int × Bool) (x y : Nat) : Int := if (R x y).2 = true then 1 else 0
theorem row_count (R : Int → Int → Int × Bool) (y : Nat) (s : AllS) : ∀ x : Nat, ((rowW R y x s).1.length : Int) = s.1.length + tot (fun x => ind R x y) x
  | 0 => by simp [rowW, tot]
  | x + 1 => by
    have ih := row_count R y s x
    simp only [rowW, tot, updW, ind] at ih ⊢
    by_cases h : (R x y).2 = true
    · rw [if_pos h, if_pos h]
      simp only [List.length_append, List.length_cons, List.length_nil]
      omega
    · rw [if_neg h, if_neg h]
      omega
theorem rows_count (R : Int → Int → Int × Bool) (W : Nat) : ∀ H : Nat, ((rowsW R W H).1.length : Int) = tot (fun y => tot (fun x => ind R x y) W) H
  | 0 => by simp [rowsW, tot]
  | H + 1 => by
    have ih := rows_count R W H
    have := row_count R H (rowsW R W H) W
    simp only [rowsW, tot]
    omega
theorem count_turn {R R' : Int → Int → Int × Bool} {W H : Nat} (h : ∀ x y : Nat, x < H → y < W → R' x y = R (W - 1 - y : Nat) x) : (rowsW R' H W).1.length = (rowsW R W H).1.length := by
  have h1 := rows_count R W H
  have h2 := rows_count R' H W
  have h3 := Rc_turn (ind R) W 0 0 W H (by omega)
  unfold Rc at h3
  simp only [Nat.zero_add, Nat.sub_zero, Nat.sub_self] at h3
  have h4 : tot (fun y => tot (fun x => ind R' x y) H) W = tot (fun j => tot (fun i => ind R (W - 1 - j) i) H) W := tot_congr W (fun j hj => tot_congr H (fun i hi => by
    unfold ind
    rw [h i j hi hj]))
  omega

/-! ### Words are numbers of 64 bits -/

theorem wu64_bd (z : Int) : Wd (wu64 z) := by
  unfold wu64 IntKind.wrap
  simp only [IntKind.bits, IntKind.signed]
  simp
  omega
theorem wordF_bd (f : Nat → Bool) : ∀ n : Nat, Wd (wordF f n)
  | 0 => by unfold wordF; decide
  | n + 1 => by
    unfold wordF
    split
    · unfold orB; exact wu64_bd _
    · exact wordF_bd f n
theorem wordR_bd (W H : Nat) (g : Nat → Nat → Int) (p : List Tst) (x y : Int) : Wd (wordR W H g p x y).1 := by
  unfold wordR
  split
  · exact wordF_bd _ _
  · decide
theorem vis_bd {W H : Nat} {g : Nat → Nat → Int} {p : List Tst} {V : Nat → Nat → Prop} {s : AllS} (h : Vis (wordR W H g p) V s) : ∀ v ∈ s.2, Wd v := fun v hv => by
  obtain ⟨i, hi⟩ := List.getElem?_of_mem hv
  have hl := (List.getElem?_eq_some_iff.1 hi).1
  have hl1 : i < s.1.length := by rw [h.1]; exact hl
  obtain ⟨X, Y, _, _, _, h4⟩ := h.2.1 i _ (List.getElem?_eq_getElem hl1)
  rw [hi] at h4
  rw [Option.some.inj h4]
  exact wordR_bd ..

theorem check_any (p : List Tst) : descriptor_Check p = some (if patB p = true then 0 else 1) := by
  by_cases h : p.length ≤ 1000000
  · exact check21_eq h
  · have : ¬ patB p = true := fun h1 => by have := (patB_true h1).2.1; omega
    rw [if_neg this]
    unfold descriptor_Check
    rw [decide_eq_false (show ¬ (p.length : Int) < 1 by omega), decide_eq_true (show 64 < (p.length : Int) by omega)]
    rfl

theorem bmatched : fiducialtop_bMatched = some true := by kernel_rfl

theorem matched_true (w h m : Int) (px : List Int) (p : List Tst) : fiducialtop_TopMatched w h m px p = some true := by
  unfold fiducialtop_TopMatched
  rw [bmatched, Option.bind_some, if_neg (by decide)]
  by_cases hg : Good w h m px
  case neg =>
    rw [refcheck_bad hg]
    rfl
  rw [refcheck_good hg, check_any]
  obtain ⟨W, H, g, rfl, rfl, rfl, bd⟩ := hg.grid
  by_cases h8 : 8 < (if (W : Int) < (H : Int) then (H : Int) else (W : Int))
  · rw [decide_eq_true h8]
    rfl
  rw [decide_eq_false h8]
  cases hp : patB p with
  | false => rfl
  | true =>
    rw [show ((some (0 : Int)).bind fun y_31 => (if (y_31 != 0) = true then some true else (if false = true then some true else (some (if true = true then (0 : Int) else 1)).bind fun y_32 => some (y_32 != 0)))) = some false by rfl, Option.bind_some, if_neg (by decide)]
    have hq := patB_map hp
    have hWt : ∀ x y : Nat, x < H → y < W → wordR H W (fun x y => g (W - 1 - y) x) (p.map turnT) x y = wordR W H g p (W - 1 - y : Nat) x := fun x y hx hy => by
      have := word_turn bd hp (x := ((W - 1 - y : Nat) : Int)) (y := (x : Int)) (by omega) (by omega)
      rw [show (W : Int) - 1 - ((W - 1 - y : Nat) : Int) = (y : Int) by omega] at this
      exact this
    rw [all_good bd hp, turn_grid bd, turned_eq hp]
    simp only [Option.bind_some]
    rw [all_good bd.turn hq]
    simp only [Option.bind_some]
    have v1 := vis_rows (wordR W H g p) W H
    have v2 := vis_rows (wordR H W (fun x y => g (W - 1 - y) x) (p.map turnT)) H W
    have b1 := vis_bd v1
    have b2 := vis_bd v2
    have hc := count_turn hWt
    generalize hR : wordR W H g p = R at *
    generalize hR' : wordR H W (fun x y => g (W - 1 - y) x) (p.map turnT) = R' at *
    obtain ⟨at1, ws, hs1⟩ : ∃ a b, rowsW R W H = (a, b) := ⟨_, _, rfl⟩
    obtain ⟨at2, os, hs2⟩ : ∃ a b, rowsW R' H W = (a, b) := ⟨_, _, rfl⟩
    rw [hs1] at v1 b1 hc ⊢
    rw [hs2] at v2 b2 hc ⊢
    obtain ⟨u1, u2, u3⟩ := v1
    obtain ⟨t1, t2, t3⟩ := v2
    dsimp only at u1 u2 u3 t1 t2 t3 b1 b2 hc ⊢
    rw [show (w64 (w64 (w64 ((0 : Int) + 0) + 0) + 0) != 0) = false by rfl, show ((at1.length : Int) != (ws.length : Int)) = false by rw [u1]; simp, show ((at2.length : Int) != (os.length : Int)) = false by rw [t1]; simp, show ((at1.length : Int) != (at2.length : Int)) = false by rw [hc]; simp]
    simp only [Bool.false_eq_true, if_false, Option.bind_some]
    by_cases h64 : 64 < (at1.length : Int)
    · rw [decide_eq_true h64]
      rfl
    obtain ⟨d, hd, hnd⟩ := distinct_ok (xs := ws) (by omega)
    rw [decide_eq_false h64, hd]
    simp only [Bool.false_eq_true, if_false, Option.bind_some]
    cases d with
    | false => rfl
    | true =>
      have hnd := hnd rfl
      simp only [Bool.not_true, Bool.false_eq_true, if_false]
      have hin : ∀ v ∈ ws, v ∈ os := fun v hv => by
        obtain ⟨i, hi⟩ := List.getElem?_of_mem hv
        have hl := (List.getElem?_eq_some_iff.1 hi).1
        have hl1 : i < at1.length := by omega
        obtain ⟨X, Y, _, ⟨h2, h3⟩, h4, h5⟩ := u2 i _ (List.getElem?_eq_getElem hl1)
        have hw := hWt Y (W - 1 - X) h3 (by omega)
        rw [show W - 1 - (W - 1 - X) = X by omega] at hw
        obtain ⟨j, hj⟩ := t3 Y (W - 1 - X) ⟨h3, by omega⟩ (by rw [hw]; exact h4)
        obtain ⟨X', Y', e1, _, _, e4⟩ := t2 j _ hj
        have ex : X' = Y := by have := congrArg Prod.fst e1; simp at this; omega
        have ey : Y' = W - 1 - X := by have := congrArg Prod.snd e1; simp at this; omega
        rw [ex, ey, hw] at e4
        rw [hi] at h5
        rw [Option.some.inj h5]
        exact List.mem_of_getElem? e4
      obtain ⟨ms, e1, e2, e3⟩ := matches_ok b1 b2 (by omega) (by omega) hnd hin
      rw [e1]
      simp only [Option.bind_some, bne_self_eq_false, Bool.false_eq_true, if_false]
      rw [show ((ms.length : Int) != (at1.length : Int)) = false by rw [e2, u1]; simp]
      simp only [Bool.false_eq_true, if_false]
      rw [loop_go (step := fun s : Int => fiducialtop_TopMatched_s1 W at1 at2 ms s) (fun i => (i : Int)) ms.length (s0 := 0) (x := .inr ()) (by unfold FUEL; omega) rfl (fun i hi => by
        obtain ⟨j, g1, g2⟩ := e3 i (by omega)
        have hgw : ws[i]? = some ws[i] := List.getElem?_eq_getElem (by omega)
        rw [hgw] at g2
        have hj : j < at2.length := by have := (List.getElem?_eq_some_iff.1 g2).1; omega
        have hi1 : i < at1.length := by omega
        unfold fiducialtop_TopMatched_s1
        rw [if_pos (by simp only [decide_eq_true_eq]; omega), ix_get rfl g1, Option.bind_some]
        dsimp only
        have c1 : ¬ (if (j : Int) < (i : Int) then (j : Int) else (i : Int)) < 0 := by split <;> omega
        have c2 : ¬ (at1.length : Int) ≤ (if (i : Int) < (j : Int) then (j : Int) else (i : Int)) := by split <;> omega
        rw [if_neg (by decide), decide_eq_false c1, if_neg (by decide), decide_eq_false c2, Option.bind_some, if_neg (by decide), ix_lt at1 i hi1, Option.bind_some, ix_lt at2 j hj, Option.bind_some, Option.bind_some]
        dsimp only
        obtain ⟨X, Y, a1, ⟨a2, a3⟩, a4, a5⟩ := u2 i _ (List.getElem?_eq_getElem hi1)
        obtain ⟨X', Y', d1, ⟨d2, d3⟩, d4, d5⟩ := t2 j _ (List.getElem?_eq_getElem hj)
        have hw := hWt X' Y' d2 d3
        rw [hw] at d4 d5
        rw [hgw] at a5
        rw [g2] at d5
        -- the pixel that was turned there
        obtain ⟨i2, hi2⟩ := u3 (W - 1 - Y') X' ⟨by omega, d2⟩ d4
        obtain ⟨X2, Y2, k1, _, _, k4⟩ := u2 i2 _ hi2
        have ex : X2 = W - 1 - Y' := by have := congrArg Prod.fst k1; simp at this; omega
        have ey : Y2 = X' := by have := congrArg Prod.snd k1; simp at this; omega
        rw [ex, ey] at k4
        have hi2l := (List.getElem?_eq_some_iff.1 k4).1
        have hi2v := (List.getElem?_eq_some_iff.1 k4).2
        have hwv : ws[i2] = ws[i] := by rw [hi2v]; exact (Option.some.inj d5).symm
        have hii : i2 = i := by
          rcases Nat.lt_trichotomy i2 i with h | h | h
          · exact absurd hwv (List.pairwise_iff_getElem.1 hnd i2 i hi2l (by omega) h)
          · exact h
          · exact absurd hwv.symm (List.pairwise_iff_getElem.1 hnd i i2 (by omega) hi2l h)
        rw [hii, List.getElem?_eq_getElem hi1] at hi2
        have hxy := Option.some.inj hi2
        rw [hxy, d1]
        dsimp only
        rw [w64_id (z := (W : Int) - 1) (by omega) (by omega), w64_id (z := (W : Int) - 1 - ((W - 1 - Y' : Nat) : Int)) (by omega) (by omega), w64_id (z := (i : Int) + 1) (by omega) (by omega), show (W : Int) - 1 - ((W - 1 - Y' : Nat) : Int) = (Y' : Int) by omega]
        simp) (by
        unfold fiducialtop_TopMatched_s1
        rw [if_neg (by simp)])]
      rfl
end Go.Proofs.Ytbolefkhmfbnlaa
