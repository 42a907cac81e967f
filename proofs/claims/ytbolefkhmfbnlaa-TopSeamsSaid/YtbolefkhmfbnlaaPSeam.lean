/-
  PLAIN: seams, costs and mosaics (made by seam.py out of chapter 50's texts).
-/
import Derived.Test.YtbolefkhmfbnlaaP50a
import Derived.Test.YtbolefkhmfbnlaaQMin
import Derived.Test.YtbolefkhmfbnlaaQCheck
import Derived.Test.YtbolefkhmfbnlaaQRefCheck
set_option linter.unusedSimpArgs false
set_option linter.unusedVariables false
namespace Go.Proofs.Ytbolefkhmfbnlaa
open Go.E

theorem near_eq {x W : Nat} (hx : x < W) (hW : W ≤ 1000) : seam_near (x : Int) (W : Int) = some (((x - 1 : Nat) : Int), ((x - 1 + wd W x : Nat) : Int)) := by
  have e := wd_top hx
  unfold seam_near
  rw [w64_id (z := (x : Int) - 1) (by omega) (by omega), w64_id (z := (x : Int) + 1) (by omega) (by omega), w64_id (z := (W : Int) - 1) (by omega) (by omega), e]
  congr 2
  · split <;> omega
  · split <;> omega

theorem least_eq {W a b : Nat} (f : Nat → Int) (hab : a ≤ b) (hb : b < W) (hW : W ≤ 1000) : seam_least (row W f) (a : Int) (b : Int) = some (mn f a (b - a)) := by
  unfold seam_least
  rw [w64_id (z := (b : Int) + 1) (by omega) (by omega)]
  rw [show ((b : Int) + 1).toNat = b + 1 by omega, show (a : Int).toNat = a by omega]
  rw [chk_pos (by rw [row_len]; omega)]
  have hm : ∀ v, v ∈ ((row W f).take (b + 1)).drop a ↔ ∃ z, a ≤ z ∧ z ≤ b ∧ f z = v := fun v => by
    constructor
    · intro hv
      obtain ⟨i, hi⟩ := List.getElem?_of_mem hv
      rw [List.getElem?_drop, List.getElem?_take] at hi
      split at hi
      · rw [row_get _ _ (by omega)] at hi
        exact ⟨a + i, by omega, by omega, Option.some.inj hi⟩
      · cases hi
    · rintro ⟨z, h1, h2, rfl⟩
      refine List.mem_of_getElem? (i := z - a) ?_
      rw [List.getElem?_drop, List.getElem?_take, if_pos (by omega), show a + (z - a) = z by omega, row_get _ _ (by omega)]
  obtain ⟨M, h1, h2, h3⟩ := min_spec (xs := ((row W f).take (b + 1)).drop a) (fun h => by
    have := (hm (f a)).2 ⟨a, by omega, hab, rfl⟩
    rw [h] at this; cases this) (by rw [List.length_drop, List.length_take, row_len]; omega)
  rw [h1]
  show some M = _
  congr 1
  obtain ⟨z, q1, q2, q3⟩ := (hm M).1 h2
  exact mn_uniq f a (b - a) M ⟨z, q1, by omega, q3⟩ fun z r1 r2 => h3 _ ((hm _).2 ⟨z, r1, by omega, rfl⟩)

theorem nb_step {α : Type} {x W : Nat} (f : Nat → Int) (hx : x < W) (hW : W ≤ 1000) : seam_least (row W f) ((x - 1 : Nat) : Int) ((x - 1 + wd W x : Nat) : Int) = some (nb W f x) := by
  have e := wd_top hx
  rw [least_eq f (by omega) (by omega) hW]
  unfold nb
  congr 2
  omega

def upT (W H : Nat) (F : Nat → Nat → Int) (i : Nat) : List (List Int) := (List.range H).map fun y => if H - i ≤ y then row W (F y) else []

theorem upT_len (W H : Nat) (F : Nat → Nat → Int) (i : Nat) : (upT W H F i).length = H := by simp [upT]

theorem upT_get (W H : Nat) (F : Nat → Nat → Int) (i : Nat) {y : Nat} (hy : y < H) : (upT W H F i)[y]? = some (if H - i ≤ y then row W (F y) else []) := by simp [upT, hy]

theorem up_loop {W H : Nat} (hW : W ≤ 1000) (hH : H ≤ 1000) (F : Nat → Nat → Int) (step1 : List (List Int) × Int → Option (Step (List (List Int) × Int) (List (List Int)))) (step2 : Nat → List (List Int) × Int → Option (Step (List (List Int) × Int) (List (List Int))))
    (h1 : ∀ (y : Nat) l r, y < H → loopM FUEL (step2 y) (l, 0) = some r → step1 (l, (y : Int)) = some (.next (r, (y : Int) - 1)))
    (h1d : ∀ l, step1 (l, -1) = some (.done l))
    (h2 : ∀ (y x : Nat) l, y < H → x < W → l.length = H → l[y]? = some (row x (F y)) → (y + 1 < H → l[y + 1]? = some (row W (F (y + 1)))) → step2 y (l, (x : Int)) = some (.next (l.set y (row (x + 1) (F y)), ((x + 1 : Nat) : Int))))
    (h2d : ∀ (y : Nat) l, y < H → step2 y (l, (W : Int)) = some (.done l)) :
    loopM FUEL step1 (List.replicate H [], (H : Int) - 1) = some (tbl W H F) := by
  refine loop_go (fun i => (upT W H F i, (H : Int) - 1 - (i : Int))) H (by unfold FUEL; omega) ?_ (fun i hi => ?_) ?_
  · have e : List.replicate H [] = upT W H F 0 := by
      apply List.ext_getElem?
      intro y
      by_cases hy : y < H
      · rw [upT_get _ _ _ _ hy, if_neg (by omega), List.getElem?_replicate, if_pos hy]
      · rw [List.getElem?_eq_none (by simp; omega), List.getElem?_eq_none (by rw [upT_len]; omega)]
    rw [e]
    simp
  · have ey : (H : Int) - 1 - (i : Int) = ((H - 1 - i : Nat) : Int) := by omega
    have hl : loopM FUEL (step2 (H - 1 - i)) (upT W H F i, 0) = some (upT W H F (i + 1)) := by
      refine loop_go (fun x => ((upT W H F i).set (H - 1 - i) (row x (F (H - 1 - i))), (x : Int))) W (by unfold FUEL; omega) ?_ (fun x hx => ?_) ?_
      · have e : upT W H F i = (upT W H F i).set (H - 1 - i) (row 0 (F (H - 1 - i))) := by
          apply List.ext_getElem?
          intro y
          rw [List.getElem?_set]
          split
          · subst y
            rw [upT_get _ _ _ _ (by omega), if_neg (by omega), if_pos (by rw [upT_len]; omega)]
            rfl
          · rfl
        rw [← e]
        rfl
      · show step2 (H - 1 - i) (_, (x : Int)) = _
        rw [h2 (H - 1 - i) x _ (by omega) hx (by rw [List.length_set, upT_len]) (by rw [List.getElem?_set_self (by rw [upT_len]; omega)])
          (fun h => by rw [List.getElem?_set_ne (by omega), upT_get _ _ _ _ h, if_pos (by omega)]), List.set_set]
      · show step2 (H - 1 - i) (_, (W : Int)) = _
        rw [h2d _ _ (by omega)]
        congr 2
        apply List.ext_getElem?
        intro y
        rw [List.getElem?_set]
        split
        · subst y
          rw [if_pos (by rw [upT_len]; omega), upT_get _ _ _ _ (by omega), if_pos (by omega)]
        · by_cases hy : y < H
          · rw [upT_get _ _ _ _ hy, upT_get _ _ _ _ hy]
            by_cases hq : H - i ≤ y
            · rw [if_pos hq, if_pos (by omega)]
            · rw [if_neg hq, if_neg (by omega)]
          · rw [List.getElem?_eq_none (by rw [upT_len]; omega), List.getElem?_eq_none (by rw [upT_len]; omega)]
    show step1 (upT W H F i, (H : Int) - 1 - (i : Int)) = some (Step.next (_, (H : Int) - 1 - ((i + 1 : Nat) : Int)))
    rw [ey, h1 _ _ _ (by omega) hl]
    congr 3
    omega
  · show step1 (upT W H F H, (H : Int) - 1 - (H : Int)) = _
    rw [show (H : Int) - 1 - (H : Int) = -1 by omega, h1d]
    congr 2
    apply List.ext_getElem?
    intro y
    by_cases hy : y < H
    · rw [upT_get _ _ _ _ hy, if_pos (by omega), tbl_get _ _ _ hy]
    · rw [List.getElem?_eq_none (by rw [upT_len]; omega), List.getElem?_eq_none (by rw [tbl_len]; omega)]

def BlT (c : Nat → Nat → Int) (W H : Nat) : Nat → Nat → Int := fun y x => Bl c W (H - 1 - y) y x

def Bnd (W : Nat) (c : Nat → Nat → Int) : Prop := ∀ y x, x < W → 0 ≤ c y x ∧ c y x ≤ 1099511627776

theorem BlT_bound {W H : Nat} {c : Nat → Nat → Int} (hb : Bnd W c) (hH : H ≤ 1000) (y : Nat) {x : Nat} (hx : x < W) : 0 ≤ BlT c W H y x ∧ BlT c W H y x ≤ 1099511627776000 := by
  have h := Bl_bound hb (H - 1 - y) y x hx
  refine ⟨h.1, Int.le_trans h.2 ?_⟩
  have : ((H - 1 - y : Nat) : Int) + 1 ≤ 1000 ∨ H = 0 := by omega
  have e : (((H - 1 - y : Nat) : Int) + 1) * 1099511627776 ≤ 1000 * 1099511627776 := Int.mul_le_mul_of_nonneg_right (by omega) (by omega)
  omega

theorem BlT_step {W H : Nat} {c : Nat → Nat → Int} {y : Nat} (hy : y + 1 < H) (x : Nat) : BlT c W H y x = c y x + nb W (BlT c W H (y + 1)) x := by
  unfold BlT
  rw [show H - 1 - y = (H - 1 - (y + 1)) + 1 by omega]
  rfl

theorem BlT_last {W H : Nat} {c : Nat → Nat → Int} {y : Nat} (hy : y + 1 = H) (x : Nat) : BlT c W H y x = c y x := by
  unfold BlT
  rw [show H - 1 - y = 0 by omega]
  rfl

def al (A : Nat → Nat → Bool) (c : Nat → Nat → Int) : Nat → Nat → Int := fun y x => if A y x = true then c y x else 1099511627776

theorem al_bnd {W : Nat} {c : Nat → Nat → Int} (hb : Bnd W c) (A : Nat → Nat → Bool) : Bnd W (al A c) := fun y x hx => by
  have := hb y x hx
  unfold al
  split <;> omega

theorem upward_eq {W H : Nat} (hW : W ≤ 1000) (hH : H ≤ 1000) {c : Nat → Nat → Int} (hb : Bnd W c) {f : Int → Int → Option Bool} {A : Nat → Nat → Bool} (hf : ∀ y x : Nat, y < H → x < W → f y x = some (A y x)) :
    seam_upward (tbl W H c) f = some (tbl W H (BlT (al A c) W H)) := by
  unfold seam_upward
  rw [tbl_len, chk_pos (by omega), w64_id (by omega) (by omega), show (H : Int).toNat = H by omega]
  have hB := al_bnd hb A
  have : loopM FUEL (fun s : List (List Int) × Int => seam_upward_s1 (tbl W H c) f s.1 s.2) (List.replicate H [], (H : Int) - 1) = some (tbl W H (BlT (al A c) W H)) := by
    refine up_loop hW hH _ _ (fun y s => seam_upward_s2 (tbl W H c) f (y : Int) (row W (c y)) s.1 s.2) (fun y l r hy hr => ?_) (fun l => ?_) (fun y x l hy hx hl h1 h2 => ?_) (fun y l hy => ?_)
    · show seam_upward_s1 (tbl W H c) f l (y : Int) = _
      unfold seam_upward_s1
      rw [if_pos (by simp), tbl_ix W H c rfl hy, Option.bind_some, hr, Option.bind_some, w64_id (by omega) (by omega)]
    · show seam_upward_s1 (tbl W H c) f l (-1) = _
      unfold seam_upward_s1
      rw [if_neg (by simp)]
    · show seam_upward_s2 (tbl W H c) f (y : Int) (row W (c y)) l (x : Int) = _
      unfold seam_upward_s2
      rw [row_len, if_pos (by simpa using hx), row_ix W _ rfl hx, Option.bind_some, hf y x hy hx, Option.bind_some]
      have e : (if (!A y x) = true then some 1099511627776 else some (c y x)) = some (al A c y x) := by
        unfold al
        cases A y x <;> rfl
      rw [e, Option.bind_some, w64_id (z := (y : Int) + 1) (by omega) (by omega), tbl_len]
      have e2 : (if decide ((y : Int) + 1 < (H : Int)) = true then
          (ix (tbl W H c) (y : Int)).bind fun v_13 => (seam_near (x : Int) (v_13.length : Int)).bind fun (y_14, y_15) =>
            (ix l ((y : Int) + 1)).bind fun v_16 => (seam_least v_16 y_14 y_15).bind fun y_17 => some (w64 (al A c y x + y_17)) else some (al A c y x)) = some (BlT (al A c) W H y x) := by
        by_cases hq : y + 1 < H
        · rw [if_pos (by simp; omega), tbl_ix W H c rfl hy, Option.bind_some, row_len, near_eq hx hW, Option.bind_some]
          show ((ix l ((y : Int) + 1)).bind fun v_16 => (seam_least v_16 _ _).bind fun y_17 => some (w64 (al A c y x + y_17))) = _
          rw [ix_get (i := y + 1) (by push_cast; rfl) (h2 hq), Option.bind_some, nb_step (α := Unit) _ hx hW, Option.bind_some]
          have e3 := BlT_step (c := al A c) (W := W) hq x
          have e4 := BlT_bound (H := H) hB hH y hx
          rw [← e3, w64_id (by omega) (by omega)]
        · rw [if_neg (by simp; omega), BlT_last (by omega)]
      rw [e2, Option.bind_some, ix_get rfl h1, Option.bind_some, row_len, chk_pos (by omega), chk_pos (by omega), w64_id (by omega) (by omega), row_succ]
      simp
    · show seam_upward_s2 (tbl W H c) f (y : Int) (row W (c y)) l (W : Int) = _
      unfold seam_upward_s2
      rw [row_len, if_neg (by simp)]
  rw [this]
  rfl

def fr (c : Nat → Nat → Int) (W H : Nat) : Nat → Nat
  | 0 => 0
  | i + 1 => col c W H i - 1

def wk (c : Nat → Nat → Int) (W H : Nat) : Nat → Nat
  | 0 => W - 1
  | i + 1 => wd W (col c W H i)

theorem col_am (c : Nat → Nat → Int) (W H : Nat) : ∀ i, col c W H i = am (BlT c W H i) (fr c W H i) (wk c W H i)
  | 0 => rfl
  | i + 1 => rfl

theorem fr_top (c : Nat → Nat → Int) {W : Nat} (hW : 0 < W) (H : Nat) : ∀ i, fr c W H i + wk c W H i < W
  | 0 => by simp only [fr, wk]; omega
  | i + 1 => by
    have := wd_top (col_lt c hW H i)
    simp only [fr, wk]; omega

def colL (c : Nat → Nat → Int) (W H i : Nat) : List Int := row i (fun y => (col c W H y : Int))

theorem best_eq {W fr k : Nat} (f : Nat → Int) (h : fr + k < W) (hW : W ≤ 1000) : loopM FUEL (fun s : Int × Int => seam_first_s2 ((fr + k : Nat) : Int) (row W f) s.1 s.2) ((fr : Int), (fr : Int)) = some (am f fr k : Int) := by
  refine loop_go (fun i => (((fr + i : Nat) : Int), (am f fr (i - 1) : Int))) (k + 1) (by unfold FUEL; omega) rfl (fun i hi => ?_) ?_
  · show seam_first_s2 ((fr + k : Nat) : Int) (row W f) ((fr + i : Nat) : Int) (am f fr (i - 1) : Int) = _
    have ha := am_in f fr (i - 1)
    unfold seam_first_s2
    rw [if_pos (by simp; omega), row_ix W f rfl (by omega), Option.bind_some, row_ix W f rfl (by omega), Option.bind_some, w64_id (by omega) (by omega)]
    have e : (if decide (f (fr + i) < f (am f fr (i - 1))) = true then some ((fr + i : Nat) : Int) else some (am f fr (i - 1) : Int)) = some (am f fr i : Int) := by
      cases i with
      | zero => rw [if_neg (by simp [am])]
      | succ i =>
        simp only [Nat.add_sub_cancel, am]
        by_cases hq : f (fr + (i + 1)) < f (am f fr i)
        · rw [if_pos (decide_eq_true hq), if_pos hq]
        · rw [if_neg (by simpa using hq), if_neg hq]
    rw [e]
    show some (Step.next (_, _)) = some (Step.next (((fr + (i + 1) : Nat) : Int), _))
    congr 3
  · show seam_first_s2 ((fr + k : Nat) : Int) (row W f) ((fr + (k + 1) : Nat) : Int) (am f fr k : Int) = _
    unfold seam_first_s2
    rw [if_neg (by simp; omega)]

theorem first_eq {W H : Nat} (hW0 : 0 < W) (hH0 : 0 < H) (hW : W ≤ 1000) (hH : H ≤ 1000) {c : Nat → Nat → Int} (hb : Bnd W c) {f : Int → Int → Option Bool} {A : Nat → Nat → Bool} (hf : ∀ y x : Nat, y < H → x < W → f y x = some (A y x)) :
    seam_first (tbl W H c) f = some (colL (al A c) W H H, lt (al A c) W H) := by
  unfold seam_first
  rw [upward_eq hW hH hb hf, Option.bind_some, tbl_ix0 W c hH0, Option.bind_some, row_len, w64_id (by omega) (by omega)]
  generalize hd : al A c = d
  have hB : Bnd W d := hd ▸ al_bnd hb A
  have : loopM FUEL (fun s : List Int × Int × Int × Int => seam_first_s1 (tbl W H (BlT d W H)) s.1 s.2.1 s.2.2.1 s.2.2.2) ([], 0, (W : Int) - 1, 0) = some (colL d W H H) := by
    refine loop_go (fun i => (colL d W H i, ((fr d W H i : Nat) : Int), ((fr d W H i + wk d W H i : Nat) : Int), (i : Int))) H (by unfold FUEL; omega) ?_ (fun i hi => ?_) ?_
    · show _ = (([] : List Int), ((0 : Nat) : Int), ((0 + (W - 1) : Nat) : Int), ((0 : Nat) : Int))
      congr 3
      omega
    · show seam_first_s1 (tbl W H (BlT d W H)) (colL d W H i) (fr d W H i : Int) ((fr d W H i + wk d W H i : Nat) : Int) (i : Int) = _
      unfold seam_first_s1
      have hc := col_lt d hW0 H i
      rw [tbl_len, if_pos (by simpa using hi), tbl_ix W H _ rfl hi, Option.bind_some, best_eq _ (fr_top d hW0 H i) hW, Option.bind_some, ← col_am, chk_pos (by unfold colL; rw [row_len]; omega), row_len, near_eq hc hW, Option.bind_some]
      show some (Step.next (_, _, _, w64 ((i : Int) + 1))) = some (Step.next (colL d W H (i + 1), _, _, _))
      rw [w64_id (by omega) (by omega)]
      unfold colL
      rw [row_succ]
      rfl
    · show seam_first_s1 (tbl W H (BlT d W H)) (colL d W H H) (fr d W H H : Int) ((fr d W H H + wk d W H H : Nat) : Int) (H : Int) = _
      unfold seam_first_s1
      rw [tbl_len, if_neg (by simp)]
  rw [this, Option.bind_some, tbl_ix0 W _ hH0, Option.bind_some]
  unfold colL
  rw [row_ix0 _ hH0, Option.bind_some, row_ix W _ rfl (col_lt d hW0 H 0), Option.bind_some]
  rfl

theorem clone_eq (xs : List Int) (h : xs.length ≤ 1000000) : slices_Clone_sint xs = some xs := by
  unfold slices_Clone_sint
  rw [chk_pos (by simp; omega)]
  simp

theorem down_eq {W H : Nat} (hW0 : 0 < W) (hH0 : 0 < H) (hW : W ≤ 1000) (hH : H ≤ 1000) {c : Nat → Nat → Int} (hb : Bnd W c) : seam_downward (tbl W H c) = some (tbl W H (Dn c W)) := by
  unfold seam_downward
  rw [tbl_ix0 W c hH0, Option.bind_some, clone_eq _ (by rw [row_len]; omega), Option.bind_some]
  have hB : ∀ y x, y < 1000 → x < W → 0 ≤ Dn c W y x ∧ Dn c W y x ≤ 1099511627776000 := fun y x hy hx => by
    have h := Dn_bound hb y x hx
    have e : ((y : Int) + 1) * 1099511627776 ≤ 1000 * 1099511627776 := Int.mul_le_mul_of_nonneg_right (by omega) (by omega)
    omega
  have hin : ∀ y, y + 1 < H → loopM FUEL (fun s : List Int × Int => seam_downward_s2 (tbl W H c) (tbl W (y + 1) (Dn c W)) ((y + 1 : Nat) : Int) (row W (c (y + 1))) s.1 s.2) ([], 0) = some (row W (Dn c W (y + 1))) := fun y hy => by
    refine loop_go (fun x => (row x (Dn c W (y + 1)), (x : Int))) W (by unfold FUEL; omega) rfl (fun x hx => ?_) ?_
    · show seam_downward_s2 (tbl W H c) (tbl W (y + 1) (Dn c W)) ((y + 1 : Nat) : Int) (row W (c (y + 1))) (row x (Dn c W (y + 1))) (x : Int) = _
      unfold seam_downward_s2
      have e := hB (y + 1) x (by omega) hx
      rw [row_len, if_pos (by simpa using hx), row_ix W _ rfl hx, Option.bind_some, tbl_ix W H c rfl hy, Option.bind_some, row_len, near_eq hx hW, Option.bind_some]
      show ((ix (tbl W (y + 1) (Dn c W)) (w64 (((y + 1 : Nat) : Int) - 1))).bind fun v_15 => (seam_least v_15 _ _).bind fun y_16 => chk ((row x (Dn c W (y + 1))).length + 1 ≤ 1099511627776) (some (Step.next (row x (Dn c W (y + 1)) ++ [w64 (c (y + 1) x + y_16)], w64 ((x : Int) + 1))))) = _
      rw [w64_id (z := ((y + 1 : Nat) : Int) - 1) (by omega) (by omega), tbl_ix W (y + 1) _ (y := y) (by omega) (by omega), Option.bind_some, nb_step (α := Unit) _ hx hW, Option.bind_some, row_len, chk_pos (by omega)]
      rw [show c (y + 1) x + nb W (Dn c W y) x = Dn c W (y + 1) x from rfl, w64_id (z := Dn c W (y + 1) x) (by omega) (by omega), w64_id (by omega) (by omega)]
      rw [row_succ]
      rfl
    · show seam_downward_s2 (tbl W H c) (tbl W (y + 1) (Dn c W)) ((y + 1 : Nat) : Int) (row W (c (y + 1))) (row W (Dn c W (y + 1))) (W : Int) = _
      unfold seam_downward_s2
      rw [row_len, if_neg (by simp)]
  have : loopM FUEL (fun s : List (List Int) × Int => seam_downward_s1 (tbl W H c) s.1 s.2) ([row W (c 0)], 1) = some (tbl W H (Dn c W)) := by
    refine loop_go (fun i => (tbl W (i + 1) (Dn c W), ((i + 1 : Nat) : Int))) (H - 1) (by unfold FUEL; omega) rfl (fun i hi => ?_) ?_
    · show seam_downward_s1 (tbl W H c) (tbl W (i + 1) (Dn c W)) ((i + 1 : Nat) : Int) = _
      unfold seam_downward_s1
      rw [tbl_len, if_pos (by simp; omega), tbl_ix W H c (y := i + 1) rfl (by omega), Option.bind_some, row_len, chk_pos (by omega), Option.bind_some, hin i (by omega), Option.bind_some, tbl_len, chk_pos (by omega), w64_id (by omega) (by omega)]
      show some (Step.next (_, _)) = some (Step.next (tbl W (i + 1 + 1) (Dn c W), ((i + 1 + 1 : Nat) : Int)))
      rw [tbl_succ W (i + 1)]
      rfl
    · show seam_downward_s1 (tbl W H c) (tbl W (H - 1 + 1) (Dn c W)) ((H - 1 + 1 : Nat) : Int) = _
      unfold seam_downward_s1
      rw [tbl_len, if_neg (by simp; omega), show H - 1 + 1 = H by omega]
  rw [this]
  rfl

def few (t : List (List Int)) : Bool := decide (t.length ≤ 7) && !(t.any fun r => decide (7 < (r.length : Int)))

theorem few_iff {t : List (List Int)} (h : few t = true) : t.length ≤ 7 ∧ ∀ r ∈ t, r.length ≤ 7 := by
  unfold few at h
  simp only [Bool.and_eq_true, decide_eq_true_eq, Bool.not_eq_true', List.any_eq_false] at h
  refine ⟨h.1, fun r hr => ?_⟩
  have := h.2 r hr
  omega

def ok1 (z : Int) : Bool := decide (z < 0) || decide (1048576 < z)

theorem c1_eq (z : Int) : seam_Check_c1 z = some (ok1 z) := by
  unfold seam_Check_c1 ok1
  by_cases h : z < 0
  · rw [if_pos (decide_eq_true h), decide_eq_true h]; rfl
  · rw [if_neg (by simpa using h), decide_eq_false h]; rfl

theorem ok1_iff {z : Int} : ok1 z = false ↔ 0 ≤ z ∧ z ≤ 1048576 := by
  unfold ok1
  simp only [Bool.or_eq_false_iff, decide_eq_false_iff_not]
  omega

def CB (W : Nat) (c : Nat → Nat → Int) : Prop := ∀ y x, x < W → 0 ≤ c y x ∧ c y x ≤ 1048576

theorem CB.bnd {W : Nat} {c : Nat → Nat → Int} (h : CB W c) : Bnd W c := fun y x hx => by have := h y x hx; omega

theorem check_tab {W H : Nat} (hW0 : 0 < W) (hH0 : 0 < H) (hW : W ≤ 64) (hH : H ≤ 64) (c : Nat → Nat → Int) :
    (seam_Check (tbl W H c) = some 0 ∧ ∀ y x, y < H → x < W → 0 ≤ c y x ∧ c y x ≤ 1048576) ∨ (seam_Check (tbl W H c) = some 2 ∧ ∃ y x, y < H ∧ x < W ∧ ¬ (0 ≤ c y x ∧ c y x ≤ 1048576)) := by
  unfold seam_Check
  rw [tbl_len, if_neg (by simp; omega), if_neg (by simp; omega), tbl_ix0 W c hH0, Option.bind_some, row_len, if_neg (by simp; omega), Option.bind_some, row_len, Option.bind_some, if_neg (by simp; omega)]
  have hr : ∀ y, (row W (c y)).any ok1 = false ↔ ∀ x, x < W → 0 ≤ c y x ∧ c y x ≤ 1048576 := fun y => by
    rw [List.any_eq_false]
    constructor
    · intro h x hx
      exact ok1_iff.1 (by simpa using h _ (List.mem_map.2 ⟨x, List.mem_range.2 hx, rfl⟩))
    · intro h v hv
      obtain ⟨x, hx, rfl⟩ := List.mem_map.1 hv
      simpa using ok1_iff.2 (h x (List.mem_range.1 hx))
  have hcf : ∀ y, slices_ContainsFunc_sint (row W (c y)) (fun z => seam_Check_c1 z) = some ((row W (c y)).any ok1) := fun y => any_int (fun z => c1_eq z) (by rw [row_len]; omega)
  rcases loop_first (step := fun s => seam_Check_s1 (tbl W H c) s) (fun i => (i : Int)) (fun i => (row W (c i)).any ok1 = true) (fun _ => .inl 2) (.inr ()) H (s0 := 0) (by unfold FUEL; omega) rfl
    (fun i hi hp => by
      unfold seam_Check_s1
      rw [tbl_len, if_pos (by simpa using hi), tbl_ix W H c rfl hi, Option.bind_some, tbl_ix0 W c hH0, Option.bind_some, row_len, row_len, if_neg (by simp), hcf, Option.bind_some, if_neg hp, w64_id (by omega) (by omega)]
      rfl)
    (fun i hi hp _ => by
      unfold seam_Check_s1
      rw [tbl_len, if_pos (by simpa using hi), tbl_ix W H c rfl hi, Option.bind_some, tbl_ix0 W c hH0, Option.bind_some, row_len, row_len, if_neg (by simp), hcf, Option.bind_some, if_pos hp])
    (by unfold seam_Check_s1; rw [tbl_len, if_neg (by simp)]) with ⟨ha, hl⟩ | ⟨i, h1, h2, h3, hl⟩
  · refine .inl ⟨by rw [hl]; rfl, fun y x hy hx => (hr y).1 (by simpa using ha y hy) x hx⟩
  · refine .inr ⟨by rw [hl]; rfl, ?_⟩
    refine Classical.byContradiction fun hn => ?_
    have : (row W (c i)).any ok1 = false := (hr i).2 fun x hx => Classical.byContradiction fun hq => hn ⟨i, x, h1, hx, hq⟩
    rw [h2] at this
    cases this

theorem check_few {t : List (List Int)} (hf : few t = true) :
    (∃ W H c, t = tbl W H c ∧ 0 < W ∧ W ≤ 7 ∧ 0 < H ∧ H ≤ 7 ∧ CB W c ∧ seam_Check t = some 0) ∨ ∃ k, k ≠ 0 ∧ seam_Check t = some k := by
  obtain ⟨f1, f2⟩ := few_iff hf
  by_cases h0 : t.length < 1
  · refine .inr ⟨3, by decide, ?_⟩
    unfold seam_Check
    rw [if_pos (by simp; omega)]
    rfl
  have e0 : ix t (0 : Int) = some (t[0]'(by omega)) := ix_lt t 0 (by omega)
  have hw := f2 _ (List.getElem_mem (show 0 < t.length by omega))
  by_cases h1 : (t[0]'(by omega)).length < 1
  · refine .inr ⟨3, by decide, ?_⟩
    unfold seam_Check
    rw [if_neg (by simp; omega), if_neg (by simp; omega), e0, Option.bind_some, if_pos (by simp; omega)]
    rfl
  by_cases hs : ∀ r ∈ t, r.length = (t[0]'(by omega)).length
  · have ht := tbl_of t hs
    have hc := check_tab (W := (t[0]'(by omega)).length) (H := t.length) (by omega) (by omega) (by omega) (by omega) (fun y x => (t.getD y []).getD x 0)
    rw [← ht] at hc
    rcases hc with ⟨q1, q2⟩ | ⟨q1, _⟩
    · refine .inl ⟨_, _, _, ht, by omega, hw, by omega, f1, fun y x hx => ?_, q1⟩
      by_cases hy : y < t.length
      · exact q2 y x hy hx
      · simp [hy]
    · exact .inr ⟨2, by decide, q1⟩
  · right
    unfold seam_Check
    rw [if_neg (by simp; omega), if_neg (by simp; omega), e0, Option.bind_some, if_neg (by simp; omega), Option.bind_some, Option.bind_some, if_neg (by simp; omega)]
    have hcf : ∀ r ∈ t, slices_ContainsFunc_sint r (fun z => seam_Check_c1 z) = some (r.any ok1) := fun r hr => any_int (fun z => c1_eq z) (by have := f2 r hr; omega)
    rcases loop_first (step := fun s => seam_Check_s1 t s) (fun i => (i : Int)) (fun i => ∃ h : i < t.length, (t[i]).length ≠ (t[0]'(by omega)).length ∨ (t[i]).any ok1 = true) (fun i => .inl (if (t.getD i []).length ≠ (t[0]'(by omega)).length then 4 else 2)) (.inr ()) t.length (s0 := 0) (by unfold FUEL; omega) rfl
      (fun i hi hp => by
        have hq : (t[i]).length = (t[0]'(by omega)).length := Classical.byContradiction fun hn => hp ⟨hi, .inl hn⟩
        have hq2 : ¬ (t[i]).any ok1 = true := fun hn => hp ⟨hi, .inr hn⟩
        unfold seam_Check_s1
        rw [if_pos (by simpa using hi), ix_lt t i hi, Option.bind_some, e0, Option.bind_some, if_neg (by simp [hq]), hcf _ (List.getElem_mem hi), Option.bind_some, if_neg hq2, w64_id (by omega) (by omega)]
        rfl)
      (fun i hi hp _ => by
        obtain ⟨_, hp⟩ := hp
        unfold seam_Check_s1
        rw [if_pos (by simpa using hi), ix_lt t i hi, Option.bind_some, e0, Option.bind_some, getD_eq hi]
        by_cases hq : (t[i]).length = (t[0]'(by omega)).length
        · rw [if_neg (by simp [hq]), hcf _ (List.getElem_mem hi), Option.bind_some, if_pos (hp.resolve_left (fun h => h hq)), if_neg (fun h => h hq)]
        · rw [if_pos (by simp only [bne_iff_ne, ne_eq]; omega), if_pos hq])
      (by unfold seam_Check_s1; rw [if_neg (by simp)]) with ⟨ha, hl⟩ | ⟨i, q1, q2, q3, hl⟩
    · exfalso
      refine hs fun r hr => ?_
      obtain ⟨i, hi⟩ := List.getElem?_of_mem hr
      obtain ⟨hi1, rfl⟩ := List.getElem?_eq_some_iff.1 hi
      exact Classical.byContradiction fun hn => ha i hi1 ⟨hi1, .inl hn⟩
    · refine ⟨_, ?_, by rw [hl]; rfl⟩
      split <;> decide

def cg (l : List Int) (y : Nat) : Int := l.getD y 0

def bad (W : Nat) (l : List Int) (y : Nat) : Prop := cg l y < 0 ∨ (W : Int) ≤ cg l y ∨ (0 < y ∧ (cg l y < cg l (y - 1) - 1 ∨ cg l (y - 1) + 1 < cg l y))

def cr (l : List Int) (y : Nat) : Nat := (cg l y).toNat

def Sm1 (W H : Nat) (l : List Int) : Prop := l.length = H ∧ ∀ y, y < H → ¬ bad W l y

theorem Sm1.seam {W H : Nat} {l : List Int} (h : Sm1 W H l) : IsSeam W H (cr l) := by
  refine ⟨fun y hy => ?_, fun y hy => ?_⟩
  · have := h.2 y hy
    unfold bad at this
    unfold cr
    omega
  · have h1 := h.2 y (by omega)
    have h2 := h.2 (y + 1) hy
    unfold bad at h1 h2
    rw [Nat.add_sub_cancel] at h2
    unfold cr
    omega

theorem cg_ix {l : List Int} {y : Nat} {z : Int} (hz : z = y) (hy : y < l.length) : ix l z = some (cg l y) := ix_getD hz hy 0

theorem Sm1.row {W H : Nat} {r : Nat → Nat} (h : IsSeam W H r) : Sm1 W H (row H (fun y => (r y : Int))) := by
  have hg : ∀ y, y < H → cg (Go.E.row H (fun y => (r y : Int))) y = r y := fun y hy => by
    unfold cg
    rw [List.getD_eq_getElem?_getD, row_get _ _ hy]; rfl
  refine ⟨row_len _ _, fun y hy => ?_⟩
  unfold bad
  rw [hg y hy]
  have h1 := h.1 y hy
  rintro (h2 | h2 | ⟨h2, h3⟩)
  · omega
  · omega
  · rw [hg (y - 1) (by omega)] at h3
    have h4 := h.2 (y - 1) (by omega)
    rw [show y - 1 + 1 = y by omega] at h4
    omega

theorem cr_row {H : Nat} {r : Nat → Nat} {y : Nat} (hy : y < H) : cr (row H (fun y => (r y : Int))) y = r y := by
  unfold cr cg
  rw [List.getD_eq_getElem?_getD, row_get _ _ hy]
  show ((r y : Int)).toNat = _
  omega

theorem badE_step {W H : Nat} (hH0 : 0 < H) {c : Nat → Nat → Int} {l : List Int} {i : Nat} (hl : l.length = H) (hi : i < H) (hg : ∀ j, j < i → ¬ bad W l j) (hW : W ≤ 1000) (hH : H ≤ 1000) :
    ((if decide (cg l i < 0) = true then some true else (ix (tbl W H c) (i : Int)).bind fun v_8 => (if decide ((v_8.length : Int) ≤ cg l i) = true then some true else (if decide (0 < (i : Int)) = true then (ix l (w64 ((i : Int) - 1))).bind fun v_9 => (if decide (cg l i < (w64 (v_9 - 1))) = true then some true else (ix l (w64 ((i : Int) - 1))).bind fun v_10 => some (decide ((w64 (v_10 + 1)) < cg l i))) else some false))) = some true ∧ bad W l i) ∨
    ((if decide (cg l i < 0) = true then some true else (ix (tbl W H c) (i : Int)).bind fun v_8 => (if decide ((v_8.length : Int) ≤ cg l i) = true then some true else (if decide (0 < (i : Int)) = true then (ix l (w64 ((i : Int) - 1))).bind fun v_9 => (if decide (cg l i < (w64 (v_9 - 1))) = true then some true else (ix l (w64 ((i : Int) - 1))).bind fun v_10 => some (decide ((w64 (v_10 + 1)) < cg l i))) else some false))) = some false ∧ ¬ bad W l i) := by
  unfold bad
  by_cases h1 : cg l i < 0
  · rw [if_pos (decide_eq_true h1)]; exact .inl ⟨rfl, .inl h1⟩
  rw [if_neg (by simpa using h1), tbl_ix W H c rfl hi, Option.bind_some, row_len]
  by_cases h2 : (W : Int) ≤ cg l i
  · rw [if_pos (decide_eq_true h2)]; exact .inl ⟨rfl, .inr (.inl h2)⟩
  rw [if_neg (by simpa using h2)]
  by_cases h3 : 0 < i
  · have hp := hg (i - 1) (by omega)
    unfold bad at hp
    rw [if_pos (by simpa using h3), w64_id (z := (i : Int) - 1) (by omega) (by omega), cg_ix (y := i - 1) (by omega) (by omega), Option.bind_some, w64_id (z := cg l (i - 1) - 1) (by omega) (by omega)]
    by_cases h4 : cg l i < cg l (i - 1) - 1
    · rw [if_pos (decide_eq_true h4)]; exact .inl ⟨rfl, .inr (.inr ⟨h3, .inl h4⟩)⟩
    rw [if_neg (by simpa using h4), Option.bind_some, w64_id (by omega) (by omega)]
    by_cases h5 : cg l (i - 1) + 1 < cg l i
    · rw [decide_eq_true h5]; exact .inl ⟨rfl, .inr (.inr ⟨h3, .inr h5⟩)⟩
    · rw [decide_eq_false h5]; exact .inr ⟨rfl, by omega⟩
  · rw [if_neg (by simpa using h3)]
    exact .inr ⟨rfl, by omega⟩

theorem ss_small {W : Nat} {c : Nat → Nat → Int} (hb : Bnd W c) {r : Nat → Nat} {n : Nat} (hn : n ≤ 1000) (hr : ∀ y, y < n → r y < W) : 0 ≤ ss c r n ∧ ss c r n ≤ 1099511627776000 := by
  have h := ss_bound (c := c) (r := r) (K := 1099511627776) n (fun y hy => hb y _ (hr y hy))
  have e : (n : Int) * 1099511627776 ≤ 1000 * 1099511627776 := Int.mul_le_mul_of_nonneg_right (by omega) (by omega)
  omega

theorem cr_lt {W : Nat} {l : List Int} {y : Nat} (h : ¬ bad W l y) : cr l y < W ∧ cg l y = (cr l y : Int) := by
  unfold bad at h
  unfold cr
  omega

theorem total_eq {W H : Nat} (hW0 : 0 < W) (hH0 : 0 < H) (hW : W ≤ 1000) (hH : H ≤ 1000) {c : Nat → Nat → Int} (hb : Bnd W c) (l : List Int) :
    (Sm1 W H l ∧ seam_total (tbl W H c) l = some (ss c (cr l) H, true)) ∨ (¬ Sm1 W H l ∧ seam_total (tbl W H c) l = some (0, false)) := by
  unfold seam_total
  rw [tbl_len]
  by_cases hl : l.length = H
  · rw [if_neg (by simp [hl])]
    rcases loop_first (step := fun s : Int × Int => seam_total_s1 (tbl W H c) l s.1 s.2) (fun i => (ss c (cr l) i, (i : Int))) (fun i => ∃ j, j ≤ i ∧ bad W l j) (fun _ => .inl (0, false)) (.inr (ss c (cr l) H)) H (s0 := (0, 0)) (by unfold FUEL; omega) rfl
      (fun i hi hp => by
        show seam_total_s1 (tbl W H c) l (ss c (cr l) i) (i : Int) = _
        have hall : ∀ j, j ≤ i → ¬ bad W l j := fun j hj hb => hp ⟨j, hj, hb⟩
        have hc := cr_lt (hall i (Nat.le_refl _))
        unfold seam_total_s1
        rw [if_pos (by simp; omega), cg_ix rfl (by omega), Option.bind_some]
        rcases badE_step (c := c) hH0 hl hi (fun j hj => hall j (by omega)) hW hH with ⟨_, hbad⟩ | ⟨he, _⟩
        · exact absurd hbad (hall i (Nat.le_refl _))
        · have hs := ss_small hb (n := i + 1) (by omega) (fun y hy => (cr_lt (hall y (by omega))).1)
          rw [he, Option.bind_some, if_neg (by decide), tbl_ix W H c rfl hi, Option.bind_some, row_ix W _ hc.2 hc.1, Option.bind_some]
          simp only [ss] at hs
          rw [w64_id (by omega) (by omega), w64_id (by omega) (by omega)]
          rfl)
      (fun i hi hp hj => by
        show seam_total_s1 (tbl W H c) l (ss c (cr l) i) (i : Int) = _
        have hall : ∀ j, j < i → ¬ bad W l j := fun j hji hb => hj j hji ⟨j, Nat.le_refl _, hb⟩
        have hbi : bad W l i := by
          obtain ⟨j, h1, h2⟩ := hp
          by_cases hq : j = i
          · exact hq ▸ h2
          · exact absurd h2 (hall j (by omega))
        unfold seam_total_s1
        rw [if_pos (by simp; omega), cg_ix rfl (by omega), Option.bind_some]
        rcases badE_step (c := c) hH0 hl hi hall hW hH with ⟨he, _⟩ | ⟨_, hn⟩
        · rw [he]; rfl
        · exact absurd hbi hn)
      (by
        show seam_total_s1 (tbl W H c) l (ss c (cr l) H) (H : Int) = _
        unfold seam_total_s1
        rw [if_neg (by simp; omega)]) with ⟨ha, hL⟩ | ⟨i, h1, ⟨j, h2, h3⟩, _, hL⟩
    · refine .inl ⟨⟨hl, fun y hy hb => ha y hy ⟨y, Nat.le_refl _, hb⟩⟩, ?_⟩
      rw [hL]; rfl
    · refine .inr ⟨fun h => h.2 j (by omega) h3, ?_⟩
      rw [hL]; rfl
  · rw [if_pos (by simp only [bne_iff_ne, ne_eq]; omega)]
    exact .inr ⟨fun h => hl h.1, rfl⟩

theorem al_true {W H : Nat} (c : Nat → Nat → Int) : al (fun _ _ => true) c = c := by
  funext y x
  simp [al]

theorem find_ok {W H : Nat} (hW0 : 0 < W) (hH0 : 0 < H) (hW : W ≤ 64) (hH : H ≤ 64) {c : Nat → Nat → Int} (hb : Bnd W c) (hc : seam_Check (tbl W H c) = some 0) :
    seam_Find (tbl W H c) = some (colL c W H H, lt c W H, tbl W H (Dn c W), 0) := by
  unfold seam_Find
  rw [hc, Option.bind_some, if_neg (by decide), first_eq (A := fun _ _ => true) hW0 hH0 (by omega) (by omega) hb (fun y x _ _ => rfl), al_true (W := W) (H := H), Option.bind_some]
  show ((seam_downward (tbl W H c)).bind fun y_6 => some (colL c W H H, lt c W H, y_6, (0 : Int))) = _
  rw [down_eq hW0 hH0 (by omega) (by omega) hb]
  rfl

theorem find_bad {t : List (List Int)} {k : Int} (hk : k ≠ 0) (hc : seam_Check t = some k) : seam_Find t = some ([], 0, [], k) := by
  unfold seam_Find
  rw [hc, Option.bind_some, if_pos (by simpa using hk)]

def pg (W : Nat) (c p : Nat → Nat → Int) (y x : Nat) : Prop := match y with
  | 0 => p 0 x ≤ c 0 x
  | y + 1 => p (y + 1) x ≤ nb W (p y) x + c (y + 1) x

def pP (t : List (List Int)) : Nat → Nat → Int := fun y x => (t.getD y []).getD x 0

def rg (W : Nat) (c : Nat → Nat → Int) (t : List (List Int)) (y : Nat) : Prop := (t.getD y []).length = W ∧ ∀ x, x < W → pg W c (pP t) y x

def Pot (W H : Nat) (c : Nat → Nat → Int) (t : List (List Int)) : Prop := t.length = H ∧ ∀ y, y < H → rg W c t y

theorem row_pP {t : List (List Int)} {y W : Nat} (h : (t.getD y []).length = W) : t.getD y [] = row W (pP t y) := by
  have := row_of (t.getD y [])
  rw [h] at this
  exact this

def I64 (t : List (List Int)) : Prop := ∀ r ∈ t, ∀ v ∈ r, -9223372036854775808 ≤ v ∧ v ≤ 9223372036854775807

theorem I64.pP {t : List (List Int)} (h : I64 t) (y x : Nat) : -9223372036854775808 ≤ pP t y x ∧ pP t y x ≤ 9223372036854775807 := by
  unfold Go.Proofs.Ytbolefkhmfbnlaa.pP
  by_cases hy : y < t.length
  · by_cases hx : x < (t.getD y []).length
    · rw [getD_eq hx]
      refine h _ ?_ _ (List.getElem_mem hx)
      rw [getD_eq hy]
      exact List.getElem_mem hy
    · simp only [List.getD_eq_getElem?_getD] at hx ⊢
      rw [List.getElem?_eq_none (by omega)]
      simp
  · simp [hy]

theorem ix_t0 {t : List (List Int)} (h : 0 < t.length) : ix t 0 = some (t.getD 0 []) := ix_getD (i := 0) (z := 0) rfl h []

theorem min_row {W : Nat} (hW0 : 0 < W) (hW : W ≤ 1000) (f : Nat → Int) : slices_Min_sint (row W f) = some (mn f 0 (W - 1)) := by
  obtain ⟨M, h1, h2, h3⟩ := min_spec (xs := row W f) (fun h => by have := row_len W f; rw [h] at this; simp at this; omega) (by rw [row_len]; omega)
  rw [h1]
  congr 1
  obtain ⟨z, hz, rfl⟩ := List.mem_map.1 h2
  have hz := List.mem_range.1 hz
  exact mn_uniq _ _ _ _ ⟨z, by omega, by omega, rfl⟩ fun z' _ r2 => h3 _ (List.mem_map.2 ⟨z', List.mem_range.2 (by omega), rfl⟩)

def Pr50 (W H : Nat) (c : Nat → Nat → Int) (l : List Int) (n : Int) (t : List (List Int)) : Prop :=
  Sm1 W H l ∧ ss c (cr l) H = n ∧ Pot W H c t ∧ n ≤ mn (pP t (H - 1)) 0 (W - 1)

def mixf (f g : Nat → Int) (x : Nat) : Nat → Int := fun z => if z < x then g z else f z

theorem mixf_set {W : Nat} (f g : Nat → Int) {x : Nat} (hx : x < W) : (row W (mixf f g x)).set x (g x) = row W (mixf f g (x + 1)) := by
  apply List.ext_getElem?
  intro z
  rw [List.getElem?_set]
  by_cases hz : z < W
  · rw [row_get _ _ hz, row_get _ _ hz, row_len]
    by_cases hq : x = z
    · subst hq
      rw [if_pos rfl, if_pos hx]
      unfold mixf
      rw [if_pos (by omega)]
    · rw [if_neg hq]
      unfold mixf
      by_cases h1 : z < x
      · rw [if_pos h1, if_pos (by omega)]
      · rw [if_neg h1, if_neg (by omega)]
  · rw [if_neg (by omega), List.getElem?_eq_none (by rw [row_len]; omega), List.getElem?_eq_none (by rw [row_len]; omega)]

theorem mixf_same {W : Nat} (f g : Nat → Int) {x : Nat} (h : g x = f x) : row W (mixf f g x) = row W (mixf f g (x + 1)) := row_congr fun z hz => by
  unfold mixf
  by_cases h1 : z < x
  · rw [if_pos h1, if_pos (by omega)]
  · rw [if_neg h1]
    by_cases h2 : z = x
    · subst h2; rw [if_pos (by omega), h]
    · rw [if_neg (by omega)]

theorem mixf_at (f g : Nat → Int) (x : Nat) : mixf f g x x = f x := by unfold mixf; rw [if_neg (by omega)]

theorem setrow {W : Nat} (hW : W ≤ 1000) {f g : Nat → Int} {step : List Int × Int → Option (Step (List Int × Int) (List Int))} (h : ∀ x : Nat, x < W → step (row W (mixf f g x), (x : Int)) = some (.next (row W (mixf f g (x + 1)), ((x + 1 : Nat) : Int)))) (hd : ∀ l, step (l, (W : Int)) = some (.done l)) :
    loopM FUEL step (row W f, 0) = some (row W g) := by
  refine loop_go (fun i => (row W (mixf f g i), (i : Int))) W (by unfold FUEL; omega) ?_ (fun i hi => h i hi) ?_
  · show (row W f, (0 : Int)) = (row W (mixf f g 0), ((0 : Nat) : Int))
    rw [show row W f = row W (mixf f g 0) from row_congr fun z _ => by unfold mixf; rw [if_neg (by omega)]]
    rfl
  · rw [hd, show row W (mixf f g W) = row W g from row_congr fun z hz => by unfold mixf; rw [if_pos hz]]

def lessC (c : Nat → Nat → Int) (t : List (List Int)) : Nat → Nat → Int := fun y x =>
  if y < t.length ∧ x < (t.getD y []).length ∧ 0 ≤ pP t y x then (if pP t y x < c y x then pP t y x else c y x) else c y x

theorem lessC_le (c : Nat → Nat → Int) (t : List (List Int)) (y x : Nat) : lessC c t y x ≤ c y x := by
  unfold lessC
  split
  · split <;> omega
  · omega

theorem lessC_CB {W : Nat} {c : Nat → Nat → Int} (h : CB W c) (t : List (List Int)) : CB W (lessC c t) := fun y x hx => by
  have h1 := lessC_le c t y x
  have h2 := h y x hx
  refine ⟨?_, by omega⟩
  unfold lessC
  split
  · split <;> omega
  · omega

theorem check_cb {W H : Nat} (hW0 : 0 < W) (hH0 : 0 < H) (hW : W ≤ 64) (hH : H ≤ 64) {c : Nat → Nat → Int} (h : CB W c) : seam_Check (tbl W H c) = some 0 := by
  rcases check_tab hW0 hH0 hW hH c with ⟨e, _⟩ | ⟨_, y, x, h1, h2, h3⟩
  · exact e
  · exact absurd (h y x h2) h3

def raise (c : Nat → Nat → Int) (j : Nat) (b : Int) : Nat → Nat → Int := fun y x => if y = j then c y x + b else c y x

def flip (c : Nat → Nat → Int) (W : Nat) : Nat → Nat → Int := fun y x => c y (W - 1 - x)

theorem Bl_raise {c : Nat → Nat → Int} {W j : Nat} {b : Int} : ∀ (n y x : Nat), x < W → Bl (raise c j b) W n y x = Bl c W n y x + (if y ≤ j ∧ j ≤ y + n then b else 0)
  | 0, y, x, hx => by
    simp only [Bl, raise]
    by_cases h : y = j
    · rw [if_pos h, if_pos (by omega)]
    · rw [if_neg h, if_neg (by omega)]; omega
  | n + 1, y, x, hx => by
    simp only [Bl]
    rw [nb_congr (f := Bl c W n (y + 1)) hx (fun z hz => Bl_raise n (y + 1) z hz)]
    unfold raise
    by_cases h : y = j
    · rw [if_pos h, if_neg (by omega), if_pos (by omega)]; omega
    · rw [if_neg h]
      by_cases h2 : y + 1 ≤ j ∧ j ≤ y + 1 + n
      · rw [if_pos h2, if_pos (by omega)]; omega
      · rw [if_neg h2, if_neg (by omega)]; omega

theorem col_raise {c : Nat → Nat → Int} {W H j : Nat} {b : Int} (hW : 0 < W) : ∀ y, col (raise c j b) W H y = col c W H y
  | 0 => am_congr fun z _ h2 => Bl_raise (H - 1) 0 z (by omega)
  | y + 1 => by
    have ih := col_raise (c := c) (H := H) (j := j) (b := b) hW y
    simp only [col]
    rw [ih]
    exact am_congr fun z h1 h2 => Bl_raise _ _ z ((wd_iff (col_lt c hW H y)).1 ⟨h1, h2⟩).1

theorem lt_raise {c : Nat → Nat → Int} {W H j : Nat} {b : Int} (hW : 0 < W) (hj : j < H) : lt (raise c j b) W H = lt c W H + b := by
  unfold lt
  rw [col_raise hW, Bl_raise _ _ _ (col_lt c hW H 0), if_pos (by omega)]

theorem flip_seam {W H : Nat} {r : Nat → Nat} (h : IsSeam W H r) : IsSeam W H (fun y => W - 1 - r y) := by
  refine ⟨fun y hy => by have := h.1 y hy; show W - 1 - r y < W; omega, fun y hy => ?_⟩
  have h1 := h.1 y (by omega)
  have h2 := h.1 (y + 1) hy
  have h3 := h.2 y hy
  dsimp only
  omega

theorem lt_flip {c : Nat → Nat → Int} {W H : Nat} (hW : 0 < W) (hH : 0 < H) : lt (flip c W) W H = lt c W H := by
  have a1 := lt_le (flip c W) hH (flip_seam (col_seam c hW H))
  have a2 : ss (flip c W) (fun y => W - 1 - col c W H y) H = ss c (col c W H) H := ss_eq H fun y hy => by
    have := col_lt c hW H y
    unfold flip
    rw [show W - 1 - (W - 1 - col c W H y) = col c W H y by omega]
  have a3 := lt_le c hH (flip_seam (col_seam (flip c W) hW H))
  have a4 : ss c (fun y => W - 1 - col (flip c W) W H y) H = ss (flip c W) (col (flip c W) W H) H := ss_eq H fun y hy => rfl
  rw [a2, col_total c hW hH] at a1
  rw [a4, col_total (flip c W) hW hH] at a3
  omega

def half (f : Nat → Int) (W k : Nat) : Nat → Int := fun z => if z < k ∨ W - 1 - k < z then f (W - 1 - z) else f z

def dnT (W H : Nat) (F : Nat → Nat → Int) (i : Nat) : List (List Int) := (List.range H).map fun y => if y < i then row W (F y) else []

theorem dnT_len (W H : Nat) (F : Nat → Nat → Int) (i : Nat) : (dnT W H F i).length = H := by simp [dnT]

theorem dnT_get (W H : Nat) (F : Nat → Nat → Int) (i : Nat) {y : Nat} (hy : y < H) : (dnT W H F i)[y]? = some (if y < i then row W (F y) else []) := by simp [dnT, hy]

theorem tab_loop {W H : Nat} (hW : W ≤ 1000) (hH : H ≤ 1000) (F : Nat → Nat → Int) (step1 : List (List Int) × Int → Option (Step (List (List Int) × Int) (List (List Int)))) (step2 : Nat → List (List Int) × Int → Option (Step (List (List Int) × Int) (List (List Int))))
    (h1 : ∀ (y : Nat) l r, y < H → loopM FUEL (step2 y) (l, 0) = some r → step1 (l, (y : Int)) = some (.next (r, ((y + 1 : Nat) : Int))))
    (h1d : ∀ l, step1 (l, (H : Int)) = some (.done l))
    (h2 : ∀ (y x : Nat) l, y < H → x < W → l.length = H → l[y]? = some (row x (F y)) → step2 y (l, (x : Int)) = some (.next (l.set y (row (x + 1) (F y)), ((x + 1 : Nat) : Int))))
    (h2d : ∀ (y : Nat) l, y < H → step2 y (l, (W : Int)) = some (.done l)) :
    loopM FUEL step1 (List.replicate H [], 0) = some (tbl W H F) := by
  refine loop_go (fun i => (dnT W H F i, (i : Int))) H (by unfold FUEL; omega) ?_ (fun i hi => ?_) ?_
  · have e : List.replicate H [] = dnT W H F 0 := by
      apply List.ext_getElem?
      intro y
      by_cases hy : y < H
      · rw [dnT_get _ _ _ _ hy, if_neg (by omega), List.getElem?_replicate, if_pos hy]
      · rw [List.getElem?_eq_none (by simp; omega), List.getElem?_eq_none (by rw [dnT_len]; omega)]
    rw [e]
    rfl
  · have hl : loopM FUEL (step2 i) (dnT W H F i, 0) = some (dnT W H F (i + 1)) := by
      refine loop_go (fun x => ((dnT W H F i).set i (row x (F i)), (x : Int))) W (by unfold FUEL; omega) ?_ (fun x hx => ?_) ?_
      · have e : dnT W H F i = (dnT W H F i).set i (row 0 (F i)) := by
          apply List.ext_getElem?
          intro y
          rw [List.getElem?_set]
          split
          · subst y
            rw [dnT_get _ _ _ _ hi, if_neg (by omega), if_pos (by rw [dnT_len]; omega)]
            rfl
          · rfl
        rw [← e]
        rfl
      · show step2 i (_, (x : Int)) = _
        rw [h2 i x _ hi hx (by rw [List.length_set, dnT_len]) (by rw [List.getElem?_set_self (by rw [dnT_len]; omega)]), List.set_set]
      · show step2 i (_, (W : Int)) = _
        rw [h2d _ _ hi]
        congr 2
        apply List.ext_getElem?
        intro y
        rw [List.getElem?_set]
        split
        · subst y
          rw [if_pos (by rw [dnT_len]; omega), dnT_get _ _ _ _ hi, if_pos (by omega)]
        · by_cases hy : y < H
          · rw [dnT_get _ _ _ _ hy, dnT_get _ _ _ _ hy]
            by_cases hq : y < i
            · rw [if_pos hq, if_pos (by omega)]
            · rw [if_neg hq, if_neg (by omega)]
          · rw [List.getElem?_eq_none (by rw [dnT_len]; omega), List.getElem?_eq_none (by rw [dnT_len]; omega)]
    show step1 (dnT W H F i, (i : Int)) = _
    rw [h1 _ _ _ hi hl]
  · show step1 (dnT W H F H, (H : Int)) = _
    rw [h1d]
    congr 2
    apply List.ext_getElem?
    intro y
    by_cases hy : y < H
    · rw [dnT_get _ _ _ _ hy, if_pos hy, tbl_get _ _ _ hy]
    · rw [List.getElem?_eq_none (by rw [dnT_len]; omega), List.getElem?_eq_none (by rw [tbl_len]; omega)]

theorem good_small {w h m : Int} {px : List Int} (hg : Good w h m px) : px.length ≤ 4096 := by
  obtain ⟨g1, g2, g3, g4, g5, g6, g7, g8⟩ := hg
  have := (mul_le64 (w := w) (h := h) (by omega) g2 (by omega) g4).2
  omega

def dif (ga gb : Nat → Int) (W : Nat) : Nat → Nat → Int := fun y x => if ga (y * W + x) < gb (y * W + x) then gb (y * W + x) - ga (y * W + x) else ga (y * W + x) - gb (y * W + x)

def B16 (g : Nat → Int) : Prop := ∀ i, 0 ≤ g i ∧ g i ≤ 65535

theorem cell_in {W H x y : Nat} (hx : x < W) (hy : y < H) : y * W + x < H * W := by
  have := Nat.mul_le_mul_right W (show y + 1 ≤ H by omega)
  rw [Nat.add_mul] at this
  omega

theorem cell_w64 {W y x : Nat} (hW : W ≤ 64) (hy : y < 64) (hx : x < W) : w64 (w64 ((y : Int) * (W : Int)) + (x : Int)) = ((y * W + x : Nat) : Int) := by
  have h1 : y * W ≤ 64 * 64 := Nat.mul_le_mul (by omega) hW
  rw [show (y : Int) * (W : Int) = ((y * W : Nat) : Int) by push_cast; rfl, w64_id (z := ((y * W : Nat) : Int)) (by omega) (by omega), w64_id (by omega) (by omega)]
  push_cast
  rfl

theorem costs_eq {W H : Nat} {ga gb : Nat → Int} (hW : W ≤ 64) (hH : H ≤ 64) (ba : B16 ga) (bb : B16 gb) {m w' h' m' : Int} (hm : seam_matched W H m (row (H * W) ga) w' h' m' (row (H * W) gb) = some 0) :
    seam_Costs W H m (row (H * W) ga) w' h' m' (row (H * W) gb) = some (tbl W H (dif ga gb W), 0) := by
  unfold seam_Costs
  rw [hm, Option.bind_some, if_neg (by decide), chk_pos (by omega), show ((H : Int)).toNat = H by omega]
  have : loopM FUEL (fun s : List (List Int) × Int => seam_Costs_s1 (W : Int) (H : Int) (row (H * W) ga) (row (H * W) gb) s.1 s.2) (List.replicate H [], 0) = some (tbl W H (dif ga gb W)) := by
    refine tab_loop (by omega) (by omega) _ _ (fun y s => seam_Costs_s2 (W : Int) (row (H * W) ga) (row (H * W) gb) (y : Int) s.1 s.2) (fun y l r hy hr => ?_) (fun l => ?_) (fun y x l hy hx hl h1 => ?_) (fun y l hy => ?_)
    · show seam_Costs_s1 (W : Int) (H : Int) (row (H * W) ga) (row (H * W) gb) l (y : Int) = _
      unfold seam_Costs_s1
      rw [show ((H : Int)).toNat = H by omega, List.length_replicate, if_pos (by simpa using hy), hr, Option.bind_some, w64_id (by omega) (by omega)]
      rfl
    · show seam_Costs_s1 (W : Int) (H : Int) (row (H * W) ga) (row (H * W) gb) l (H : Int) = _
      unfold seam_Costs_s1
      rw [show ((H : Int)).toNat = H by omega, List.length_replicate, if_neg (by simp)]
    · show seam_Costs_s2 (W : Int) (row (H * W) ga) (row (H * W) gb) (y : Int) l (x : Int) = _
      unfold seam_Costs_s2
      have q1 := ba (y * W + x)
      have q2 := bb (y * W + x)
      rw [if_pos (by simpa using hx), cell_w64 hW (by omega) hx, row_ix _ _ rfl (cell_in hx hy), Option.bind_some, row_ix _ _ rfl (cell_in hx hy), Option.bind_some, ix_get rfl h1, Option.bind_some, row_len, chk_pos (by omega), chk_pos (by omega), w64_id (z := ga (y * W + x) - gb (y * W + x)) (by omega) (by omega), w64_id (z := 0 - (ga (y * W + x) - gb (y * W + x))) (by omega) (by omega), w64_id (by omega) (by omega)]
      have e : (if ga (y * W + x) - gb (y * W + x) < 0 - (ga (y * W + x) - gb (y * W + x)) then 0 - (ga (y * W + x) - gb (y * W + x)) else ga (y * W + x) - gb (y * W + x)) = dif ga gb W y x := by
        unfold dif
        split <;> split <;> omega
      rw [e, row_succ]
      rfl
    · show seam_Costs_s2 (W : Int) (row (H * W) ga) (row (H * W) gb) (y : Int) l (W : Int) = _
      unfold seam_Costs_s2
      rw [if_neg (by simp)]
  rw [this]
  rfl

def mosF (ga gb : Nat → Int) (l : List Int) (W : Nat) : Nat → Int := fun j => if ((j % W : Nat) : Int) < cg l (j / W) then ga j else gb j

def mosI (ga gb : Nat → Int) (l : List Int) (W i : Nat) : Nat → Int := fun j => if j / W < i then mosF ga gb l W j else gb j

theorem cpy_row {N lo n q : Nat} (f g : Nat → Int) (h1 : lo + n ≤ N) (hq : n ≤ q) : cpy (row N f) lo q (((row N g).take (lo + n)).drop lo) = row N (fun j => if lo ≤ j ∧ j < lo + n then g j else f j) := by
  have hl : (((row N g).take (lo + n)).drop lo).length = n := by rw [List.length_drop, List.length_take, row_len]; omega
  unfold cpy
  rw [hl, Nat.min_eq_left hq]
  apply List.ext_getElem?
  intro j
  have t1 : (row N f).take lo = row lo f := by
    apply List.ext_getElem?
    intro i
    rw [List.getElem?_take]
    by_cases hi : i < lo
    · rw [if_pos hi, row_get _ _ (by omega), row_get _ _ hi]
    · rw [if_neg hi, List.getElem?_eq_none (by rw [row_len]; omega)]
  by_cases hj : j < N
  · rw [row_get _ _ hj]
    by_cases a1 : j < lo
    · rw [List.append_assoc, List.getElem?_append_left (by rw [t1, row_len]; exact a1), t1, row_get _ _ a1, if_neg (by omega)]
    · rw [List.append_assoc, List.getElem?_append_right (by rw [t1, row_len]; omega), t1, row_len]
      by_cases a2 : j < lo + n
      · rw [List.getElem?_append_left (by rw [List.length_take, hl]; omega), List.getElem?_take, if_pos (by omega), List.getElem?_drop, List.getElem?_take, if_pos (by omega), show lo + (j - lo) = j by omega, row_get _ _ hj, if_pos (by omega)]
      · rw [List.getElem?_append_right (by rw [List.length_take, hl]; omega), List.length_take, hl, List.getElem?_drop, show lo + n + (j - lo - min n n) = j by omega, row_get _ _ hj, if_neg (by omega)]
  · rw [List.getElem?_eq_none (by simp only [List.length_append, List.length_take, List.length_drop, row_len]; omega), List.getElem?_eq_none (by rw [row_len]; omega)]

def okc (W : Nat) (z : Int) : Bool := decide (z < 0) || decide ((W : Int) < z)

theorem mosaic_loop {W H : Nat} (hW0 : 0 < W) (hW : W ≤ 64) (hH : H ≤ 64) (ga gb : Nat → Int) {l : List Int} (hl : l.length = H) (hc : ∀ y, y < H → 0 ≤ cg l y ∧ cg l y ≤ W) :
    loopM FUEL (fun s : List Int × Int => seam_Mosaic_s1 (W : Int) (row (H * W) ga) l s.1 s.2) (row (H * W) gb, 0) = some (row (H * W) (mosF ga gb l W)) := by
  have hN : H * W ≤ 64 * 64 := Nat.mul_le_mul hH hW
  refine loop_go (fun i => (row (H * W) (mosI ga gb l W i), (i : Int))) H (by unfold FUEL; omega) ?_ (fun i hi => ?_) ?_
  · show (row (H * W) gb, (0 : Int)) = (row (H * W) (mosI ga gb l W 0), ((0 : Nat) : Int))
    rw [show row (H * W) gb = row (H * W) (mosI ga gb l W 0) from row_congr fun z _ => by unfold mosI; rw [if_neg (Nat.not_lt_zero _)]]
    rfl
  · show seam_Mosaic_s1 (W : Int) (row (H * W) ga) l (row (H * W) (mosI ga gb l W i)) (i : Int) = _
    unfold seam_Mosaic_s1
    have hci := hc i hi
    have hiW : i * W + W ≤ H * W := by
      have := Nat.mul_le_mul_right W (show i + 1 ≤ H by omega)
      rw [Nat.add_mul] at this
      omega
    have e0 : w64 ((i : Int) * (W : Int)) = ((i * W : Nat) : Int) := by
      rw [show (i : Int) * (W : Int) = ((i * W : Nat) : Int) by push_cast; rfl, w64_id (by omega) (by omega)]
    obtain ⟨n, hn⟩ : ∃ n : Nat, cg l i = n := ⟨(cg l i).toNat, by omega⟩
    rw [if_pos (by simp; omega), cg_ix rfl (by omega), Option.bind_some, e0, hn, w64_id (z := ((i * W : Nat) : Int) + (n : Int)) (by omega) (by omega), row_len, row_len, chk_pos (by omega), chk_pos (by omega), w64_id (by omega) (by omega)]
    rw [show (((i * W : Nat) : Int)).toNat = i * W by omega, show (((i * W : Nat) : Int) + (n : Int)).toNat = i * W + n by omega]
    have e1 : ((List.take (H * W) (row (H * W) (mosI ga gb l W i))).drop (i * W)).length = H * W - i * W := by rw [List.length_drop, List.length_take, row_len]; omega
    rw [e1, cpy_row _ _ (by omega) (by omega)]
    have e2 : row (H * W) (fun j => if i * W ≤ j ∧ j < i * W + n then ga j else mosI ga gb l W i j) = row (H * W) (mosI ga gb l W (i + 1)) := row_congr fun j hj => by
      have hd := Nat.div_add_mod j W
      have hm := Nat.mod_lt j hW0
      rw [Nat.mul_comm] at hd
      unfold mosI
      rcases Nat.lt_trichotomy (j / W) i with h | h | h
      · have := Nat.mul_le_mul_right W (show j / W + 1 ≤ i by omega)
        rw [Nat.add_mul] at this
        rw [if_neg (by omega), if_pos h, if_pos (by omega)]
      · rw [h] at hd
        rw [if_neg (show ¬ j / W < i by omega), if_pos (show j / W < i + 1 by omega)]
        unfold mosF
        rw [h, hn]
        by_cases hq : j % W < n
        · rw [if_pos (by omega), if_pos (by omega)]
        · rw [if_neg (by omega), if_neg (by omega)]
      · have := Nat.mul_le_mul_right W (show i + 1 ≤ j / W by omega)
        rw [Nat.add_mul] at this
        rw [if_neg (by omega), if_neg (by omega), if_neg (by omega)]
    rw [e2]
    rfl
  · show seam_Mosaic_s1 (W : Int) (row (H * W) ga) l (row (H * W) (mosI ga gb l W H)) (H : Int) = _
    unfold seam_Mosaic_s1
    rw [if_neg (by simp; omega)]
    congr 2
    refine row_congr fun j hj => ?_
    unfold mosI
    rw [if_pos (Nat.div_lt_of_lt_mul (by rw [Nat.mul_comm]; exact hj))]

theorem mc_eq (z W h m : Int) (px : List Int) : seam_Mosaic_c1 z W h m px = some (decide (z < 0) || decide (W < z)) := by
  unfold seam_Mosaic_c1
  by_cases h : z < 0
  · rw [if_pos (decide_eq_true h), decide_eq_true h]; rfl
  · rw [if_neg (by simpa using h), decide_eq_false h]; rfl

theorem good_row {w h m : Int} {px : List Int} (hg : Good w h m px) : ∃ (W H : Nat) (g : Nat → Int), w = W ∧ h = H ∧ 0 < W ∧ W ≤ 64 ∧ 0 < H ∧ H ≤ 64 ∧ px = row (H * W) g ∧ B16 g := by
  obtain ⟨g1, g2, g3, g4, g5, g6, g7, g8⟩ := hg
  obtain ⟨W, rfl⟩ : ∃ W : Nat, w = W := ⟨w.toNat, by omega⟩
  obtain ⟨H, rfl⟩ : ∃ H : Nat, h = H := ⟨h.toNat, by omega⟩
  refine ⟨W, H, fun i => px.getD i 0, rfl, rfl, by omega, by omega, by omega, by omega, ?_, fun i => ?_⟩
  · have e : px.length = H * W := by
      have : (px.length : Int) = ((W * H : Nat) : Int) := by rw [g7]; push_cast; rfl
      rw [Nat.mul_comm]
      exact Int.ofNat.inj this
    rw [← e]
    exact row_of px
  · by_cases hi : i < px.length
    · show 0 ≤ px.getD i 0 ∧ px.getD i 0 ≤ 65535
      rw [getD_eq hi]
      have := g8 _ (List.getElem_mem hi)
      omega
    · show 0 ≤ px.getD i 0 ∧ px.getD i 0 ≤ 65535
      rw [List.getD_eq_getElem?_getD, List.getElem?_eq_none (by omega)]
      decide

end Go.Proofs.Ytbolefkhmfbnlaa
