/-
  PLAIN, chapter 50: neighbours, least totals from below.
-/
import Derived.Test.YtomlpofoaokmdaaP50a
import Derived.Test.YtomlpofoaokmdaaQMin
set_option linter.unusedSimpArgs false
set_option linter.unusedVariables false
namespace Go.Proofs.Ytomlpofoaokmdaa
open Go.E

theorem near_eq {x W : Nat} (hx : x < W) (hW : W ≤ 1000) : seam_near (x : Int) (W : Int) = some (((x - 1 : Nat) : Int), ((x - 1 + wd W x : Nat) : Int)) := by
  have e := wd_top hx
  unfold seam_near
  rw [w64_id (z := (x : Int) - 1) (by omega) (by omega), w64_id (z := (x : Int) + 1) (by omega) (by omega), w64_id (z := (W : Int) - 1) (by omega) (by omega), e]
  congr 2
  · split <;> omega
  · split <;> omega

theorem least_eq {W a b : Nat} (f : Nat → Int) (hab : a ≤ b) (hb : b < W) (hW : W ≤ 1000) : seam_least (row W f) (a : Int) (b : Int) = some (mn f a (b - a)) := by
  unfold seam_least
  rw [w64_id (z := (b : Int) + 1) (by omega) (by omega)]
  rw [show ((b : Int) + 1).toNat = b + 1 by omega, show (a : Int).toNat = a by omega]
  rw [chk_pos (by rw [row_len]; omega)]
  have hm : ∀ v, v ∈ ((row W f).take (b + 1)).drop a ↔ ∃ z, a ≤ z ∧ z ≤ b ∧ f z = v := fun v => by
    constructor
    · intro hv
      obtain ⟨i, hi⟩ := List.getElem?_of_mem hv
      rw [List.getElem?_drop, List.getElem?_take] at hi
      split at hi
      · rw [row_get _ _ (by omega)] at hi
        exact ⟨a + i, by omega, by omega, Option.some.inj hi⟩
      · cases hi
    · rintro ⟨z, h1, h2, rfl⟩
      refine List.mem_of_getElem? (i := z - a) ?_
      rw [List.getElem?_drop, List.getElem?_take, if_pos (by omega), show a + (z - a) = z by omega, row_get _ _ (by omega)]
  obtain ⟨M, h1, h2, h3⟩ := min_spec (xs := ((row W f).take (b + 1)).drop a) (fun h => by
    have := (hm (f a)).2 ⟨a, by omega, hab, rfl⟩
    rw [h] at this; cases this) (by rw [List.length_drop, List.length_take, row_len]; omega)
  rw [h1]
  show some M = _
  congr 1
  obtain ⟨z, q1, q2, q3⟩ := (hm M).1 h2
  exact mn_uniq f a (b - a) M ⟨z, q1, by omega, q3⟩ fun z r1 r2 => h3 _ ((hm _).2 ⟨z, r1, by omega, rfl⟩)

theorem nb_step {α : Type} {x W : Nat} (f : Nat → Int) (hx : x < W) (hW : W ≤ 1000) : seam_least (row W f) ((x - 1 : Nat) : Int) ((x - 1 + wd W x : Nat) : Int) = some (nb W f x) := by
  have e := wd_top hx
  rw [least_eq f (by omega) (by omega) hW]
  unfold nb
  congr 2
  omega

/-! ### Tables made from the last row up -/

def upT (W H : Nat) (F : Nat → Nat → Int) (i : Nat) : List (List Int) := (List.range H).map fun y => if H - i ≤ y then row W (F y) else []
theorem upT_len (W H : Nat) (F : Nat → Nat → Int) (i : Nat) : (upT W H F i).length = H := by simp [upT]
theorem upT_get (W H : Nat) (F : Nat → Nat → Int) (i : Nat) {y : Nat} (hy : y < H) : (upT W H F i)[y]? = some (if H - i ≤ y then row W (F y) else []) := by simp [upT, hy]

theorem up_loop {W H : Nat} (hW : W ≤ 1000) (hH : H ≤ 1000) (F : Nat → Nat → Int) (step1 : List (List Int) × Int → Option (Step (List (List Int) × Int) (List (List Int)))) (step2 : Nat → List (List Int) × Int → Option (Step (List (List Int) × Int) (List (List Int))))
    (h1 : ∀ (y : Nat) l r, y < H → loopM FUEL (step2 y) (l, 0) = some r → step1 (l, (y : Int)) = some (.next (r, (y : Int) - 1)))
    (h1d : ∀ l, step1 (l, -1) = some (.done l))
    (h2 : ∀ (y x : Nat) l, y < H → x < W → l.length = H → l[y]? = some (row x (F y)) → (y + 1 < H → l[y + 1]? = some (row W (F (y + 1)))) → step2 y (l, (x : Int)) = some (.next (l.set y (row (x + 1) (F y)), ((x + 1 : Nat) : Int))))
    (h2d : ∀ (y : Nat) l, y < H → step2 y (l, (W : Int)) = some (.done l)) :
    loopM FUEL step1 (List.replicate H [], (H : Int) - 1) = some (tbl W H F) := by
  refine loop_go (fun i => (upT W H F i, (H : Int) - 1 - (i : Int))) H (by unfold FUEL; omega) ?_ (fun i hi => ?_) ?_
  · have e : List.replicate H [] = upT W H F 0 := by
      apply List.ext_getElem?
      intro y
      by_cases hy : y < H
      · rw [upT_get _ _ _ _ hy, if_neg (by omega), List.getElem?_replicate, if_pos hy]
      · rw [List.getElem?_eq_none (by simp; omega), List.getElem?_eq_none (by rw [upT_len]; omega)]
    rw [e]
    simp
  · have ey : (H : Int) - 1 - (i : Int) = ((H - 1 - i : Nat) : Int) := by omega
    have hl : loopM FUEL (step2 (H - 1 - i)) (upT W H F i, 0) = some (upT W H F (i + 1)) := by
      refine loop_go (fun x => ((upT W H F i).set (H - 1 - i) (row x (F (H - 1 - i))), (x : Int))) W (by unfold FUEL; omega) ?_ (fun x hx => ?_) ?_
      · have e : upT W H F i = (upT W H F i).set (H - 1 - i) (row 0 (F (H - 1 - i))) := by
          apply List.ext_getElem?
          intro y
          rw [List.getElem?_set]
          split
          · subst y
            rw [upT_get _ _ _ _ (by omega), if_neg (by omega), if_pos (by rw [upT_len]; omega)]
            rfl
          · rfl
        rw [← e]
        rfl
      · show step2 (H - 1 - i) (_, (x : Int)) = _
        rw [h2 (H - 1 - i) x _ (by omega) hx (by rw [List.length_set, upT_len]) (by rw [List.getElem?_set_self (by rw [upT_len]; omega)])
          (fun h => by rw [List.getElem?_set_ne (by omega), upT_get _ _ _ _ h, if_pos (by omega)]), List.set_set]
      · show step2 (H - 1 - i) (_, (W : Int)) = _
        rw [h2d _ _ (by omega)]
        congr 2
        apply List.ext_getElem?
        intro y
        rw [List.getElem?_set]
        split
        · subst y
          rw [if_pos (by rw [upT_len]; omega), upT_get _ _ _ _ (by omega), if_pos (by omega)]
        · by_cases hy : y < H
          · rw [upT_get _ _ _ _ hy, upT_get _ _ _ _ hy]
            by_cases hq : H - i ≤ y
            · rw [if_pos hq, if_pos (by omega)]
            · rw [if_neg hq, if_neg (by omega)]
          · rw [List.getElem?_eq_none (by rw [upT_len]; omega), List.getElem?_eq_none (by rw [upT_len]; omega)]
    show step1 (upT W H F i, (H : Int) - 1 - (i : Int)) = some (Step.next (_, (H : Int) - 1 - ((i + 1 : Nat) : Int)))
    rw [ey, h1 _ _ _ (by omega) hl]
    congr 3
    omega
  · show step1 (upT W H F H, (H : Int) - 1 - (H : Int)) = _
    rw [show (H : Int) - 1 - (H : Int) = -1 by omega, h1d]
    congr 2
    apply List.ext_getElem?
    intro y
    by_cases hy : y < H
    · rw [upT_get _ _ _ _ hy, if_pos (by omega), tbl_get _ _ _ hy]
    · rw [List.getElem?_eq_none (by rw [upT_len]; omega), List.getElem?_eq_none (by rw [tbl_len]; omega)]

/-- The least totals from each place on. -/
def BlT (c : Nat → Nat → Int) (W H : Nat) : Nat → Nat → Int := fun y x => Bl c W (H - 1 - y) y x

def Bnd (W : Nat) (c : Nat → Nat → Int) : Prop := ∀ y x, x < W → 0 ≤ c y x ∧ c y x ≤ 1099511627776

theorem BlT_bound {W H : Nat} {c : Nat → Nat → Int} (hb : Bnd W c) (hH : H ≤ 1000) (y : Nat) {x : Nat} (hx : x < W) : 0 ≤ BlT c W H y x ∧ BlT c W H y x ≤ 1099511627776000 := by
  have h := Bl_bound hb (H - 1 - y) y x hx
  refine ⟨h.1, Int.le_trans h.2 ?_⟩
  have : ((H - 1 - y : Nat) : Int) + 1 ≤ 1000 ∨ H = 0 := by omega
  have e : (((H - 1 - y : Nat) : Int) + 1) * 1099511627776 ≤ 1000 * 1099511627776 := Int.mul_le_mul_of_nonneg_right (by omega) (by omega)
  omega
theorem BlT_step {W H : Nat} {c : Nat → Nat → Int} {y : Nat} (hy : y + 1 < H) (x : Nat) : BlT c W H y x = c y x + nb W (BlT c W H (y + 1)) x := by
  unfold BlT
  rw [show H - 1 - y = (H - 1 - (y + 1)) + 1 by omega]
  rfl
theorem BlT_last {W H : Nat} {c : Nat → Nat → Int} {y : Nat} (hy : y + 1 = H) (x : Nat) : BlT c W H y x = c y x := by
  unfold BlT
  rw [show H - 1 - y = 0 by omega]
  rfl

/-- Costs where a place that is not allowed costs more than any seam. -/
def al (A : Nat → Nat → Bool) (c : Nat → Nat → Int) : Nat → Nat → Int := fun y x => if A y x = true then c y x else 1099511627776
theorem al_bnd {W : Nat} {c : Nat → Nat → Int} (hb : Bnd W c) (A : Nat → Nat → Bool) : Bnd W (al A c) := fun y x hx => by
  have := hb y x hx
  unfold al
  split <;> omega

theorem upward_eq {W H : Nat} (hW : W ≤ 1000) (hH : H ≤ 1000) {c : Nat → Nat → Int} (hb : Bnd W c) {f : Int → Int → Option Bool} {A : Nat → Nat → Bool} (hf : ∀ y x : Nat, y < H → x < W → f y x = some (A y x)) :
    seam_upward (tbl W H c) f = some (tbl W H (BlT (al A c) W H)) := by
  unfold seam_upward
  rw [tbl_len, chk_pos (by omega), w64_id (by omega) (by omega), show (H : Int).toNat = H by omega]
  have hB := al_bnd hb A
  have : loopM FUEL (fun s : List (List Int) × Int => seam_upward_s1 (tbl W H c) f s.1 s.2) (List.replicate H [], (H : Int) - 1) = some (tbl W H (BlT (al A c) W H)) := by
    refine up_loop hW hH _ _ (fun y s => seam_upward_s2 (tbl W H c) f (y : Int) (row W (c y)) s.1 s.2) (fun y l r hy hr => ?_) (fun l => ?_) (fun y x l hy hx hl h1 h2 => ?_) (fun y l hy => ?_)
    · show seam_upward_s1 (tbl W H c) f l (y : Int) = _
      unfold seam_upward_s1
      rw [if_pos (by simp), tbl_ix W H c rfl hy, Option.bind_some, hr, Option.bind_some, w64_id (by omega) (by omega)]
    · show seam_upward_s1 (tbl W H c) f l (-1) = _
      unfold seam_upward_s1
      rw [if_neg (by simp)]
    · show seam_upward_s2 (tbl W H c) f (y : Int) (row W (c y)) l (x : Int) = _
      unfold seam_upward_s2
      rw [row_len, if_pos (by simpa using hx), row_ix W _ rfl hx, Option.bind_some, hf y x hy hx, Option.bind_some]
      have e : (if (!A y x) = true then some 1099511627776 else some (c y x)) = some (al A c y x) := by
        unfold al
        cases A y x <;> rfl
      rw [e, Option.bind_some, w64_id (z := (y : Int) + 1) (by omega) (by omega), tbl_len]
      have e2 : (if decide ((y : Int) + 1 < (H : Int)) = true then
          (ix (tbl W H c) (y : Int)).bind fun v_13 => (seam_near (x : Int) (v_13.length : Int)).bind fun (y_14, y_15) =>
            (ix l ((y : Int) + 1)).bind fun v_16 => (seam_least v_16 y_14 y_15).bind fun y_17 => some (w64 (al A c y x + y_17)) else some (al A c y x)) = some (BlT (al A c) W H y x) := by
        by_cases hq : y + 1 < H
        · rw [if_pos (by simp; omega), tbl_ix W H c rfl hy, Option.bind_some, row_len, near_eq hx hW, Option.bind_some]
          show ((ix l ((y : Int) + 1)).bind fun v_16 => (seam_least v_16 _ _).bind fun y_17 => some (w64 (al A c y x + y_17))) = _
          rw [ix_get (i := y + 1) (by push_cast; rfl) (h2 hq), Option.bind_some, nb_step (α := Unit) _ hx hW, Option.bind_some]
          have e3 := BlT_step (c := al A c) (W := W) hq x
          have e4 := BlT_bound (H := H) hB hH y hx
          rw [← e3, w64_id (by omega) (by omega)]
        · rw [if_neg (by simp; omega), BlT_last (by omega)]
      rw [e2, Option.bind_some, ix_get rfl h1, Option.bind_some, row_len, chk_pos (by omega), chk_pos (by omega), w64_id (by omega) (by omega), row_succ]
      simp
    · show seam_upward_s2 (tbl W H c) f (y : Int) (row W (c y)) l (W : Int) = _
      unfold seam_upward_s2
      rw [row_len, if_neg (by simp)]
  rw [this]
  rfl

theorem below_eq {W H : Nat} (hW : W ≤ 1000) (hH : H ≤ 1000) {c : Nat → Nat → Int} (hb : Bnd W c) : fiduciallaw50_Below (tbl W H c) = some (tbl W H (BlT c W H)) := by
  unfold fiduciallaw50_Below
  rw [tbl_len, chk_pos (by omega), w64_id (by omega) (by omega), show (H : Int).toNat = H by omega]
  have : loopM FUEL (fun s : List (List Int) × Int => fiduciallaw50_Below_s1 (tbl W H c) s.1 s.2) (List.replicate H [], (H : Int) - 1) = some (tbl W H (BlT c W H)) := by
    refine up_loop hW hH _ _ (fun y s => fiduciallaw50_Below_s2 (tbl W H c) (y : Int) (row W (c y)) s.1 s.2) (fun y l r hy hr => ?_) (fun l => ?_) (fun y x l hy hx hl h1 h2 => ?_) (fun y l hy => ?_)
    · show fiduciallaw50_Below_s1 (tbl W H c) l (y : Int) = _
      unfold fiduciallaw50_Below_s1
      rw [if_pos (by simp), tbl_ix W H c rfl hy, Option.bind_some, hr, Option.bind_some, w64_id (by omega) (by omega)]
    · show fiduciallaw50_Below_s1 (tbl W H c) l (-1) = _
      unfold fiduciallaw50_Below_s1
      rw [if_neg (by simp)]
    · show fiduciallaw50_Below_s2 (tbl W H c) (y : Int) (row W (c y)) l (x : Int) = _
      unfold fiduciallaw50_Below_s2
      rw [row_len, if_pos (by simpa using hx), row_ix W _ rfl hx, Option.bind_some, w64_id (z := (x : Int) - 1) (by omega) (by omega)]
      have hB : ∀ {x : Nat}, x < W → 0 ≤ BlT c W H (y + 1) x ∧ BlT c W H (y + 1) x ≤ 1099511627776000 := fun hx => BlT_bound (H := H) hb hH (y + 1) hx
      have e2 : ∃ s : Int, loopM FUEL (fun s : Int × Int => fiduciallaw50_Below_s3 (tbl W H c) (y : Int) l (x : Int) s.1 s.2) (-1, (x : Int) - 1) = some s ∧ c y x + (if s < 0 then 0 else s) = BlT c W H y x := by
        by_cases hq : y + 1 < H
        · have hstep : ∀ (b z : Int), fiduciallaw50_Below_s3 (tbl W H c) (y : Int) l (x : Int) b z = if z ≤ (x : Int) + 1 then
              (if 0 ≤ z ∧ z < (W : Int) then some (.next ((if b < 0 ∨ BlT c W H (y + 1) z.toNat < b then BlT c W H (y + 1) z.toNat else b), w64 (z + 1))) else some (.next (b, w64 (z + 1)))) else some (.done b) := fun b z => by
            unfold fiduciallaw50_Below_s3
            rw [w64_id (z := (x : Int) + 1) (by omega) (by omega), tbl_len, w64_id (z := (H : Int) - 1) (by omega) (by omega), w64_id (z := (y : Int) + 1) (by omega) (by omega), tbl_ix W H c rfl hy]
            by_cases hz : z ≤ (x : Int) + 1
            · rw [if_pos hz, if_pos (by simpa using hz), Option.bind_some, if_pos (by simp; omega)]
              by_cases h0 : 0 ≤ z
              · rw [if_pos (by simpa using h0), Option.bind_some, row_len]
                by_cases hw : z < (W : Int)
                · rw [if_pos (show decide (z < (W : Int)) = true from decide_eq_true hw), if_pos (show 0 ≤ z ∧ z < (W : Int) from ⟨h0, hw⟩), ix_get (z := (y : Int) + 1) (i := y + 1) (by push_cast; rfl) (h2 hq)]
                  simp only [Option.bind_some]
                  rw [row_ix W _ (z := z) (x := z.toNat) (by omega) (by omega)]
                  simp only [Option.bind_some]
                  by_cases hb0 : b < 0
                  · rw [if_pos (show decide (b < 0) = true from decide_eq_true hb0), if_pos (show b < 0 ∨ BlT c W H (y + 1) z.toNat < b from .inl hb0)]; rfl
                  · rw [if_neg (show ¬ decide (b < 0) = true by simpa using hb0)]
                    simp only [Option.bind_some]
                    by_cases hlt : BlT c W H (y + 1) z.toNat < b
                    · rw [if_pos (show decide (BlT c W H (y + 1) z.toNat < b) = true from decide_eq_true hlt), if_pos (show b < 0 ∨ BlT c W H (y + 1) z.toNat < b from .inr hlt)]; rfl
                    · rw [if_neg (show ¬ decide (BlT c W H (y + 1) z.toNat < b) = true by simpa using hlt), if_neg (show ¬ (b < 0 ∨ BlT c W H (y + 1) z.toNat < b) by omega)]; rfl
                · rw [if_neg (by simpa using hw), if_neg (by omega)]; rfl
              · rw [if_neg (by simpa using h0), if_neg (by omega)]; rfl
            · rw [if_neg hz, if_neg (by simpa using hz)]; rfl
          obtain ⟨s, hs1, hs2⟩ := loop_inv (step := fun s : Int × Int => fiduciallaw50_Below_s3 (tbl W H c) (y : Int) l (x : Int) s.1 s.2)
            (fun i s => i ≤ 3 ∧ s.2 = (x : Int) - 1 + i ∧ ((s.1 = -1 ∧ ∀ z : Nat, (x : Int) - 1 ≤ z → (z : Int) < s.2 → W ≤ z) ∨ (∃ z : Nat, (x : Int) - 1 ≤ z ∧ (z : Int) < s.2 ∧ z < W ∧ BlT c W H (y + 1) z = s.1) ∧ ∀ z : Nat, (x : Int) - 1 ≤ z → (z : Int) < s.2 → z < W → s.1 ≤ BlT c W H (y + 1) z))
            (fun r => r = nb W (BlT c W H (y + 1)) x) 3 (by unfold FUEL; omega) (-1, (x : Int) - 1) ⟨by omega, by simp, .inl ⟨rfl, fun z h1 h2 => by dsimp only at h2; omega⟩⟩ (fun i s hI => by
              obtain ⟨hi, hz, hI⟩ := hI
              obtain ⟨b, z⟩ := s
              dsimp only at hz hI ⊢
              rw [hstep]
              by_cases hz1 : z ≤ (x : Int) + 1
              · left
                rw [if_pos hz1, w64_id (z := z + 1) (by omega) (by omega)]
                by_cases hin : 0 ≤ z ∧ z < (W : Int)
                · rw [if_pos hin]
                  refine ⟨_, rfl, ⟨by omega, by dsimp only; omega, .inr ?_⟩, by omega⟩
                  have hBz := hB (x := z.toNat) (by omega)
                  dsimp only
                  rcases hI with ⟨rfl, hn⟩ | ⟨⟨z0, q1, q2, q3, q4⟩, hall⟩
                  · rw [if_pos (.inl (by omega))]
                    refine ⟨⟨z.toNat, by omega, by omega, by omega, rfl⟩, fun z' r1 r2 r3 => ?_⟩
                    by_cases he : (z' : Int) = z
                    · rw [show z.toNat = z' by omega]; exact Int.le_refl _
                    · have := hn z' r1 (by omega); omega
                  · have hb0 := hB (x := z0) q3
                    by_cases hlt : BlT c W H (y + 1) z.toNat < b
                    · rw [if_pos (.inr hlt)]
                      refine ⟨⟨z.toNat, by omega, by omega, by omega, rfl⟩, fun z' r1 r2 r3 => ?_⟩
                      by_cases he : (z' : Int) = z
                      · rw [show z.toNat = z' by omega]; exact Int.le_refl _
                      · have := hall z' r1 (by omega) r3; omega
                    · rw [if_neg (by omega)]
                      refine ⟨⟨z0, by omega, by omega, q3, q4⟩, fun z' r1 r2 r3 => ?_⟩
                      by_cases he : (z' : Int) = z
                      · rw [show z' = z.toNat by omega]; omega
                      · exact hall z' r1 (by omega) r3
                · rw [if_neg hin]
                  refine ⟨_, rfl, ⟨by omega, by dsimp only; omega, ?_⟩, by omega⟩
                  dsimp only
                  rcases hI with ⟨hb1, hn⟩ | ⟨⟨z0, q1, q2, q3, q4⟩, hall⟩
                  · refine .inl ⟨hb1, fun z' r1 r2 => ?_⟩
                    by_cases he : (z' : Int) = z
                    · omega
                    · exact hn z' r1 (by omega)
                  · refine .inr ⟨⟨z0, q1, by omega, q3, q4⟩, fun z' r1 r2 r3 => ?_⟩
                    by_cases he : (z' : Int) = z
                    · omega
                    · exact hall z' r1 (by omega) r3
              · right
                rw [if_neg hz1]
                refine ⟨_, rfl, ?_⟩
                rcases hI with ⟨hb1, hn⟩ | ⟨⟨z0, q1, q2, q3, q4⟩, hall⟩
                · have := hn x (by omega) (by omega); omega
                · refine mn_uniq _ _ _ _ ⟨z0, ?_⟩ fun z' r1 r2 => ?_
                  · have := (wd_iff hx (z := z0)).2 ⟨q3, by omega, by omega⟩
                    exact ⟨this.1, this.2, q4⟩
                  · have := (wd_iff hx (z := z')).1 ⟨r1, r2⟩
                    exact hall z' (by omega) (by omega) this.1)
          refine ⟨s, hs1, ?_⟩
          obtain ⟨z, q1, q2, q3, q4⟩ := nb_ex (f := BlT c W H (y + 1)) hx
          have := hB q1
          rw [if_neg (by omega), hs2, ← BlT_step hq]
        · refine ⟨-1, ?_, ?_⟩
          · refine loop_go (fun _ => (-1, (x : Int) - 1)) 0 (by unfold FUEL; omega) rfl (fun i hi => by omega) ?_
            show fiduciallaw50_Below_s3 (tbl W H c) (y : Int) l (x : Int) (-1) ((x : Int) - 1) = _
            unfold fiduciallaw50_Below_s3
            rw [w64_id (z := (x : Int) + 1) (by omega) (by omega), tbl_len, w64_id (z := (H : Int) - 1) (by omega) (by omega), if_pos (by simp; omega), Option.bind_some, if_neg (by simp; omega)]
          · rw [if_pos (by omega), BlT_last (by omega)]
            omega
      obtain ⟨s, hs1, hs2⟩ := e2
      have hb2 := BlT_bound (H := H) hb hH y hx
      rw [hs1, Option.bind_some, ix_get rfl h1, Option.bind_some, row_len, chk_pos (by omega), chk_pos (by omega), w64_id (z := (x : Int) + 1) (by omega) (by omega), hs2, w64_id (by omega) (by omega), row_succ]
      simp
    · show fiduciallaw50_Below_s2 (tbl W H c) (y : Int) (row W (c y)) l (W : Int) = _
      unfold fiduciallaw50_Below_s2
      rw [row_len, if_neg (by simp)]
  rw [this]
  rfl
end Go.Proofs.Ytomlpofoaokmdaa
