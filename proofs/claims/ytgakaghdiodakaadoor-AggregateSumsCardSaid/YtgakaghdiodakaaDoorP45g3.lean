/-
  PLAIN, chapter 45, door seat: the law's path, pixel by pixel from the predecessors on.
-/
import Derived.Test.YtgakaghdiodakaaDoorP45g2
import Derived.Test.YtgakaghdiodakaaDoorPtab
set_option linter.unusedSimpArgs false
set_option linter.unusedVariables false
namespace Go.Proofs.YtgakaghdiodakaaDoor
open Go.E

theorem lrow_set {N i : Nat} (S : Nat → Bool) (hi : i < N) : (lrow N S).set i true = lrow N (fun m => if m = i then true else S m) := by
  apply List.ext_getElem?
  intro z
  rw [List.getElem?_set, lrow_len]
  by_cases hz : z < N
  · rw [lrow_get _ _ hz, lrow_get _ _ hz]
    by_cases q : i = z
    · subst q
      rw [if_pos rfl, if_pos hi, if_pos rfl]
    · rw [if_neg q, if_neg (fun h => q h.symm)]
  · have h1 : (lrow N S)[z]? = none := List.getElem?_eq_none (by rw [lrow_len]; omega)
    have h2 : (lrow N (fun m => if m = i then true else S m))[z]? = none := List.getElem?_eq_none (by rw [lrow_len]; omega)
    rw [h2, if_neg (fun hh => by omega), h1]

section
variable {W H D : Nat} {cs : List Int} {p q : Int}

/-- The least of the numbers of the pixel before, with the penalty. -/
theorem best_loop (h : Im W H D cs p q) {n j d : Nat} (hj : j < H * W) (hd : d < D) (f : Nat → Nat → Int) (hf : ∀ e, e < D → f j e = vV p q W H D cs n j e) :
    loopM FUEL (fun s : Int × Int => fiduciallaw45_path_c1_s2 p q (j * D) D (mp (H * W * D) D f) (d : Int) s.1 s.2) (vV p q W H D cs n j 0 + vp p q d 0, 0) = some (tr p q D (vV p q W H D cs n j) d) := by
  have hD := h.hD
  have hb := mulB (D := D) hj
  have h1 := h.hn
  have h2 := h.h6
  have hDm : D ≤ H * W * D := by omega
  refine loop_go (fun e => (mn (fun e => vV p q W H D cs n j e + vp p q d e) 0 (e - 1), (e : Int))) D (by unfold FUEL; omega) rfl (fun e he => ?_) ?_
  · show fiduciallaw45_path_c1_s2 p q (j * D) D (mp (H * W * D) D f) (d : Int) (mn (fun e => vV p q W H D cs n j e + vp p q d e) 0 (e - 1)) (e : Int) = _
    have hv := h.vb2 n j e
    have hp := vp_bound h.hp d e
    have hq := h.hp.2.2
    unfold fiduciallaw45_path_c1_s2
    rw [if_pos (by simp only [decide_eq_true_eq]; omega), mp_len, chk_pos (by omega), jump_eq p q (a := d) (b := e) (by omega) (by omega) rfl rfl, Option.bind_some, show ((e : Int)).toNat = e by omega, mp_getD _ he hb, hf e he, w64_id (z := vV p q W H D cs n j e + vp p q d e) (by omega) (by omega), w64_id (z := (e : Int) + 1) (by omega) (by omega)]
    cases e with
    | zero =>
      have e0 : ¬ (vV p q W H D cs n j 0 + vp p q d 0 < mn (fun e => vV p q W H D cs n j e + vp p q d e) 0 (0 - 1)) := Int.lt_irrefl _
      rw [if_neg e0]
      rfl
    | succ e =>
      simp only [Nat.add_sub_cancel, mn, Nat.zero_add]
      rfl
  · show fiduciallaw45_path_c1_s2 p q (j * D) D (mp (H * W * D) D f) (d : Int) (mn (fun e => vV p q W H D cs n j e + vp p q d e) 0 (D - 1)) (D : Int) = _
    unfold fiduciallaw45_path_c1_s2
    rw [if_neg (by simp)]
    rfl

theorem own_loop (h : Im W H D cs p q) {n : Nat} (hn : n < 8) {i j : Nat} (hi : i < H * W) (hj : prv W H (dX n) (dY n) i = some j) (hji : j ≠ i) (hjN : j < H * W) (f : Nat → Nat → Int) (hfj : ∀ e, e < D → f j e = vV p q W H D cs n j e) (hfi : ∀ e, e < D → f i e = cC cs D i e) :
    loopM FUEL (fun s : List Int × Int => fiduciallaw45_path_c1_s1 p q (i * D) D (j * D) D s.1 s.2) (mp (H * W * D) D f, 0) = some (mp (H * W * D) D (fun m e => if m = i then vV p q W H D cs n i e else f m e)) := by
  have hD := h.hD
  have hb := mulB (D := D) hi
  have hbj := mulB (D := D) hjN
  have h1 := h.hn
  have h2 := h.h6
  have hDm : D ≤ H * W * D := by omega
  refine loop_go (fun d => (mp (H * W * D) D (fun m e => if m = i then (if e < d then vV p q W H D cs n i e else cC cs D i e) else f m e), (d : Int))) D (by unfold FUEL; omega) ?_ (fun d hd => ?_) ?_
  · show (_, (0 : Int)) = (_, ((0 : Nat) : Int))
    rw [show mp (H * W * D) D f = mp (H * W * D) D (fun m e => if m = i then (if e < 0 then vV p q W H D cs n i e else cC cs D i e) else f m e) from mp_congr hD fun m _ e he => by
      by_cases hm : m = i
      · subst hm; rw [if_pos rfl, if_neg (by omega), hfi e he]
      · rw [if_neg hm]]
    rfl
  · show fiduciallaw45_path_c1_s1 p q (i * D) D (j * D) D (mp (H * W * D) D (fun m e => if m = i then (if e < d then vV p q W H D cs n i e else cC cs D i e) else f m e)) (d : Int) = _
    unfold fiduciallaw45_path_c1_s1
    have hv := (h.veq hn hi d).2 j hj
    have hb1 := h.vb2 n i d
    have hb2 := h.hc i d
    have hb3 := h.vb2 n j 0
    have hp0 := vp_bound h.hp d 0
    have hq := h.hp.2.2
    have hfj' : ∀ e, e < D → (fun m e => if m = i then (if e < d then vV p q W H D cs n i e else cC cs D i e) else f m e) j e = vV p q W H D cs n j e := fun e he => by
      dsimp only
      rw [if_neg hji]
      exact hfj e he
    have ej : fiduciallaw45_jump (d : Int) p q = some (vp p q d 0) := by
      have := jump_eq p q (a := d) (b := 0) (by omega) (by omega) (x := (d : Int)) (y := 0) rfl rfl
      rwa [Int.sub_zero, w64_id (by omega) (by omega)] at this
    rw [if_pos (by simp only [decide_eq_true_eq]; omega), mp_len, chk_pos (by omega), ej, Option.bind_some, show (0 : Int).toNat = 0 from rfl, mp_getD _ hD hbj, if_neg hji, hfj 0 hD, w64_id (z := vV p q W H D cs n j 0 + vp p q d 0) (by omega) (by omega), best_loop h hjN hd _ hfj', Option.bind_some, chk_pos (by omega), chk_pos (by omega), mp_part _ hbj, row_congr (W := D) hfj', min_row hD (by omega), Option.bind_some, chk_pos (by omega), show ((d : Int)).toNat = d by omega, mp_getD _ hd hb, mp_set _ _ hd hb]
    rw [if_pos rfl, if_neg (Nat.lt_irrefl d), w64_id (z := tr p q D (vV p q W H D cs n j) d - _) (by omega) (by omega), ← hv, w64_id (z := vV p q W H D cs n i d) (by omega) (by omega), w64_id (z := (d : Int) + 1) (by omega) (by omega)]
    show some (Step.next (_, _)) = some (Step.next (_, ((d + 1 : Nat) : Int)))
    congr 4
    funext m e
    by_cases hm : m = i
    · subst hm
      by_cases he : e = d
      · subst he
        rw [if_pos ⟨rfl, rfl⟩, if_pos rfl, if_pos (by omega)]
      · rw [if_neg (fun hh => he hh.2), if_pos rfl, if_pos rfl]
        by_cases hlt : e < d
        · rw [if_pos hlt, if_pos (by omega)]
        · rw [if_neg hlt, if_neg (by omega)]
    · rw [if_neg (fun hh => hm hh.1), if_neg hm, if_neg hm]
  · show fiduciallaw45_path_c1_s1 p q (i * D) D (j * D) D (mp (H * W * D) D (fun m e => if m = i then (if e < D then vV p q W H D cs n i e else cC cs D i e) else f m e)) (D : Int) = _
    unfold fiduciallaw45_path_c1_s1
    rw [if_neg (by simp)]
    congr 2
    refine mp_congr hD fun m hm e he => ?_
    by_cases hmi : m = i
    · rw [if_pos hmi, if_pos hmi, if_pos he]
    · rw [if_neg hmi, if_neg hmi]

theorem fill_eq (h : Im W H D cs p q) {n : Nat} (hn : n < 8) : ∀ (Nf x y : Nat), x < W → y < H → rk (H * W) (bkw (dX n) (dY n)) (y * W + x) < Nf → ∀ (f : Nat → Nat → Int) (S : Nat → Bool),
    (∀ m, m < H * W → rk (H * W) (bkw (dX n) (dY n)) m ≤ rk (H * W) (bkw (dX n) (dY n)) (y * W + x) → S m = true → ∀ e, e < D → f m e = vV p q W H D cs n m e) →
    ∃ f' S', fiduciallaw45_path_c1 Nf W H D p q W H D (dX n) (dY n) cs x y (mp (H * W * D) D f) (lrow (H * W) S) = some (mp (H * W * D) D f', lrow (H * W) S') ∧ S' (y * W + x) = true ∧ (∀ m, S m = true → S' m = true) ∧
      (∀ m e, m < H * W → e < D → S m = true → f' m e = f m e) ∧ (∀ m e, m < H * W → e < D → S' m = true → S m = false → f' m e = vV p q W H D cs n m e)
  | 0, x, y, hx, hy, hr, f, S, hS => by omega
  | Nf + 1, x, y, hx, hy, hr, f, S, hS => by
    have hW := h.hW
    have hD := h.hD
    have h1 := h.hn
    have h2 := h.h6
    have hN := h.N6
    have hi := inB hy hx
    have hb := mulB (D := D) hi
    have hxd : (y * W + x) % W = x := (divD hx).2
    have hyd : (y * W + x) / W = y := (divD hx).1
    obtain ⟨hdir, _⟩ := dir_ok hn
    have hWN : W ≤ H * W := Nat.le_mul_of_pos_left W h.hH
    have hHN : H ≤ H * W := Nat.le_mul_of_pos_right H hW
    have hDN : D ≤ H * W * D := by omega
    have hyW := mulB (D := W) hy
    have ew : w64 ((w64 ((y : Int) * (W : Int))) + (x : Int)) = ((y * W + x : Nat) : Int) := by
      rw [show (y : Int) * (W : Int) = ((y * W : Nat) : Int) by push_cast; rfl, w64_id (z := ((y * W : Nat) : Int)) (by omega) (by omega), w64_id (by omega) (by omega)]
      push_cast
      rfl
    obtain ⟨l1, l2⟩ := h.lo hx hy
    rw [ew] at l1
    rw [fiduciallaw45_path_c1, ew, lrow_ix _ _ rfl hi, Option.bind_some]
    cases hSi : S (y * W + x) with
    | true =>
      rw [if_pos rfl]
      exact ⟨f, S, rfl, hSi, fun m hm => hm, fun m e _ _ _ => rfl, fun m e _ _ h1 h2 => by rw [h1] at h2; cases h2⟩
    | false =>
      rw [if_neg (by decide), lrow_len, chk_pos (by omega), l1, l2, natOf_nat, Option.bind_some, show (((y * W + x) * D + D : Nat) : Int) - (((y * W + x) * D : Nat) : Int) = ((D : Nat) : Int) by omega, natOf_nat, Option.bind_some, mp_len, chk_pos (by omega), (at_eq hD h1 h2 hy hx _).2, Option.bind_some, chk_pos (by omega), mp_cpy hD _ _ hb, show (((y * W + x : Nat) : Int)).toNat = y * W + x by omega, lrow_set _ hi]
      have d1 := hdir
      obtain ⟨d1, d2, d3, d4, d5⟩ := d1
      rw [w64_id (z := (x : Int) - dX n) (by omega) (by omega), w64_id (z := (y : Int) - dY n) (by omega) (by omega)]
      cases hp : prv W H (dX n) (dY n) (y * W + x) with
      | none =>
        have ec : (if decide ((x : Int) - dX n < 0) = true then some true else if decide ((y : Int) - dY n < 0) = true then some true else if decide ((W : Int) ≤ (x : Int) - dX n) = true then some true else some (decide ((H : Int) ≤ (y : Int) - dY n))) = some true := by
          unfold prv at hp
          rw [hxd, hyd] at hp
          split at hp
          · cases hp
          · rename_i hc
            by_cases c1 : (x : Int) - dX n < 0
            · rw [if_pos (decide_eq_true c1)]
            · rw [if_neg (by simpa using c1)]
              by_cases c2 : (y : Int) - dY n < 0
              · rw [if_pos (decide_eq_true c2)]
              · rw [if_neg (by simpa using c2)]
                by_cases c3 : (W : Int) ≤ (x : Int) - dX n
                · rw [if_pos (decide_eq_true c3)]
                · rw [if_neg (by simpa using c3), decide_eq_true (Classical.byContradiction fun c4 => hc ⟨by omega, by omega, by omega, by omega⟩)]
        rw [ec, Option.bind_some, if_pos rfl]
        refine ⟨_, _, rfl, by simp, fun m hm => by simp [hm], fun m e _ _ hm => ?_, fun m e _ _ hm1 hm2 => ?_⟩
        · rw [if_neg (fun hh => by rw [hh, hSi] at hm; cases hm)]
        · by_cases hmi : m = y * W + x
          · rw [if_pos hmi, hmi, (h.veq hn hi e).1 hp]
          · simp only [hmi, if_false] at hm1
            rw [hm1] at hm2
            cases hm2
      | some j =>
        obtain ⟨hj, hjr⟩ := prv_ok hdir hi hp
        obtain ⟨x', y', g1, g2, gx, gy, gj⟩ := prv_some hp
        rw [hxd] at g1
        rw [hyd] at g2
        have hji : j ≠ y * W + x := fun hh => by rw [hh] at hjr; omega
        obtain ⟨l3, l4⟩ := h.lo gx gy
        have hbj := mulB (D := D) hj
        have hyW' := mulB (D := W) gy
        have ew' : w64 ((w64 ((y' : Int) * (W : Int))) + (x' : Int)) = ((y' * W + x' : Nat) : Int) := by
          rw [show (y' : Int) * (W : Int) = ((y' * W : Nat) : Int) by push_cast; rfl, w64_id (z := ((y' * W : Nat) : Int)) (by omega) (by omega), w64_id (by omega) (by omega)]
          push_cast
          rfl
        rw [ew'] at l3
        obtain ⟨f2, S2, i1, i2, i3, i4, i5⟩ := fill_eq h hn Nf x' y' gx gy (by rw [← gj]; omega) (fun m => if m = y * W + x then cC cs D (y * W + x) else f m) (fun m => if m = y * W + x then true else S m) (fun m hm hr2 hSm e he => by
          rw [← gj] at hr2
          have hmi : m ≠ y * W + x := fun hh => by rw [hh] at hr2; omega
          simp only [hmi, if_false] at hSm ⊢
          exact hS m hm (by omega) hSm e he)
        rw [g1, g2, if_neg (by simp), if_neg (by simp), if_neg (by simp only [decide_eq_true_eq]; omega), decide_eq_false (show ¬ (H : Int) ≤ (y' : Int) by omega), Option.bind_some, if_neg (by decide), i1, Option.bind_some]
        dsimp only
        rw [ew', l3, l4, natOf_nat, Option.bind_some, show (((y' * W + x') * D + D : Nat) : Int) - (((y' * W + x') * D : Nat) : Int) = ((D : Nat) : Int) by omega, natOf_nat, Option.bind_some, mp_len, ← gj, chk_pos (by omega)]
        rw [← gj] at i2
        have hfj : ∀ e, e < D → f2 j e = vV p q W H D cs n j e := fun e he => by
          cases hSj : S j with
          | true =>
            rw [i4 j e hj he (by simp [hSj])]
            rw [if_neg hji]
            exact hS j hj (by omega) hSj e he
          | false => exact i5 j e hj he i2 (by simp [hji, hSj])
        have hfi : ∀ e, e < D → f2 (y * W + x) e = cC cs D (y * W + x) e := fun e he => by
          rw [i4 _ e hi he (by simp)]
          simp
        rw [own_loop h hn hi hp hji hj f2 hfj hfi, Option.bind_some]
        refine ⟨_, S2, rfl, i3 _ (by simp), fun m hm => i3 m (by simp [hm]), fun m e hm he hSm => ?_, fun m e hm he hm1 hm2 => ?_⟩
        · have hmi : m ≠ y * W + x := fun hh => by rw [hh, hSi] at hSm; cases hSm
          rw [if_neg hmi, i4 m e hm he (by simp [hSm])]
          rw [if_neg hmi]
        · by_cases hmi : m = y * W + x
          · rw [if_pos hmi, hmi]
          · rw [if_neg hmi]
            exact i5 m e hm he hm1 (by simp [hmi, hm2])

/-- The law's path. -/
theorem lpath_eq (h : Im W H D cs p q) {n : Nat} (hn : n < 8) : fiduciallaw45_path W H D cs p q n = some ((W : Int), (H : Int), (D : Int), mp (H * W * D) D (vV p q W H D cs n)) := by
  have hW := h.hW
  have hH := h.hH
  have hD := h.hD
  have h1 := h.hn
  have h2 := h.h6
  have hN := h.N6
  have hWN : W ≤ H * W := Nat.le_mul_of_pos_left W hH
  have hHN : H ≤ H * W := Nat.le_mul_of_pos_right H hW
  obtain ⟨_, hst⟩ := dir_ok hn
  unfold fiduciallaw45_path
  rw [chk_pos (by omega), Option.bind_some]
  dsimp only
  have hwh : w64 ((W : Int) * (H : Int)) = ((H * W : Nat) : Int) := by
    rw [show (W : Int) * (H : Int) = ((H * W : Nat) : Int) by rw [Nat.mul_comm]; push_cast; rfl]
    exact w64_id (by omega) (by omega)
  rw [hst, Option.bind_some]
  dsimp only
  rw [hwh, chk_pos (by omega), show (cs.length : Int).toNat = H * W * D by omega, mp_zero (D := D), show (((H * W : Nat) : Int)).toNat = H * W by omega]
  have hrep : List.replicate (H * W) false = lrow (H * W) (fun _ => false) := by
    apply List.ext_getElem?
    intro z
    rw [List.getElem?_replicate]
    by_cases hz : z < H * W
    · rw [if_pos hz, lrow_get _ _ hz]
    · rw [if_neg hz, List.getElem?_eq_none (by rw [lrow_len]; omega)]
  rw [hrep]
  let I : Nat → List Int × List Bool → Prop := fun k s => ∃ f S, s = (mp (H * W * D) D f, lrow (H * W) S) ∧ (∀ m, m < H * W → S m = true → ∀ e, e < D → f m e = vV p q W H D cs n m e) ∧ ∀ m, m < k → S m = true
  have step : ∀ (y x : Nat) (s : List Int × List Bool), y < H → x < W → I (y * W + x) s → ∃ s', fiduciallaw45_path_c1 FUEL W H D p q W H D (dX n) (dY n) cs x y s.1 s.2 = some s' ∧ I (y * W + x + 1) s' := by
    rintro y x s hy hx ⟨f, S, rfl, hf, hk⟩
    have hrl := rk_lt (bkw (dX n) (dY n)) (inB hy hx)
    obtain ⟨f', S', i1, i2, i3, i4, i5⟩ := fill_eq h hn FUEL x y hx hy (by unfold FUEL; omega) f S (fun m hm _ hSm => hf m hm hSm)
    refine ⟨_, i1, f', S', rfl, fun m hm hSm e he => ?_, fun m hm => ?_⟩
    · cases hS : S m with
      | true => rw [i4 m e hm he hS, hf m hm hS e he]
      | false => exact i5 m e hm he hSm hS
    · by_cases hmk : m < y * W + x
      · exact i3 m (hk m hmk)
      · obtain rfl : m = y * W + x := by omega
        exact i2
  have inner : ∀ (y : Nat) (s : List Int × List Bool), y < H → I (y * W) s → ∃ s', loopM FUEL (fun s : List Int × List Bool × Int => fiduciallaw45_path_s2 W H D cs p q W H D (dX n) (dY n) y s.1 s.2.1 s.2.2) (s.1, s.2, 0) = some s' ∧ I ((y + 1) * W) s' := by
    intro y s hy hs
    refine loop_inv (fun i t => I (y * W + i) (t.1, t.2.1) ∧ t.2.2 = (i : Int) ∧ i ≤ W) (fun s' => I ((y + 1) * W) s') W (by unfold FUEL; omega) (s.1, s.2, 0) ⟨hs, rfl, by omega⟩ ?_
    rintro i ⟨t1, t2, t3⟩ ⟨hI, ht, hiW⟩
    dsimp only at ht hI
    subst ht
    by_cases hi : i < W
    · left
      obtain ⟨s', e1, e2⟩ := step y i (t1, t2) hy hi hI
      refine ⟨(s'.1, s'.2, ((i + 1 : Nat) : Int)), ?_, ⟨e2, rfl, by omega⟩, hi⟩
      show fiduciallaw45_path_s2 W H D cs p q W H D (dX n) (dY n) y t1 t2 (i : Int) = _
      unfold fiduciallaw45_path_s2
      rw [if_pos (by simp only [decide_eq_true_eq]; omega), e1, Option.bind_some, w64_id (by omega) (by omega)]
      rfl
    · right
      obtain rfl : i = W := by omega
      refine ⟨(t1, t2), ?_, ?_⟩
      · show fiduciallaw45_path_s2 i H D cs p q i H D (dX n) (dY n) y t1 t2 (i : Int) = _
        unfold fiduciallaw45_path_s2
        rw [if_neg (by simp)]
      · rw [Nat.succ_mul]; exact hI
  have outer : ∃ s', loopM FUEL (fun s : List Int × List Bool × Int => fiduciallaw45_path_s1 W H D cs p q W H D (dX n) (dY n) s.1 s.2.1 s.2.2) (mp (H * W * D) D (fun _ _ => 0), lrow (H * W) (fun _ => false), 0) = some s' ∧ I (H * W) s' := by
    refine loop_inv (fun i t => I (i * W) (t.1, t.2.1) ∧ t.2.2 = (i : Int) ∧ i ≤ H) (fun s' => I (H * W) s') H (by unfold FUEL; omega) _ ⟨⟨fun _ _ => 0, fun _ => false, rfl, (fun m _ hm => by cases hm), (fun m hm => by rw [Nat.zero_mul] at hm; omega)⟩, rfl, by omega⟩ ?_
    rintro i ⟨t1, t2, t3⟩ ⟨hI, ht, hiH⟩
    dsimp only at ht hI
    subst ht
    by_cases hi : i < H
    · left
      obtain ⟨s', e1, e2⟩ := inner i (t1, t2) hi hI
      refine ⟨(s'.1, s'.2, ((i + 1 : Nat) : Int)), ?_, ⟨e2, rfl, by omega⟩, hi⟩
      show fiduciallaw45_path_s1 W H D cs p q W H D (dX n) (dY n) t1 t2 (i : Int) = _
      unfold fiduciallaw45_path_s1
      rw [if_pos (by simp only [decide_eq_true_eq]; omega), e1, Option.bind_some, w64_id (by omega) (by omega)]
      rfl
    · right
      obtain rfl : i = H := by omega
      refine ⟨(t1, t2), ?_, hI⟩
      show fiduciallaw45_path_s1 W i D cs p q W i D (dX n) (dY n) t1 t2 (i : Int) = _
      unfold fiduciallaw45_path_s1
      rw [if_neg (by simp)]
  obtain ⟨s', o1, f, S, rfl, hf, hk⟩ := outer
  rw [o1, Option.bind_some]
  dsimp only
  rw [show mp (H * W * D) D f = mp (H * W * D) D (vV p q W H D cs n) from mp_congr hD fun m hm e he => hf m hm (hk m hm) e he]
end
end Go.Proofs.YtgakaghdiodakaaDoor
