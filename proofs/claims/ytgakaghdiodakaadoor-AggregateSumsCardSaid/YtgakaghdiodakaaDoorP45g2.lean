/-
  PLAIN, chapter 45, door seat: aggregate.path.
-/
import Derived.Test.YtgakaghdiodakaaDoorP45g1
set_option linter.unusedSimpArgs false
set_option linter.unusedVariables false
namespace Go.Proofs.YtgakaghdiodakaaDoor
open Go.E

def dX (n : Nat) : Int := ([1, 0, -1, 0, 0, 1, 0, -1, 1, 1, -1, -1, 1, -1, -1, 1] : List Int).getD (0 + n * 2) (0 : Int)
def dY (n : Nat) : Int := ([1, 0, -1, 0, 0, 1, 0, -1, 1, 1, -1, -1, 1, -1, -1, 1] : List Int).getD ((0 + n * 2) + 1) (0 : Int)
theorem dir_ok {n : Nat} (h : n < 8) : Dir (dX n) (dY n) ∧ fiduciallaw45_steps (n : Int) = some (dX n, dY n) := by
  have : n = 0 ∨ n = 1 ∨ n = 2 ∨ n = 3 ∨ n = 4 ∨ n = 5 ∨ n = 6 ∨ n = 7 := by omega
  rcases this with rfl | rfl | rfl | rfl | rfl | rfl | rfl | rfl <;> exact ⟨by unfold Dir; decide, by decide⟩

theorem natOf_nat (n : Nat) : natOf ((n : Nat) : Int) = some n := by
  unfold natOf
  rw [if_pos (by omega)]
  rfl

/-- The value of a pixel, and what holds of it. -/
structure Im (W H D : Nat) (cs : List Int) (p q : Int) : Prop where
  hW : 0 < W
  hH : 0 < H
  hD : 0 < D
  hn : cs.length = H * W * D
  h6 : cs.length ≤ 600
  hp : PB p q
  hc : ∀ i d, 0 ≤ cC cs D i d ∧ cC cs D i d ≤ 1048576
def vV (p q : Int) (W H D : Nat) (cs : List Int) (n : Nat) : Nat → Nat → Int := PV p q (cC cs D) D (prv W H (dX n) (dY n)) (H * W)
theorem cC_all {cs : List Int} (h : ∀ z ∈ cs, 0 ≤ z ∧ z ≤ 1048576) (D i d : Nat) : 0 ≤ cC cs D i d ∧ cC cs D i d ≤ 1048576 := by
  unfold cC
  by_cases hi : i * D + d < cs.length
  · exact h _ (getD_mem hi)
  · rw [List.getD_eq_getElem?_getD, List.getElem?_eq_none (by omega)]; simp
section
variable {W H D : Nat} {cs : List Int} {p q : Int}
theorem Im.vb (h : Im W H D cs p q) (n i d : Nat) : cC cs D i d ≤ vV p q W H D cs n i d ∧ vV p q W H D cs n i d ≤ cC cs D i d + q := PV_bound h.hp h.hD _ _ _
theorem Im.vb2 (h : Im W H D cs p q) (n i d : Nat) : 0 ≤ vV p q W H D cs n i d ∧ vV p q W H D cs n i d ≤ 2097152 := by
  have h1 := h.vb n i d
  have h2 := h.hc i d
  have h3 := h.hp.2.2
  omega
theorem Im.veq (h : Im W H D cs p q) {n : Nat} (hn : n < 8) {i : Nat} (hi : i < H * W) (d : Nat) :
    (prv W H (dX n) (dY n) i = none → vV p q W H D cs n i d = cC cs D i d) ∧ (∀ j, prv W H (dX n) (dY n) i = some j → vV p q W H D cs n i d = cC cs D i d + (tr p q D (vV p q W H D cs n j) d - mn (vV p q W H D cs n j) 0 (D - 1))) := by
  have e := PV_eq (p := p) (q := q) (C := cC cs D) (D := D) (pr := prv W H (dX n) (dY n)) (N := H * W) (r := rk (H * W) (bkw (dX n) (dY n))) (fun i j hi hp => prv_ok (dir_ok hn).1 hi hp) (fun i hi => rk_lt _ hi) hi d
  unfold vV
  refine ⟨fun hp => ?_, fun j hp => ?_⟩
  · rw [e, hp]; exact Int.add_zero _
  · rw [e, hp]
theorem Im.N6 (h : Im W H D cs p q) : H * W ≤ 600 := by
  have h1 := Nat.le_mul_of_pos_right (H * W) h.hD
  have h2 := h.h6
  have h3 := h.hn
  omega

/-- The place of a pixel's costs. -/
theorem Im.lo (h : Im W H D cs p q) {x y : Nat} (hx : x < W) (hy : y < H) : w64 ((w64 ((w64 ((y : Int) * W)) + x)) * D) = (((y * W + x) * D : Nat) : Int) ∧ w64 ((((y * W + x) * D : Nat) : Int) + D) = (((y * W + x) * D + D : Nat) : Int) := by
  have hb := mulB (D := D) (inB hy hx)
  have h1 := h.hn
  have h2 := h.h6
  exact at_w (n := 0) (by omega) h.hD

def Fk (p q : Int) (W H D : Nat) (cs : List Int) (n k : Nat) : Nat → Nat → Int := fun m e => if rk (H * W) (bkw (dX n) (dY n)) m < k then vV p q W H D cs n m e else 0

theorem path_loop (h : Im W H D cs p q) {n : Nat} (hn : n < 8) {i j k : Nat} (hi : i < H * W) (hk : rk (H * W) (bkw (dX n) (dY n)) i = k) (hj : prv W H (dX n) (dY n) i = some j) :
    loopM FUEL (fun s : List Int × Int => aggregate_path_s2 (i * D) D (mn (vV p q W H D cs n j) 0 (D - 1)) (row D (tr p q D (vV p q W H D cs n j))) s.1 s.2) (mp (H * W * D) D (fun m => if m = i then cC cs D i else Fk p q W H D cs n k m), 0) = some (mp (H * W * D) D (Fk p q W H D cs n (k + 1))) := by
  have hD := h.hD
  have hb := mulB (D := D) hi
  have h1 := h.hn
  have h2 := h.h6
  have hDm : D ≤ H * W * D := by omega
  refine loop_go (fun d => (mp (H * W * D) D (fun m e => if m = i then (if e < d then vV p q W H D cs n i e else cC cs D i e) else Fk p q W H D cs n k m e), (d : Int))) D (by unfold FUEL; omega) ?_ (fun d hd => ?_) ?_
  · congr 2
    funext m e
    split
    · rw [if_neg (by omega)]
    · rfl
  · show aggregate_path_s2 (i * D) D (mn (vV p q W H D cs n j) 0 (D - 1)) (row D (tr p q D (vV p q W H D cs n j))) (mp (H * W * D) D (fun m e => if m = i then (if e < d then vV p q W H D cs n i e else cC cs D i e) else Fk p q W H D cs n k m e)) (d : Int) = _
    unfold aggregate_path_s2
    have hv := (h.veq hn hi d).2 j hj
    have hb1 := h.vb2 n i d
    have hb2 := h.hc i d
    rw [row_len, if_pos (by simp only [decide_eq_true_eq]; omega), row_ix D _ rfl hd, Option.bind_some, mp_len, chk_pos (by omega), chk_pos (by omega), show ((d : Int)).toNat = d by omega, mp_getD _ hd hb, mp_set _ _ hd hb]
    rw [if_pos rfl, if_neg (Nat.lt_irrefl d), w64_id (z := tr p q D (vV p q W H D cs n j) d - _) (by omega) (by omega), ← hv, w64_id (z := vV p q W H D cs n i d) (by omega) (by omega), w64_id (z := (d : Int) + 1) (by omega) (by omega)]
    show some (Step.next (_, _)) = some (Step.next (_, ((d + 1 : Nat) : Int)))
    congr 4
    funext m e
    by_cases hm : m = i
    · subst hm
      by_cases he : e = d
      · subst he
        rw [if_pos ⟨rfl, rfl⟩, if_pos rfl, if_pos (by omega)]
      · rw [if_neg (fun hh => he hh.2), if_pos rfl, if_pos rfl]
        by_cases hlt : e < d
        · rw [if_pos hlt, if_pos (by omega)]
        · rw [if_neg hlt, if_neg (by omega)]
    · rw [if_neg (fun hh => hm hh.1), if_neg hm, if_neg hm]
  · show aggregate_path_s2 (i * D) D (mn (vV p q W H D cs n j) 0 (D - 1)) (row D (tr p q D (vV p q W H D cs n j))) (mp (H * W * D) D (fun m e => if m = i then (if e < D then vV p q W H D cs n i e else cC cs D i e) else Fk p q W H D cs n k m e)) (D : Int) = _
    unfold aggregate_path_s2
    rw [row_len, if_neg (by simp)]
    congr 2
    refine mp_congr hD fun m hm e he => ?_
    unfold Fk
    by_cases hmi : m = i
    · subst hmi
      rw [if_pos rfl, if_pos he, if_pos (by omega)]
    · rw [if_neg hmi]
      have hne : rk (H * W) (bkw (dX n) (dY n)) m ≠ k := fun hh => hmi (rk_inj hm hi (by rw [hh, hk]))
      by_cases hlt : rk (H * W) (bkw (dX n) (dY n)) m < k
      · rw [if_pos hlt, if_pos (by omega)]
      · rw [if_neg hlt, if_neg (by omega)]

theorem bk_eq (dx dy : Int) : (if decide (dy < 0) = true then some true else if (dy == 0) = true then some (decide (dx < 0)) else some false) = some (bkw dx dy) := by
  unfold bkw
  by_cases h1 : dy < 0
  · rw [if_pos (decide_eq_true h1), decide_eq_true (.inl h1)]
  · rw [if_neg (by simpa using h1)]
    by_cases h2 : dy = 0
    · rw [if_pos (by simpa using h2)]
      by_cases h3 : dx < 0
      · rw [decide_eq_true h3, decide_eq_true (.inr ⟨h2, h3⟩)]
      · rw [decide_eq_false h3, decide_eq_false (by omega)]
    · rw [if_neg (by simpa using h2), decide_eq_false (by omega)]

theorem path_eq (h : Im W H D cs p q) {n : Nat} (hn : n < 8) : aggregate_path W H D cs p q n = some ((W : Int), (H : Int), (D : Int), mp (H * W * D) D (vV p q W H D cs n)) := by
  have hW := h.hW
  have hH := h.hH
  have hD := h.hD
  have h1 := h.hn
  have h2 := h.h6
  have hN := h.N6
  have hp3 := h.hp.2.2
  have hWN : W ≤ H * W := Nat.le_mul_of_pos_left W hH
  have hHN : H ≤ H * W := Nat.le_mul_of_pos_right H hW
  have hDN : D ≤ H * W * D := Nat.le_mul_of_pos_left D (Nat.mul_pos hH hW)
  obtain ⟨hdir, _⟩ := dir_ok hn
  unfold aggregate_path
  rw [chk_pos (by omega), Option.bind_some]
  dsimp only
  rw [chk_pos (by omega), chk_pos (by omega), show (cs.length : Int).toNat = H * W * D by omega, mp_zero (D := D)]
  have hwh : w64 ((W : Int) * (H : Int)) = ((H * W : Nat) : Int) := by
    rw [show (W : Int) * (H : Int) = ((H * W : Nat) : Int) by rw [Nat.mul_comm]; push_cast; rfl]
    exact w64_id (by omega) (by omega)
  have key : loopM FUEL (fun s : List Int × Int => aggregate_path_s1 W H D cs p q n W D s.1 s.2) (mp (H * W * D) D (fun _ _ => 0), 0) = some (mp (H * W * D) D (vV p q W H D cs n)) := by
    refine loop_go (fun k => (mp (H * W * D) D (Fk p q W H D cs n k), (k : Int))) (H * W) (by unfold FUEL; omega) ?_ (fun k hk => ?_) ?_
    · show _ = (mp (H * W * D) D (Fk p q W H D cs n 0), ((0 : Nat) : Int))
      rw [show mp (H * W * D) D (Fk p q W H D cs n 0) = mp (H * W * D) D (fun _ _ => 0) from mp_congr hD fun m _ e _ => by unfold Fk; rw [if_neg (by omega)]]
      rfl
    · show aggregate_path_s1 W H D cs p q n W D (mp (H * W * D) D (Fk p q W H D cs n k)) (k : Int) = _
      obtain ⟨i, hi, hik⟩ : ∃ i, i < H * W ∧ (if bkw (dX n) (dY n) = true then H * W - 1 - k else k) = i := ⟨_, by split <;> omega, rfl⟩
      have hrk : rk (H * W) (bkw (dX n) (dY n)) i = k := by
        unfold rk
        rw [← hik]
        split <;> omega
      obtain ⟨x, hxd⟩ : ∃ x, i % W = x := ⟨_, rfl⟩
      obtain ⟨y, hyd⟩ : ∃ y, i / W = y := ⟨_, rfl⟩
      have hx : x < W := by rw [← hxd]; exact Nat.mod_lt i hW
      have hy : y < H := by rw [← hyd]; exact Nat.div_lt_of_lt_mul (by rw [Nat.mul_comm]; exact hi)
      have hxy : y * W + x = i := by
        have := Nat.div_add_mod i W
        rw [Nat.mul_comm, hxd, hyd] at this
        exact this
      have hb := mulB (D := D) hi
      unfold aggregate_path_s1
      rw [hwh, if_pos (by simp only [decide_eq_true_eq]; omega), show ((n : Int)).toNat = n by omega]
      have eX : ([1, 0, -1, 0, 0, 1, 0, -1, 1, 1, -1, -1, 1, -1, -1, 1] : List Int).getD (0 + n * 2) (0 : Int) = dX n := rfl
      have eY : ([1, 0, -1, 0, 0, 1, 0, -1, 1, 1, -1, -1, 1, -1, -1, 1] : List Int).getD ((0 + n * 2) + 1) (0 : Int) = dY n := rfl
      rw [eX, eY, bk_eq, Option.bind_some]
      have es : (if bkw (dX n) (dY n) = true then some (w64 ((w64 (((H * W : Nat) : Int) - 1)) - (k : Int))) else some (k : Int)) = some (i : Int) := by
        rw [← hik]
        split
        · rw [w64_id (z := ((H * W : Nat) : Int) - 1) (by omega) (by omega), w64_id (by omega) (by omega)]
          congr 1
          omega
        · rfl
      rw [es, Option.bind_some, chk_pos (by omega), chk_pos (by omega), show Int.tdiv (i : Int) (W : Int) = ((i / W : Nat) : Int) from rfl, show Int.tmod (i : Int) (W : Int) = ((i % W : Nat) : Int) from rfl, hxd, hyd, w64_id (z := (y : Int)) (by omega) (by omega)]
      obtain ⟨l1, l2⟩ := h.lo hx hy
      rw [l1, l2, natOf_nat, Option.bind_some, show (((y * W + x) * D + D : Nat) : Int) - (((y * W + x) * D : Nat) : Int) = ((D : Nat) : Int) by omega, natOf_nat, Option.bind_some, mp_len, hxy, chk_pos (by omega), (at_eq hD h1 h2 hy hx _).1, Option.bind_some, hxy, chk_pos (by omega), mp_cpy hD _ _ hb]
      have d1 := hdir
      obtain ⟨d1, d2, d3, d4, d5⟩ := d1
      rw [w64_id (z := (x : Int) - dX n) (by omega) (by omega), w64_id (z := (y : Int) - dY n) (by omega) (by omega)]
      cases hp : prv W H (dX n) (dY n) i with
      | none =>
        have ec : (if decide (0 ≤ (x : Int) - dX n) = true then (if decide ((x : Int) - dX n < (W : Int)) = true then (if decide (0 ≤ (y : Int) - dY n) = true then some (decide ((y : Int) - dY n < (H : Int))) else some false) else some false) else some false) = some false := by
          unfold prv at hp
          rw [hxd, hyd] at hp
          split at hp
          · cases hp
          · rename_i hc
            by_cases c1 : 0 ≤ (x : Int) - dX n
            · rw [if_pos (decide_eq_true c1)]
              by_cases c2 : (x : Int) - dX n < (W : Int)
              · rw [if_pos (decide_eq_true c2)]
                by_cases c3 : 0 ≤ (y : Int) - dY n
                · rw [if_pos (decide_eq_true c3), decide_eq_false (fun c4 => hc ⟨c1, c2, c3, c4⟩)]
                · rw [if_neg (by simpa using c3)]
              · rw [if_neg (by simpa using c2)]
            · rw [if_neg (by simpa using c1)]
        rw [ec, Option.bind_some, if_neg (by decide), Option.bind_some, w64_id (by omega) (by omega)]
        show some (Step.next (_, _)) = some (Step.next (_, ((k + 1 : Nat) : Int)))
        have em : mp (H * W * D) D (fun m => if m = i then cC cs D i else Fk p q W H D cs n k m) = mp (H * W * D) D (Fk p q W H D cs n (k + 1)) := mp_congr hD fun m hm e he => by
          unfold Fk
          by_cases hmi : m = i
          · subst hmi
            rw [if_pos rfl, if_pos (by omega), (h.veq hn hi e).1 hp]
          · rw [if_neg hmi]
            have hne : rk (H * W) (bkw (dX n) (dY n)) m ≠ k := fun hh => hmi (rk_inj hm hi (by rw [hh, hrk]))
            by_cases hlt : rk (H * W) (bkw (dX n) (dY n)) m < k
            · rw [if_pos hlt, if_pos (by omega)]
            · rw [if_neg hlt, if_neg (by omega)]
        rw [em]
        rfl
      | some j =>
        obtain ⟨hj, hjr⟩ := prv_ok hdir hi hp
        obtain ⟨x', y', g1, g2, gx, gy, gj⟩ := prv_some hp
        rw [hxd] at g1
        rw [hyd] at g2
        rw [g1, g2, if_pos (by simp), if_pos (by simp only [decide_eq_true_eq]; omega), if_pos (by simp), decide_eq_true (show (y' : Int) < (H : Int) by omega), Option.bind_some, if_pos rfl]
        obtain ⟨l3, l4⟩ := h.lo gx gy
        have hbj := mulB (D := D) hj
        rw [l3, l4, natOf_nat, Option.bind_some, show (((y' * W + x') * D + D : Nat) : Int) - (((y' * W + x') * D : Nat) : Int) = ((D : Nat) : Int) by omega, natOf_nat, Option.bind_some, mp_len, ← gj, chk_pos (by omega), chk_pos (by omega), mp_part _ hbj]
        have hrow : row D ((fun m => if m = i then cC cs D i else Fk p q W H D cs n k m) j) = row D (vV p q W H D cs n j) := row_congr fun d _ => by
          dsimp only
          rw [if_neg (fun hh => by rw [hh] at hjr; omega)]
          unfold Fk
          rw [if_pos (by omega)]
        rw [hrow, min_row hD (by omega), Option.bind_some, reached_eq h.hp hD (by omega) (fun d => by have := h.vb2 n j d; omega), Option.bind_some, path_loop h hn hi hrk hp, Option.bind_some, Option.bind_some, w64_id (by omega) (by omega)]
        rfl
    · show aggregate_path_s1 W H D cs p q n W D (mp (H * W * D) D (Fk p q W H D cs n (H * W))) ((H * W : Nat) : Int) = _
      unfold aggregate_path_s1
      rw [hwh, if_neg (by simp)]
      congr 2
      exact mp_congr hD fun m hm e _ => by unfold Fk; rw [if_pos (rk_lt _ hm)]
  rw [key]
  rfl
end
end Go.Proofs.YtgakaghdiodakaaDoor
