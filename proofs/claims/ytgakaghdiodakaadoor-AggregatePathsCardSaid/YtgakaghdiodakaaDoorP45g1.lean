/-
  PLAIN, chapter 45, door seat: costs aggregated along a direction.
-/
import Derived.Test.YtgakaghdiodakaaDoorP45g0
set_option linter.unusedSimpArgs false
set_option linter.unusedVariables false
namespace Go.E

/-! ### The pixel before -/

def prv (W H : Nat) (dx dy : Int) (i : Nat) : Option Nat :=
  if 0 ≤ ((i % W : Nat) : Int) - dx ∧ ((i % W : Nat) : Int) - dx < W ∧ 0 ≤ ((i / W : Nat) : Int) - dy ∧ ((i / W : Nat) : Int) - dy < H then some ((((i / W : Nat) : Int) - dy).toNat * W + (((i % W : Nat) : Int) - dx).toNat) else none
def bkw (dx dy : Int) : Bool := decide (dy < 0 ∨ (dy = 0 ∧ dx < 0))
def rk (N : Nat) (b : Bool) (i : Nat) : Nat := if b = true then N - 1 - i else i
def Dir (dx dy : Int) : Prop := -1 ≤ dx ∧ dx ≤ 1 ∧ -1 ≤ dy ∧ dy ≤ 1 ∧ ¬ (dx = 0 ∧ dy = 0)
theorem prv_some {W H : Nat} {dx dy : Int} {i j : Nat} (h : prv W H dx dy i = some j) : ∃ x y : Nat, ((i % W : Nat) : Int) - dx = x ∧ ((i / W : Nat) : Int) - dy = y ∧ x < W ∧ y < H ∧ j = y * W + x := by
  unfold prv at h
  split at h
  · rename_i hc
    refine ⟨(((i % W : Nat) : Int) - dx).toNat, (((i / W : Nat) : Int) - dy).toNat, by omega, by omega, by omega, by omega, ?_⟩
    exact (Option.some.inj h).symm
  · cases h
theorem prv_ok {W H : Nat} {dx dy : Int} (hd : Dir dx dy) {i j : Nat} (hi : i < H * W) (h : prv W H dx dy i = some j) : j < H * W ∧ rk (H * W) (bkw dx dy) j < rk (H * W) (bkw dx dy) i := by
  obtain ⟨x, y, h1, h2, hx, hy, rfl⟩ := prv_some h
  obtain ⟨d1, d2, d3, d4, d5⟩ := hd
  have hb : (y + 1) * W ≤ H * W := Nat.mul_le_mul_right W hy
  rw [Nat.succ_mul] at hb
  have e := Nat.div_add_mod i W
  have hu := Nat.mod_lt i (show 0 < W by omega)
  rw [Nat.mul_comm] at e
  generalize i % W = u at *
  generalize i / W = v at *
  refine ⟨by omega, ?_⟩
  unfold rk bkw
  by_cases c1 : dy < 0 ∨ (dy = 0 ∧ dx < 0)
  · rw [decide_eq_true c1, if_pos rfl, if_pos rfl]
    by_cases c2 : dy < 0
    · obtain rfl : y = v + 1 := by omega
      rw [Nat.succ_mul] at *
      omega
    · obtain rfl : y = v := by omega
      omega
  · rw [decide_eq_false c1, if_neg (by decide), if_neg (by decide)]
    by_cases c2 : 0 < dy
    · obtain rfl : v = y + 1 := by omega
      rw [Nat.succ_mul] at *
      omega
    · obtain rfl : y = v := by omega
      omega
theorem rk_lt {N i : Nat} (b : Bool) (h : i < N) : rk N b i < N := by
  unfold rk
  split <;> omega
theorem rk_inj {N i j : Nat} {b : Bool} (hi : i < N) (hj : j < N) (h : rk N b i = rk N b j) : i = j := by
  unfold rk at h
  split at h <;> omega

/-! ### The aggregated costs -/

def PV (p q : Int) (C : Nat → Nat → Int) (D : Nat) (pr : Nat → Option Nat) : Nat → Nat → Nat → Int
  | 0, i, d => C i d
  | n + 1, i, d => C i d + (match pr i with
    | none => 0
    | some j => tr p q D (PV p q C D pr n j) d - mn (PV p q C D pr n j) 0 (D - 1))
theorem PV_stable {p q : Int} {C : Nat → Nat → Int} {D : Nat} {pr : Nat → Option Nat} {N : Nat} {r : Nat → Nat} (h : ∀ i j, i < N → pr i = some j → j < N ∧ r j < r i) :
    ∀ n i, i < N → r i ≤ n → ∀ m, r i ≤ m → PV p q C D pr n i = PV p q C D pr m i
  | 0, i, hi, h0, m, hm => by
    have hn : pr i = none := by
      cases hp : pr i with
      | none => rfl
      | some j => have := h i j hi hp; omega
    cases m with
    | zero => rfl
    | succ m =>
      funext d
      simp only [PV, hn]
      omega
  | n + 1, i, hi, h0, m, hm => by
    funext d
    cases hp : pr i with
    | none =>
      cases m with
      | zero => simp only [PV, hp]; omega
      | succ m => simp only [PV, hp]
    | some j =>
      obtain ⟨h1, h2⟩ := h i j hi hp
      cases m with
      | zero => omega
      | succ m =>
        simp only [PV, hp]
        rw [PV_stable h n j h1 (by omega) m (by omega)]
theorem PV_eq {p q : Int} {C : Nat → Nat → Int} {D : Nat} {pr : Nat → Option Nat} {N : Nat} {r : Nat → Nat} (h : ∀ i j, i < N → pr i = some j → j < N ∧ r j < r i) (hr : ∀ i, i < N → r i < N) {i : Nat} (hi : i < N) (d : Nat) :
    PV p q C D pr N i d = C i d + (match pr i with
      | none => 0
      | some j => tr p q D (PV p q C D pr N j) d - mn (PV p q C D pr N j) 0 (D - 1)) := by
  have := hr i hi
  rw [PV_stable h N i hi (by omega) (N + 1) (by omega)]
  rfl
theorem tr_near {p q : Int} (hp : PB p q) {D : Nat} (hD : 0 < D) (f : Nat → Int) (d : Nat) : mn f 0 (D - 1) ≤ tr p q D f d ∧ tr p q D f d ≤ mn f 0 (D - 1) + q := by
  obtain ⟨e, h1, h2⟩ := tr_ex (p := p) (q := q) hD f d
  have h3 := vp_bound hp d e
  have h4 := mn_le f 0 (D - 1) e (by omega) (by omega)
  have ha := am_in f 0 (D - 1)
  have h5 := tr_le (p := p) (q := q) (W := D) f d (e := am f 0 (D - 1)) (by omega)
  rw [am_val f 0 (D - 1)] at h5
  have h6 := vp_bound hp d (am f 0 (D - 1))
  omega
theorem PV_bound {p q : Int} (hp : PB p q) {C : Nat → Nat → Int} {D : Nat} (hD : 0 < D) {pr : Nat → Option Nat} (n i d : Nat) : C i d ≤ PV p q C D pr n i d ∧ PV p q C D pr n i d ≤ C i d + q := by
  obtain ⟨h1, h2, h3⟩ := hp
  cases n with
  | zero => simp only [PV]; omega
  | succ n =>
    cases hpr : pr i with
    | none =>
      have e : PV p q C D pr (n + 1) i d = C i d + 0 := by simp only [PV, hpr]
      omega
    | some j =>
      have := tr_near ⟨h1, h2, h3⟩ hD (PV p q C D pr n j) d
      have e : PV p q C D pr (n + 1) i d = C i d + (tr p q D (PV p q C D pr n j) d - mn (PV p q C D pr n j) 0 (D - 1)) := by simp only [PV, hpr]
      omega
end Go.E

namespace Go.Proofs.YtgakaghdiodakaaDoor
open Go.E

/-! ### Lists of costs -/

def mp (M D : Nat) (f : Nat → Nat → Int) : List Int := row M (fun z => f (z / D) (z % D))
theorem mp_len (M D : Nat) (f : Nat → Nat → Int) : (mp M D f).length = M := row_len _ _
theorem divD {D i d : Nat} (hd : d < D) : (i * D + d) / D = i ∧ (i * D + d) % D = d := by
  have h0 : 0 < D := by omega
  rw [Nat.mul_comm]
  refine ⟨?_, ?_⟩
  · rw [Nat.mul_add_div h0, Nat.div_eq_of_lt hd, Nat.add_zero]
  · rw [Nat.mul_add_mod, Nat.mod_eq_of_lt hd]
theorem inD {D i z : Nat} (hD : 0 < D) : (i * D ≤ z ∧ z < i * D + D) ↔ z / D = i := by
  have e := Nat.div_add_mod z D
  have hm := Nat.mod_lt z hD
  rw [Nat.mul_comm] at e
  constructor
  · rintro ⟨h1, h2⟩
    exact (Nat.div_eq_of_lt_le h1 (by rw [Nat.succ_mul]; exact h2))
  · rintro rfl
    omega
theorem mp_part {M D i : Nat} (f : Nat → Nat → Int) (h : i * D + D ≤ M) : ((mp M D f).take (i * D + D)).drop (i * D) = row D (f i) := by
  rw [slice_eq (by rw [mp_len]; exact h)]
  refine row_congr fun d hd => ?_
  rw [List.getD_eq_getElem?_getD]
  unfold mp
  rw [row_get _ _ (by omega), (divD hd).1, (divD hd).2]
  rfl
theorem mp_getD {M D i d : Nat} (f : Nat → Nat → Int) (hd : d < D) (h : i * D + D ≤ M) : (mp M D f).getD (i * D + d) 0 = f i d := by
  rw [List.getD_eq_getElem?_getD]
  unfold mp
  rw [row_get _ _ (by omega), (divD hd).1, (divD hd).2]
  rfl
theorem mp_set {M D i d : Nat} (f : Nat → Nat → Int) (v : Int) (hd : d < D) (h : i * D + D ≤ M) : (mp M D f).set (i * D + d) v = mp M D (fun m e => if m = i ∧ e = d then v else f m e) := by
  apply List.ext_getElem?
  intro z
  rw [List.getElem?_set, mp_len]
  by_cases hz : z < M
  · have e := Nat.div_add_mod z D
    rw [Nat.mul_comm] at e
    unfold mp
    rw [row_get _ _ hz, row_get _ _ hz]
    by_cases q : i * D + d = z
    · subst q
      dsimp only
      rw [if_pos rfl, if_pos hz, if_pos ⟨(divD hd).1, (divD hd).2⟩]
    · dsimp only
      rw [if_neg q, if_neg]
      rintro ⟨h1, h2⟩
      rw [h1, h2] at e
      exact q e
  · have h1 : (mp M D f)[z]? = none := List.getElem?_eq_none (by rw [mp_len]; omega)
    have h2 : (mp M D (fun m e => if m = i ∧ e = d then v else f m e))[z]? = none := List.getElem?_eq_none (by rw [mp_len]; omega)
    rw [h1, h2]
    split
    · rw [if_neg (by omega)]
    · rfl
theorem mp_cpy {M D i : Nat} (hD : 0 < D) (f : Nat → Nat → Int) (g : Nat → Int) (h : i * D + D ≤ M) : cpy (mp M D f) (i * D) D (row D g) = mp M D (fun m => if m = i then g else f m) := by
  unfold cpy
  rw [row_len, Nat.min_self]
  have e1 : (row D g).take D = row D g := List.take_of_length_le (by rw [row_len]; omega)
  rw [e1]
  apply List.ext_getElem?
  intro z
  have e := Nat.div_add_mod z D
  have hm := Nat.mod_lt z hD
  rw [Nat.mul_comm] at e
  rw [List.append_assoc, List.getElem?_append, List.length_take, mp_len, List.getElem?_take, List.getElem?_append, row_len, List.getElem?_drop]
  by_cases hz : z < M
  · by_cases c1 : z < i * D
    · rw [if_pos (by omega), if_pos c1]
      unfold mp
      rw [row_get _ _ hz, row_get _ _ hz]
      dsimp only
      rw [if_neg (fun h2 : z / D = i => by have := (inD hD).2 h2; omega)]
    · rw [if_neg (by omega)]
      by_cases c2 : z < i * D + D
      · have hi := (inD hD).1 ⟨by omega, c2⟩
        rw [if_pos (by omega), row_get _ _ (by omega)]
        unfold mp
        rw [row_get _ _ hz]
        dsimp only
        rw [if_pos hi]
        congr 2
        rw [hi] at e
        omega
      · rw [if_neg (by omega), show i * D + D + (z - min (i * D) M - D) = z by omega]
        unfold mp
        rw [row_get _ _ hz, row_get _ _ hz]
        dsimp only
        rw [if_neg (fun h2 : z / D = i => by have := (inD hD).2 h2; omega)]
  · have h2 : (mp M D (fun m => if m = i then g else f m))[z]? = none := List.getElem?_eq_none (by rw [mp_len]; omega)
    rw [h2, if_neg (by omega), if_neg (by omega)]
    exact List.getElem?_eq_none (by rw [mp_len]; omega)
theorem mp_congr {N D : Nat} (hD : 0 < D) {f g : Nat → Nat → Int} (h : ∀ m, m < N → ∀ e, e < D → f m e = g m e) : mp (N * D) D f = mp (N * D) D g := row_congr fun z hz => h _ (Nat.div_lt_of_lt_mul (by rw [Nat.mul_comm]; exact hz)) _ (Nat.mod_lt _ hD)
theorem mp_zero {M D : Nat} : List.replicate M (0 : Int) = mp M D (fun _ _ => 0) := by
  apply List.ext_getElem?
  intro z
  rw [List.getElem?_replicate]
  by_cases hz : z < M
  · unfold mp; rw [if_pos hz, row_get _ _ hz]
  · rw [if_neg hz, List.getElem?_eq_none (by rw [mp_len]; omega)]
end Go.Proofs.YtgakaghdiodakaaDoor
