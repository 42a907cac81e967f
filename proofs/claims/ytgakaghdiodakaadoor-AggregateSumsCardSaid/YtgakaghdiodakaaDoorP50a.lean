/-
  PLAIN, chapter 50: tables as functions, least totals, seams.
-/
import Derived.Test.YtgakaghdiodakaaDoorP1
set_option linter.unusedSimpArgs false
set_option linter.unusedVariables false
namespace Go.E

def row (W : Nat) (f : Nat → Int) : List Int := (List.range W).map f
def tbl (W H : Nat) (c : Nat → Nat → Int) : List (List Int) := (List.range H).map fun y => row W (c y)

theorem row_len (W : Nat) (f : Nat → Int) : (row W f).length = W := by simp [row]
theorem row_get (W : Nat) (f : Nat → Int) {x : Nat} (hx : x < W) : (row W f)[x]? = some (f x) := by simp [row, hx]
theorem tbl_len (W H : Nat) (c : Nat → Nat → Int) : (tbl W H c).length = H := by simp [tbl]
theorem tbl_get (W H : Nat) (c : Nat → Nat → Int) {y : Nat} (hy : y < H) : (tbl W H c)[y]? = some (row W (c y)) := by simp [tbl, hy]
theorem row_ix (W : Nat) (f : Nat → Int) {x : Nat} {z : Int} (hz : z = x) (hx : x < W) : ix (row W f) z = some (f x) := ix_get hz (row_get W f hx)
theorem tbl_ix (W H : Nat) (c : Nat → Nat → Int) {y : Nat} {z : Int} (hz : z = y) (hy : y < H) : ix (tbl W H c) z = some (row W (c y)) := ix_get hz (tbl_get W H c hy)
theorem tbl_ix0 (W : Nat) {H : Nat} (c : Nat → Nat → Int) (hH : 0 < H) : ix (tbl W H c) 0 = some (row W (c 0)) := tbl_ix W H c (y := 0) (z := 0) rfl hH
theorem row_ix0 {W : Nat} (f : Nat → Int) (hW : 0 < W) : ix (row W f) 0 = some (f 0) := row_ix W f (x := 0) (z := 0) rfl hW
theorem row_succ (x : Nat) (f : Nat → Int) : row (x + 1) f = row x f ++ [f x] := by simp [row, List.range_succ]
theorem row_congr {W : Nat} {f g : Nat → Int} (h : ∀ x, x < W → f x = g x) : row W f = row W g := List.map_congr_left fun x hx => h x (List.mem_range.1 hx)
theorem tbl_congr {W H : Nat} {c d : Nat → Nat → Int} (h : ∀ y x, y < H → x < W → c y x = d y x) : tbl W H c = tbl W H d :=
  List.map_congr_left fun y hy => row_congr fun x hx => h y x (List.mem_range.1 hy) hx
theorem tbl_succ (W H : Nat) (c : Nat → Nat → Int) : tbl W (H + 1) c = tbl W H c ++ [row W (c H)] := by simp [tbl, List.range_succ]
theorem row_of (l : List Int) : l = row l.length (fun x => l.getD x 0) := by
  apply List.ext_getElem?
  intro i
  by_cases hi : i < l.length
  · rw [row_get _ _ hi, List.getElem?_eq_getElem hi, getD_eq hi]
  · rw [List.getElem?_eq_none (by omega), List.getElem?_eq_none (by rw [row_len]; omega)]
theorem tbl_of {W : Nat} (t : List (List Int)) (h : ∀ r ∈ t, r.length = W) : t = tbl W t.length (fun y x => (t.getD y []).getD x 0) := by
  apply List.ext_getElem?
  intro i
  by_cases hi : i < t.length
  · rw [tbl_get _ _ _ hi, List.getElem?_eq_getElem hi]
    congr 1
    have e := row_of t[i]
    rw [h _ (List.getElem_mem hi)] at e
    rw [getD_eq hi]
    exact e
  · rw [List.getElem?_eq_none (by omega), List.getElem?_eq_none (by rw [tbl_len]; omega)]

/-! ### The least of a stretch -/

def mn (f : Nat → Int) (a : Nat) : Nat → Int
  | 0 => f a
  | k + 1 => if f (a + (k + 1)) < mn f a k then f (a + (k + 1)) else mn f a k
def am (f : Nat → Int) (a : Nat) : Nat → Nat
  | 0 => a
  | k + 1 => if f (a + (k + 1)) < f (am f a k) then a + (k + 1) else am f a k

theorem am_val (f : Nat → Int) (a : Nat) : ∀ k, f (am f a k) = mn f a k
  | 0 => rfl
  | k + 1 => by
    have := am_val f a k
    simp only [am, mn, this]
    split <;> simp_all
theorem am_in (f : Nat → Int) (a : Nat) : ∀ k, a ≤ am f a k ∧ am f a k ≤ a + k
  | 0 => ⟨Nat.le_refl _, Nat.le_refl _⟩
  | k + 1 => by
    have := am_in f a k
    simp only [am]
    split <;> omega
theorem mn_le (f : Nat → Int) (a : Nat) : ∀ k z, a ≤ z → z ≤ a + k → mn f a k ≤ f z
  | 0, z, h1, h2 => by
    obtain rfl : z = a := by omega
    exact Int.le_refl _
  | k + 1, z, h1, h2 => by
    simp only [mn]
    by_cases hz : z = a + (k + 1)
    · subst hz; split <;> omega
    · have := mn_le f a k z h1 (by omega)
      split <;> omega
theorem mn_uniq (f : Nat → Int) (a k : Nat) (m : Int) (h1 : ∃ z, a ≤ z ∧ z ≤ a + k ∧ f z = m) (h2 : ∀ z, a ≤ z → z ≤ a + k → m ≤ f z) : m = mn f a k := by
  obtain ⟨z, h3, h4, h5⟩ := h1
  have e1 := mn_le f a k z h3 h4
  have e2 := h2 _ (am_in f a k).1 (am_in f a k).2
  rw [am_val f a k] at e2
  omega
theorem am_first (f : Nat → Int) (a : Nat) : ∀ k z, a ≤ z → z < am f a k → mn f a k < f z
  | 0, z, h1, h2 => by simp only [am] at h2; omega
  | k + 1, z, h1, h2 => by
    simp only [am] at h2
    simp only [mn]
    by_cases hb : f (a + (k + 1)) < f (am f a k)
    · rw [if_pos hb] at h2
      have e := am_val f a k
      rw [if_pos (by rw [← e]; exact hb)]
      have := mn_le f a k z h1 (by omega)
      omega
    · rw [if_neg hb] at h2
      have e := am_val f a k
      rw [if_neg (by rw [← e]; exact hb)]
      exact am_first f a k z h1 h2
theorem am_uniq (f : Nat → Int) (a k i : Nat) (h1 : a ≤ i) (h2 : i ≤ a + k) (h3 : ∀ z, a ≤ z → z ≤ a + k → f i ≤ f z) (h4 : ∀ z, a ≤ z → z < i → f i < f z) : i = am f a k := by
  have e1 := am_in f a k
  have e2 := am_val f a k
  have e3 := mn_le f a k i h1 h2
  have e4 := h3 _ e1.1 e1.2
  rcases Nat.lt_trichotomy i (am f a k) with h | h | h
  · have := am_first f a k i h1 h; omega
  · exact h
  · have := h4 _ e1.1 h; omega
theorem mn_congr {f g : Nat → Int} {a : Nat} {d : Int} : ∀ {k : Nat}, (∀ z, a ≤ z → z ≤ a + k → g z = f z + d) → mn g a k = mn f a k + d
  | 0, h => h a (by omega) (by omega)
  | k + 1, h => by
    have e1 := mn_congr (k := k) (fun z h1 h2 => h z h1 (by omega))
    have e2 := h (a + (k + 1)) (by omega) (by omega)
    simp only [mn, e1, e2]
    by_cases hq : f (a + (k + 1)) < mn f a k
    · rw [if_pos hq, if_pos (by omega)]
    · rw [if_neg hq, if_neg (by omega)]
theorem am_congr {f g : Nat → Int} {a : Nat} {d : Int} : ∀ {k : Nat}, (∀ z, a ≤ z → z ≤ a + k → g z = f z + d) → am g a k = am f a k
  | 0, h => rfl
  | k + 1, h => by
    have e1 := am_congr (k := k) (fun z h1 h2 => h z h1 (by omega))
    have e2 := h (a + (k + 1)) (by omega) (by omega)
    have e3 := am_in f a k
    have e4 := h (am f a k) e3.1 (by omega)
    simp only [am, e1, e2, e4]
    by_cases hq : f (a + (k + 1)) < f (am f a k)
    · rw [if_pos hq, if_pos (by omega)]
    · rw [if_neg hq, if_neg (by omega)]

/-! ### Neighbours -/

/-- How many columns the neighbours of x reach beyond the first. -/
def wd (W x : Nat) : Nat := min (W - 1) (x + 1) - (x - 1)
theorem wd_top {W x : Nat} (hx : x < W) : x - 1 + wd W x = min (W - 1) (x + 1) := by unfold wd; omega
theorem wd_iff {W x z : Nat} (hx : x < W) : (x - 1 ≤ z ∧ z ≤ x - 1 + wd W x) ↔ (z < W ∧ z ≤ x + 1 ∧ x ≤ z + 1) := by rw [wd_top hx]; omega
def nb (W : Nat) (f : Nat → Int) (x : Nat) : Int := mn f (x - 1) (wd W x)
theorem nb_le {W : Nat} {f : Nat → Int} {x z : Nat} (hx : x < W) (hz : z < W) (h1 : z ≤ x + 1) (h2 : x ≤ z + 1) : nb W f x ≤ f z :=
  let h := (wd_iff hx).2 ⟨hz, h1, h2⟩
  mn_le f _ _ z h.1 h.2
theorem nb_ex {W : Nat} {f : Nat → Int} {x : Nat} (hx : x < W) : ∃ z, z < W ∧ z ≤ x + 1 ∧ x ≤ z + 1 ∧ f z = nb W f x := by
  have h := am_in f (x - 1) (wd W x)
  have h2 := (wd_iff hx).1 h
  exact ⟨_, h2.1, h2.2.1, h2.2.2, am_val _ _ _⟩
theorem nb_congr {W : Nat} {f g : Nat → Int} {x : Nat} {d : Int} (hx : x < W) (h : ∀ z, z < W → g z = f z + d) : nb W g x = nb W f x + d :=
  mn_congr fun z h1 h2 => h z ((wd_iff hx).1 ⟨h1, h2⟩).1
theorem nb_eq {W : Nat} {f g : Nat → Int} {x : Nat} (hx : x < W) (h : ∀ z, z < W → g z = f z) : nb W g x = nb W f x := by
  have := nb_congr (d := 0) hx (f := f) (g := g) (fun z hz => by rw [h z hz]; omega)
  omega

/-! ### Least totals -/

/-- The least total from a place of row y down over n more rows. -/
def Bl (c : Nat → Nat → Int) (W : Nat) : Nat → Nat → Nat → Int
  | 0, y, x => c y x
  | n + 1, y, x => c y x + nb W (Bl c W n (y + 1)) x
/-- The least total down to a place. -/
def Dn (c : Nat → Nat → Int) (W : Nat) : Nat → Nat → Int
  | 0, x => c 0 x
  | y + 1, x => c (y + 1) x + nb W (Dn c W y) x

theorem Bl_congr {c d : Nat → Nat → Int} {W : Nat} : ∀ (n y x : Nat), x < W → (∀ j z, y ≤ j → j ≤ y + n → z < W → d j z = c j z) → Bl d W n y x = Bl c W n y x
  | 0, y, x, hx, h => h y x (by omega) (by omega) hx
  | n + 1, y, x, hx, h => by
    simp only [Bl]
    rw [h y x (by omega) (by omega) hx, nb_eq hx (fun z hz => Bl_congr n (y + 1) z hz (fun j z h1 h2 h3 => h j z (by omega) (by omega) h3))]
theorem Bl_bound {c : Nat → Nat → Int} {W : Nat} {K : Int} (hK : ∀ y x, x < W → 0 ≤ c y x ∧ c y x ≤ K) : ∀ (n y x : Nat), x < W → 0 ≤ Bl c W n y x ∧ Bl c W n y x ≤ (n + 1) * K
  | 0, y, x, hx => by simpa [Bl] using hK y x hx
  | n + 1, y, x, hx => by
    obtain ⟨z, h1, h2, h3, h4⟩ := nb_ex (f := Bl c W n (y + 1)) hx
    have e1 := Bl_bound hK n (y + 1) z h1
    have e2 := hK y x hx
    simp only [Bl, ← h4]
    have : (((n + 1 : Nat) : Int) + 1) * K = ((n : Int) + 1) * K + K := by rw [Int.add_mul ((n + 1 : Nat) : Int), Int.one_mul]; push_cast; omega
    omega
theorem Dn_bound {c : Nat → Nat → Int} {W : Nat} {K : Int} (hK : ∀ y x, x < W → 0 ≤ c y x ∧ c y x ≤ K) : ∀ (y x : Nat), x < W → 0 ≤ Dn c W y x ∧ Dn c W y x ≤ (y + 1) * K
  | 0, x, hx => by simpa [Dn] using hK 0 x hx
  | y + 1, x, hx => by
    obtain ⟨z, h1, h2, h3, h4⟩ := nb_ex (f := Dn c W y) hx
    have e1 := Dn_bound hK y z h1
    have e2 := hK (y + 1) x hx
    simp only [Dn, ← h4]
    have : (((y + 1 : Nat) : Int) + 1) * K = ((y : Int) + 1) * K + K := by rw [Int.add_mul ((y + 1 : Nat) : Int), Int.one_mul]; push_cast; omega
    omega

/-- The first of the least seams. -/
def col (c : Nat → Nat → Int) (W H : Nat) : Nat → Nat
  | 0 => am (Bl c W (H - 1) 0) 0 (W - 1)
  | y + 1 => am (Bl c W (H - 1 - (y + 1)) (y + 1)) (col c W H y - 1) (wd W (col c W H y))

theorem col_lt (c : Nat → Nat → Int) {W : Nat} (hW : 0 < W) (H : Nat) : ∀ y, col c W H y < W
  | 0 => by have := am_in (Bl c W (H - 1) 0) 0 (W - 1); simp only [col]; omega
  | y + 1 => by
    have h := am_in (Bl c W (H - 1 - (y + 1)) (y + 1)) (col c W H y - 1) (wd W (col c W H y))
    exact ((wd_iff (col_lt c hW H y)).1 h).1
theorem col_near (c : Nat → Nat → Int) {W : Nat} (hW : 0 < W) (H y : Nat) : col c W H (y + 1) ≤ col c W H y + 1 ∧ col c W H y ≤ col c W H (y + 1) + 1 := by
  have h := am_in (Bl c W (H - 1 - (y + 1)) (y + 1)) (col c W H y - 1) (wd W (col c W H y))
  exact ((wd_iff (col_lt c hW H y)).1 h).2

/-- The total of a seam over n rows. -/
def ss (c : Nat → Nat → Int) (r : Nat → Nat) : Nat → Int
  | 0 => 0
  | n + 1 => ss c r n + c n (r n)
def IsSeam (W H : Nat) (r : Nat → Nat) : Prop := (∀ y, y < H → r y < W) ∧ ∀ y, y + 1 < H → r (y + 1) ≤ r y + 1 ∧ r y ≤ r (y + 1) + 1
theorem col_seam (c : Nat → Nat → Int) {W : Nat} (hW : 0 < W) (H : Nat) : IsSeam W H (col c W H) := ⟨fun y _ => col_lt c hW H y, fun y _ => col_near c hW H y⟩

def lt (c : Nat → Nat → Int) (W H : Nat) : Int := Bl c W (H - 1) 0 (col c W H 0)

theorem col_sum (c : Nat → Nat → Int) {W H : Nat} (hW : 0 < W) : ∀ y, y < H → ss c (col c W H) y + Bl c W (H - 1 - y) y (col c W H y) = lt c W H
  | 0, _ => by simp [ss, lt]
  | y + 1, h => by
    have ih := col_sum c (H := H) hW y (by omega)
    obtain ⟨k, hk⟩ : ∃ k, H - 1 - y = k + 1 := ⟨H - 1 - y - 1, by omega⟩
    have e : H - 1 - (y + 1) = k := by omega
    rw [hk] at ih
    simp only [Bl, nb] at ih
    rw [← am_val (Bl c W k (y + 1)) _ _] at ih
    have e2 : col c W H (y + 1) = am (Bl c W k (y + 1)) (col c W H y - 1) (wd W (col c W H y)) := by rw [← e]; rfl
    rw [e, e2]
    simp only [ss]
    omega
theorem col_total (c : Nat → Nat → Int) {W H : Nat} (hW : 0 < W) (hH : 0 < H) : ss c (col c W H) H = lt c W H := by
  have h := col_sum c (H := H) hW (H - 1) (by omega)
  obtain ⟨k, rfl⟩ : ∃ k, H = k + 1 := ⟨H - 1, by omega⟩
  simp only [Nat.add_sub_cancel, Nat.sub_self, Bl] at h
  simpa [ss] using h
theorem seam_sum (c : Nat → Nat → Int) {W H : Nat} {r : Nat → Nat} (hr : IsSeam W H r) : ∀ y, y < H → Bl c W (H - 1) 0 (r 0) ≤ ss c r y + Bl c W (H - 1 - y) y (r y)
  | 0, _ => by simp [ss]
  | y + 1, h => by
    have ih := seam_sum c hr y (by omega)
    obtain ⟨k, hk⟩ : ∃ k, H - 1 - y = k + 1 := ⟨H - 1 - y - 1, by omega⟩
    have e : H - 1 - (y + 1) = k := by omega
    rw [hk] at ih
    have h1 := hr.2 y h
    have := nb_le (f := Bl c W k (y + 1)) (hr.1 y (by omega)) (hr.1 (y + 1) h) h1.1 h1.2
    rw [e]
    simp only [ss]
    simp only [Bl] at ih
    omega
theorem lt_le (c : Nat → Nat → Int) {W H : Nat} (hH : 0 < H) {r : Nat → Nat} (hr : IsSeam W H r) : lt c W H ≤ ss c r H := by
  have h := seam_sum c hr (H - 1) (by omega)
  have h0 := hr.1 0 hH
  have h1 : lt c W H ≤ Bl c W (H - 1) 0 (r 0) := by
    show Bl c W (H - 1) 0 (am (Bl c W (H - 1) 0) 0 (W - 1)) ≤ _
    rw [am_val (Bl c W (H - 1) 0) 0 (W - 1)]
    exact mn_le _ _ _ _ (by omega) (by omega)
  obtain ⟨k, rfl⟩ : ∃ k, H = k + 1 := ⟨H - 1, by omega⟩
  simp only [Nat.add_sub_cancel, Nat.sub_self, Bl] at h h1
  simp only [ss]
  omega
theorem ss_le {c d : Nat → Nat → Int} {r : Nat → Nat} : ∀ n, (∀ y, y < n → c y (r y) ≤ d y (r y)) → ss c r n ≤ ss d r n
  | 0, _ => Int.le_refl _
  | n + 1, h => by
    have e1 := ss_le n (fun y hy => h y (by omega))
    have e2 := h n (by omega)
    simp only [ss]; omega
theorem ss_eq {c d : Nat → Nat → Int} {r q : Nat → Nat} : ∀ n, (∀ y, y < n → c y (r y) = d y (q y)) → ss c r n = ss d q n
  | 0, _ => rfl
  | n + 1, h => by
    have e1 := ss_eq n (fun y hy => h y (by omega))
    have e2 := h n (by omega)
    simp only [ss]; omega
theorem ss_bound {c : Nat → Nat → Int} {r : Nat → Nat} {K : Int} : ∀ n, (∀ y, y < n → 0 ≤ c y (r y) ∧ c y (r y) ≤ K) → 0 ≤ ss c r n ∧ ss c r n ≤ n * K
  | 0, _ => by simp [ss]
  | n + 1, h => by
    have e1 := ss_bound n (fun y hy => h y (by omega))
    have e2 := h n (by omega)
    simp only [ss]
    have : ((n + 1 : Nat) : Int) * K = n * K + K := by push_cast; rw [Int.add_mul, Int.one_mul]
    omega
theorem ss_ge {c : Nat → Nat → Int} {r : Nat → Nat} {j : Nat} : ∀ n, j < n → (∀ y, y < n → 0 ≤ c y (r y)) → c j (r j) ≤ ss c r n
  | n + 1, hj, h => by
    have e2 := h n (by omega)
    simp only [ss]
    by_cases hq : j = n
    · subst hq
      have : 0 ≤ ss c r j := by
        have : ∀ k, k ≤ j → 0 ≤ ss c r k := fun k => by
          induction k with
          | zero => intro _; simp [ss]
          | succ k ih => intro hk; have := ih (by omega); have := h k (by omega); simp only [ss]; omega
        exact this j (Nat.le_refl _)
      omega
    · have := ss_ge (j := j) n (by omega) (fun y hy => h y (by omega))
      omega

/-! ### Potentials -/

theorem pot_le {c p : Nat → Nat → Int} {W H : Nat} (h0 : ∀ x, x < W → p 0 x ≤ c 0 x) (hp : ∀ y x, y + 1 < H → x < W → p (y + 1) x ≤ nb W (p y) x + c (y + 1) x) {r : Nat → Nat} (hr : IsSeam W H r) :
    ∀ y, y < H → p y (r y) ≤ ss c r (y + 1)
  | 0, h => by have := h0 _ (hr.1 0 h); simp only [ss]; omega
  | y + 1, h => by
    have ih := pot_le h0 hp hr y (by omega)
    have e := hp y (r (y + 1)) h (hr.1 _ h)
    have h1 := hr.2 y h
    have := nb_le (f := p y) (hr.1 _ h) (hr.1 y (by omega)) h1.2 h1.1
    simp only [ss] at ih ⊢
    omega
theorem Dn_ge (c : Nat → Nat → Int) {W H : Nat} : ∀ y, y < H → ∀ x, x < W → lt c W H ≤ Dn c W y x + Bl c W (H - 1 - y) y x - c y x
  | 0, _, x, hx => by
    have : lt c W H ≤ Bl c W (H - 1) 0 x := by
      show Bl c W (H - 1) 0 (am (Bl c W (H - 1) 0) 0 (W - 1)) ≤ _
      rw [am_val (Bl c W (H - 1) 0) 0 (W - 1)]
      exact mn_le _ _ _ _ (by omega) (by omega)
    simp only [Dn, Nat.sub_zero]
    omega
  | y + 1, h, x, hx => by
    obtain ⟨z, h1, h2, h3, h4⟩ := nb_ex (f := Dn c W y) hx
    have ih := Dn_ge c (H := H) y (by omega) z h1
    obtain ⟨k, hk⟩ : ∃ k, H - 1 - y = k + 1 := ⟨H - 1 - y - 1, by omega⟩
    have e : H - 1 - (y + 1) = k := by omega
    rw [hk] at ih
    simp only [Bl] at ih
    have := nb_le (f := Bl c W k (y + 1)) h1 hx h3 h2
    rw [e]
    simp only [Dn]
    omega
theorem Dn_last (c : Nat → Nat → Int) {W H : Nat} (hH : 0 < H) {x : Nat} (hx : x < W) : lt c W H ≤ Dn c W (H - 1) x := by
  have := Dn_ge c (H := H) (H - 1) (by omega) x hx
  rw [Nat.sub_self] at this
  simp only [Bl] at this
  omega
end Go.E
