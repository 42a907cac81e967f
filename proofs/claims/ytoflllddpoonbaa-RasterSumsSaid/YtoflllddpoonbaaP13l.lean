/-
  PLAIN, chapter 13: sums.
-/
import Derived.Test.YtoflllddpoonbaaP13h
set_option linter.unusedSimpArgs false
namespace Go.Proofs.Ytoflllddpoonbaa
open Go.E

def Rc (g : Nat → Nat → Int) (X Y A B : Nat) : Int := tot (fun j => tot (fun i => g (X + i) (Y + j)) A) B

theorem tot_split (f : Nat → Int) (a : Nat) : ∀ b, tot f (a + b) = tot f a + tot (fun i => f (a + i)) b
  | 0 => by simp [tot]
  | b + 1 => by
    rw [← Nat.add_assoc]
    simp only [tot]
    rw [tot_split f a b]
    omega

theorem Rc_Sm (g : Nat → Nat → Int) (X Y A B : Nat) : Rc g X Y A B = Sm g (X + A) (Y + B) - Sm g (X + A) Y - Sm g X (Y + B) + Sm g X Y := by
  unfold Rc Sm
  rw [tot_split (fun j => tot (fun i => g i j) (X + A)) Y B, tot_split (fun j => tot (fun i => g i j) X) Y B]
  have : tot (fun i => tot (fun i_1 => g i_1 (Y + i)) (X + A)) B = tot (fun i => tot (fun i_1 => g i_1 (Y + i)) X) B + tot (fun j => tot (fun i => g (X + i) (Y + j)) A) B := by
    rw [← tot_add]
    exact tot_congr B (fun j _ => tot_split (fun i => g i (Y + j)) X A)
  omega

theorem Rc_zero (g : Nat → Nat → Int) (A B : Nat) : Rc g 0 0 A B = Sm g A B := by
  unfold Rc Sm
  simp only [Nat.zero_add]

theorem refsum_good {W H : Nat} {m : Int} {g : Nat → Nat → Int} (bd : Bd W H m g) (X Y A B : Nat) (hX : X + A ≤ W) (hY : Y + B ≤ H) : fiducialref13_Sum W H m (grid W H g) X Y A B = some (Rc g X Y A B) := by
  obtain ⟨b1, b2, b3, b4, b5, b6, b7⟩ := bd
  have eX : w64 ((X : Int) + (A : Int)) = ((X + A : Nat) : Int) := by rw [w64_id (by omega) (by omega)]; simp
  have eY : w64 ((Y : Int) + (B : Int)) = ((Y + B : Nat) : Int) := by rw [w64_id (by omega) (by omega)]; simp
  have rb : ∀ j k, j < B → k ≤ A → 0 ≤ tot (fun i => g (X + i) (Y + j)) k ∧ tot (fun i => g (X + i) (Y + j)) k ≤ 64 * 65535 := fun j k hj hk => by
    have := tot_bound (f := fun i => g (X + i) (Y + j)) (c := 65535) k (fun i hi => by
      have := b7 (X + i) (Y + j) (by omega) (by omega)
      omega)
    have h2 : (k : Int) * 65535 ≤ 64 * 65535 := Int.mul_le_mul_of_nonneg_right (by omega) (by omega)
    omega
  have ob : ∀ j, j ≤ B → 0 ≤ tot (fun j => tot (fun i => g (X + i) (Y + j)) A) j ∧ tot (fun j => tot (fun i => g (X + i) (Y + j)) A) j ≤ 64 * (64 * 65535) := fun j hj => by
    have := tot_bound (f := fun j => tot (fun i => g (X + i) (Y + j)) A) (c := 64 * 65535) j (fun i hi => rb i A (by omega) (by omega))
    have h2 : (j : Int) * (64 * 65535) ≤ 64 * (64 * 65535) := Int.mul_le_mul_of_nonneg_right (by omega) (by omega)
    omega
  have inner : ∀ (j : Nat) (s : Int), j < B → 0 ≤ s ∧ s ≤ 64 * (64 * 65535) → ∃ r, loopM FUEL (fun q : Int × Int => fiducialref13_Sum_s2 W H m (grid W H g) X A ((Y + j : Nat) : Int) q.1 q.2) (s, (X : Int)) = some r ∧ r = s + tot (fun i => g (X + i) (Y + j)) A := by
    intro j s hj hs
    refine loop_inv (fun k q => q = (s + tot (fun i => g (X + i) (Y + j)) k, ((X + k : Nat) : Int)) ∧ k ≤ A) _ A (by unfold FUEL; omega) _ ⟨by simp [tot], by omega⟩ ?_
    rintro k q ⟨rfl, hk⟩
    unfold fiducialref13_Sum_s2
    rw [eX]
    by_cases hlt : k < A
    · have r1 := rb j k hj hk
      have r2 := b7 (X + k) (Y + j) (by omega) (by omega)
      refine .inl ⟨(s + tot (fun i => g (X + i) (Y + j)) (k + 1), ((X + (k + 1) : Nat) : Int)), ?_, ⟨rfl, hlt⟩, hlt⟩
      show (if decide (((X + k : Nat) : Int) < ((X + A : Nat) : Int)) = true then _ else _) = _
      rw [if_pos (by rw [decide_eq_true_iff]; omega)]
      show (fiducialref13_At W H m (grid W H g) ((X + k : Nat) : Int) ((Y + j : Nat) : Int)).bind _ = _
      rw [refat_grid b2 b4 g H m _ _ (X + k) (Y + j) (by omega) (by omega) rfl rfl, Option.bind_some]
      show some (Step.next (w64 (s + tot (fun i => g (X + i) (Y + j)) k + g (X + k) (Y + j)), w64 (((X + k : Nat) : Int) + 1))) = _
      rw [w64_id (by omega) (by omega), w64_id (by omega) (by omega)]
      congr 2
      refine Prod.ext ?_ (by simp; omega)
      simp only [tot]; omega
    · obtain rfl : k = A := by omega
      refine .inr ⟨s + tot (fun i => g (X + i) (Y + j)) k, ?_, rfl⟩
      show (if decide (((X + k : Nat) : Int) < ((X + k : Nat) : Int)) = true then _ else _) = _
      rw [if_neg (by simp)]
  have outer : ∃ r, loopM FUEL (fun q : Int × Int => fiducialref13_Sum_s1 W H m (grid W H g) X Y A B q.1 q.2) (0, (Y : Int)) = some r ∧ r = Rc g X Y A B := by
    refine loop_inv (fun j q => q = (tot (fun j => tot (fun i => g (X + i) (Y + j)) A) j, ((Y + j : Nat) : Int)) ∧ j ≤ B) _ B (by unfold FUEL; omega) _ ⟨by simp [tot], by omega⟩ ?_
    rintro j q ⟨rfl, hj⟩
    unfold fiducialref13_Sum_s1
    rw [eY]
    by_cases hlt : j < B
    · obtain ⟨r, k1, k2⟩ := inner j _ hlt (ob j hj)
      refine .inl ⟨(tot (fun j => tot (fun i => g (X + i) (Y + j)) A) (j + 1), ((Y + (j + 1) : Nat) : Int)), ?_, ⟨rfl, hlt⟩, hlt⟩
      show (if decide (((Y + j : Nat) : Int) < ((Y + B : Nat) : Int)) = true then _ else _) = _
      rw [if_pos (by rw [decide_eq_true_iff]; omega)]
      show (loopM FUEL _ (tot (fun j => tot (fun i => g (X + i) (Y + j)) A) j, (X : Int))).bind _ = _
      rw [k1, k2]
      show some (Step.next (_, w64 (((Y + j : Nat) : Int) + 1))) = _
      rw [w64_id (by omega) (by omega)]
      congr 2
    · obtain rfl : j = B := by omega
      refine .inr ⟨tot (fun j => tot (fun i => g (X + i) (Y + j)) A) j, ?_, rfl⟩
      show (if decide (((Y + j : Nat) : Int) < ((Y + j : Nat) : Int)) = true then _ else _) = _
      rw [if_neg (by simp)]
  obtain ⟨r, k1, rfl⟩ := outer
  unfold fiducialref13_Sum
  rw [k1]; rfl

theorem rows_none {xs : List (List Int)} {f : List Int → Option Bool} (hf : ∀ (i : Nat) r, xs[i]? = some r → f r = some false) (hn : xs.length ≤ 1000000) : slices_ContainsFunc_ssint xs f = some false := by
  have key : ∃ x, loopM FUEL (fun s => slices_IndexFunc_ssint_s1 xs f s) 0 = some x ∧ x = .inr () := by
    refine loop_inv (fun i s => s = (i : Int) ∧ i ≤ xs.length) _ xs.length (by unfold FUEL; omega) 0 ⟨rfl, by omega⟩ ?_
    rintro i s ⟨rfl, hi⟩
    unfold slices_IndexFunc_ssint_s1
    by_cases hlt : i < xs.length
    · refine .inl ⟨((i + 1 : Nat) : Int), ?_, ⟨rfl, hlt⟩, hlt⟩
      rw [if_pos (by simpa using hlt), ix_lt xs i hlt, Option.bind_some, hf i _ (List.getElem?_eq_getElem hlt), Option.bind_some, if_neg (by simp), w64_id (by omega) (by omega)]
      simp
    · exact .inr ⟨_, by rw [if_neg (by simpa using hlt)], rfl⟩
  obtain ⟨x, hx, rfl⟩ := key
  unfold slices_ContainsFunc_ssint slices_IndexFunc_ssint
  rw [hx]
  rfl

theorem tabS_len (g : Nat → Nat → Int) (W H : Nat) : (tabS g W H).length = H + 1 := by simp [tabS]
theorem rowS_len (g : Nat → Nat → Int) (W y : Nat) : (rowS g W y).length = W + 1 := by simp [rowS]


theorem tab0 (g : Nat → Nat → Int) (W H : Nat) : ix (tabS g W H) (0 : Int) = some (rowS g W 0) := ix_get (i := 0) rfl (tabS_get g W H (by omega))

theorem rows_eq (g : Nat → Nat → Int) {W H : Nat} (hH : H ≤ 64) : slices_ContainsFunc_ssint (tabS g W H) (fun z => raster_Sum_c1 z (tabS g W H)) = some false := by
  refine rows_none (fun i r hr => ?_) (by rw [tabS_len]; omega)
  have hi := (List.getElem?_eq_some_iff.1 hr).1
  rw [tabS_len] at hi
  rw [tabS_get g W H (by omega)] at hr
  cases hr
  unfold raster_Sum_c1
  rw [tab0, Option.bind_some, rowS_len, rowS_len]
  simp

def SFit (W H : Nat) (x y a b : Int) : Prop := 0 ≤ x ∧ x ≤ W ∧ 0 ≤ y ∧ y ≤ H ∧ 0 ≤ a ∧ a ≤ W - x ∧ 0 ≤ b ∧ b ≤ H - y

theorem tget2 (g : Nat → Nat → Int) {W H x y : Nat} (hx : x ≤ W) (hy : y ≤ H) {zx zy : Int} (ex : zx = x) (ey : zy = y) {α : Type} (k : Int → Option α) : ((ix (tabS g W H) zy).bind fun v => (ix v zx).bind k) = k (Sm g x y) := by
  rw [ix_get ey (tabS_get g W H hy), Option.bind_some, ix_get ex (rowS_get g W y hx), Option.bind_some]

theorem sum_good {W H : Nat} {m : Int} {g : Nat → Nat → Int} (bd : Bd W H m g) (X Y A B : Nat) (hX : X + A ≤ W) (hY : Y + B ≤ H) : raster_Sum (tabS g W H) X Y A B = some (Rc g X Y A B, 0) := by
  have sb := fun {x y : Nat} (hx : x ≤ W) (hy : y ≤ H) => Sm_bound bd hx hy
  obtain ⟨b1, b2, b3, b4, b5, b6, b7⟩ := bd
  have t0 := tab0 g W H
  have hW1 : (((rowS g W 0).length : Int)) = W + 1 := by rw [rowS_len]; simp
  have hH1 : (((tabS g W H).length : Int)) = H + 1 := by rw [tabS_len]; simp
  have c1 : ¬ ((W : Int) + 1 = 0) := by omega
  have c2 : ¬ ((H : Int) + 1 = 0) := by omega
  have d1 : w64 ((W : Int) + 1 - 1) = W := by rw [w64_id (by omega) (by omega)]; omega
  have d2 : w64 ((H : Int) + 1 - 1) = H := by rw [w64_id (by omega) (by omega)]; omega
  have d3 : w64 ((W : Int) - X) = (W : Int) - X := w64_id (by omega) (by omega)
  have d4 : w64 ((H : Int) - Y) = (H : Int) - Y := w64_id (by omega) (by omega)
  have q0 : ¬ (if (B : Int) < (if (A : Int) < (if (Y : Int) < (X : Int) then (Y : Int) else X) then (A : Int) else (if (Y : Int) < (X : Int) then (Y : Int) else X)) then (B : Int) else (if (A : Int) < (if (Y : Int) < (X : Int) then (Y : Int) else X) then (A : Int) else (if (Y : Int) < (X : Int) then (Y : Int) else X))) < 0 := by
    split <;> split <;> (try split) <;> omega
  have q1 : ¬ (W : Int) < X := by omega
  have q2 : ¬ (H : Int) < Y := by omega
  have q3 : ¬ (W : Int) - X < A := by omega
  have q4 : ¬ (H : Int) - Y < B := by omega
  have eX : w64 ((X : Int) + (A : Int)) = ((X + A : Nat) : Int) := by rw [w64_id (by omega) (by omega)]; simp
  have eY : w64 ((Y : Int) + (B : Int)) = ((Y + B : Nat) : Int) := by rw [w64_id (by omega) (by omega)]; simp
  unfold raster_Sum
  rw [hH1, t0]
  simp only [Option.bind_some, hW1, rows_eq g b4, c1, c2, beq_iff_eq, if_false, Bool.false_eq_true, d1, d2, d3, d4, q0, q1, q2, q3, q4, decide_false]
  rw [tget2 g hX hY eX eY, tget2 g hX (by omega : Y ≤ H) eX rfl, tget2 g (by omega : X ≤ W) hY rfl eY, tget2 g (by omega : X ≤ W) (by omega : Y ≤ H) rfl rfl]
  have s1 := sb hX hY
  have s2 := sb hX (by omega : Y ≤ H)
  have s3 := sb (by omega : X ≤ W) hY
  have s4 := sb (by omega : X ≤ W) (by omega : Y ≤ H)
  rw [w64_id (z := Sm g (X + A) (Y + B) - Sm g (X + A) Y) (by omega) (by omega), w64_id (z := Sm g (X + A) (Y + B) - Sm g (X + A) Y - Sm g X (Y + B)) (by omega) (by omega), w64_id (by omega) (by omega), Rc_Sm]

theorem sum_unfit {W H : Nat} (b2 : W ≤ 64) (b4 : H ≤ 64) (g : Nat → Nat → Int) {x y a b : Int} (hf : ¬ SFit W H x y a b) : raster_Sum (tabS g W H) x y a b = some (0, 2) := by
  have t0 := tab0 g W H
  have hW1 : (((rowS g W 0).length : Int)) = W + 1 := by rw [rowS_len]; simp
  have hH1 : (((tabS g W H).length : Int)) = H + 1 := by rw [tabS_len]; simp
  have c1 : ¬ ((W : Int) + 1 = 0) := by omega
  have c2 : ¬ ((H : Int) + 1 = 0) := by omega
  have d1 : w64 ((W : Int) + 1 - 1) = W := by rw [w64_id (by omega) (by omega)]; omega
  have d2 : w64 ((H : Int) + 1 - 1) = H := by rw [w64_id (by omega) (by omega)]; omega
  unfold raster_Sum
  rw [hH1, t0]
  simp only [Option.bind_some, hW1, rows_eq g b4, c1, c2, beq_iff_eq, if_false, Bool.false_eq_true, d1, d2]
  by_cases q0 : (if b < (if a < (if y < x then y else x) then a else (if y < x then y else x)) then b else (if a < (if y < x then y else x) then a else (if y < x then y else x))) < 0
  · simp [q0]
  have nn : 0 ≤ x ∧ 0 ≤ y ∧ 0 ≤ a ∧ 0 ≤ b := by
    split at q0 <;> (split at q0 <;> (try split at q0) <;> omega)
  by_cases q1 : (W : Int) < x
  · simp [q0, q1]
  by_cases q2 : (H : Int) < y
  · simp [q0, q1, q2]
  have d3 : w64 ((W : Int) - x) = (W : Int) - x := w64_id (by omega) (by omega)
  have d4 : w64 ((H : Int) - y) = (H : Int) - y := w64_id (by omega) (by omega)
  by_cases q3 : (W : Int) - x < a
  · simp [q0, q1, q2, d3, q3]
  have q4 : (H : Int) - y < b := by
    by_cases q : (H : Int) - y < b
    · exact q
    · exact absurd ⟨nn.1, by omega, nn.2.1, by omega, nn.2.2.1, by omega, nn.2.2.2, by omega⟩ hf
  simp [q0, q1, q2, d3, d4, q3, q4]

end Go.Proofs.Ytoflllddpoonbaa
