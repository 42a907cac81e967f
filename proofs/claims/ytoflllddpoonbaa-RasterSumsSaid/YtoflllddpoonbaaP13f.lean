/-
  PLAIN, chapter 13: forms.
-/
import Derived.Test.YtoflllddpoonbaaP13d
set_option linter.unusedSimpArgs false
namespace Go.Proofs.Ytoflllddpoonbaa
open Go.E

theorem few_two (w h m : Int) (px : List Int) (w' h' m' : Int) (px' : List Int) : fiduciallaw13_few [(w, h, m, px), (w', h', m', px')] = some (!(decide (600 < (px.length : Int)) || decide (600 < (px'.length : Int)))) := by
  unfold fiduciallaw13_few slices_ContainsFunc_sapi_Raster slices_IndexFunc_sapi_Raster
  have key : ∃ x, loopM FUEL (fun s => slices_IndexFunc_sapi_Raster_s1 [(w, h, m, px), (w', h', m', px')] (fun z2 z3 z4 z5 => fiduciallaw13_few_c1 z2 z3 z4 z5) s) 0 = some x ∧
      ((∃ z, x = Sum.inl z ∧ 0 ≤ z ∧ (600 < (px.length : Int) ∨ 600 < (px'.length : Int))) ∨ (x = Sum.inr () ∧ ¬ 600 < (px.length : Int) ∧ ¬ 600 < (px'.length : Int))) := by
    refine loop_inv (fun i s => s = (i : Int) ∧ i ≤ 2 ∧ (1 ≤ i → ¬ 600 < (px.length : Int)) ∧ (i = 2 → ¬ 600 < (px'.length : Int))) _ 2 (by unfold FUEL; omega) 0 ⟨rfl, by omega, fun h => by omega, fun h => by omega⟩ ?_
    rintro i s ⟨rfl, hi, h1, h2⟩
    unfold slices_IndexFunc_sapi_Raster_s1
    by_cases h0 : i = 0
    · subst h0
      by_cases hb : 600 < (px.length : Int)
      · refine .inr ⟨Sum.inl 0, ?_, .inl ⟨0, rfl, by omega, .inl hb⟩⟩
        simp [ix, fiduciallaw13_few_c1, hb]
      · refine .inl ⟨1, ?_, ⟨rfl, by omega, fun _ => hb, fun h => by omega⟩, by omega⟩
        rw [if_pos (by simp)]
        show ((some (w, h, m, px)).bind _) = _
        rw [Option.bind_some]
        show ((some (decide (600 < (px.length : Int)))).bind _) = _
        rw [Option.bind_some, if_neg (by simpa using hb)]
        kernel_rfl
    · by_cases h3 : i = 1
      · subst h3
        by_cases hb : 600 < (px'.length : Int)
        · refine .inr ⟨Sum.inl 1, ?_, .inl ⟨1, rfl, by omega, .inr hb⟩⟩
          simp [ix, fiduciallaw13_few_c1, hb]
        · refine .inl ⟨2, ?_, ⟨rfl, by omega, fun _ => h1 (by omega), fun _ => hb⟩, by omega⟩
          rw [if_pos (by simp)]
          show ((some (w', h', m', px')).bind _) = _
          rw [Option.bind_some]
          show ((some (decide (600 < (px'.length : Int)))).bind _) = _
          rw [Option.bind_some, if_neg (by simpa using hb)]
          kernel_rfl
      · obtain rfl : i = 2 := by omega
        exact .inr ⟨Sum.inr (), by simp, .inr ⟨rfl, h1 (by omega), h2 rfl⟩⟩
  obtain ⟨x, hx, hq⟩ := key
  rw [hx]
  rcases hq with ⟨z, rfl, hz, hor⟩ | ⟨rfl, ha, hb⟩
  · rcases hor with h9 | h9
    · simp [hz, h9]
    · simp [hz, h9]
  · simp [ha, hb]

theorem eqlists (a b : List Int) (ha : a.length ≤ 1000000) (hl : a.length = b.length) : ∃ x : Bool ⊕ Unit, loopM FUEL (fun s => slices_Equal_sint_s1 a b s) 0 = some x ∧ ((x = .inl false ∧ a ≠ b) ∨ (x = .inr () ∧ a = b)) := by
  refine loop_inv (fun i s => s = (i : Int) ∧ i ≤ a.length ∧ ∀ j, j < i → a[j]? = b[j]?) _ a.length (by unfold FUEL; omega) 0 ⟨rfl, by omega, fun j hj => by omega⟩ ?_
  rintro i s ⟨rfl, hi, hall⟩
  unfold slices_Equal_sint_s1
  by_cases hlt : i < a.length
  · rw [if_pos (by simpa using hlt), ix_lt a i hlt, Option.bind_some, ix_lt b i (by omega), Option.bind_some]
    by_cases he : a[i] = b[i]'(by omega)
    · refine .inl ⟨((i + 1 : Nat) : Int), ?_, ⟨rfl, hlt, fun j hj => ?_⟩, hlt⟩
      · rw [if_neg (by simp [he]), w64_id (by omega) (by omega)]; simp
      · rcases Nat.lt_succ_iff_lt_or_eq.1 hj with h | rfl
        · exact hall j h
        · rw [List.getElem?_eq_getElem hlt, List.getElem?_eq_getElem (by omega), he]
    · refine .inr ⟨.inl false, by rw [if_pos (by simpa using he)], .inl ⟨rfl, fun hab => he (by subst hab; rfl)⟩⟩
  · refine .inr ⟨.inr (), by rw [if_neg (by simpa using hlt)], .inr ⟨rfl, ?_⟩⟩
    apply List.ext_getElem?
    intro j
    by_cases hj : j < i
    · exact hall j hj
    · rw [List.getElem?_eq_none (by omega), List.getElem?_eq_none (by omega)]

theorem sequal (a b : List Int) (ha : a.length ≤ 1000000) : slices_Equal_sint a b = some (decide (a = b)) := by
  unfold slices_Equal_sint
  by_cases hl : a.length = b.length
  · obtain ⟨x, hx, hq⟩ := eqlists a b ha hl
    rw [if_neg (by simp [hl]), hx]
    rcases hq with ⟨rfl, hn⟩ | ⟨rfl, he⟩
    · simp [hn]
    · simp [he]
  · have : a ≠ b := fun h => hl (by rw [h])
    have hl' : ¬ ((a.length : Int) = (b.length : Int)) := by omega
    simp [hl', this]

theorem requal (w h m : Int) (a : List Int) (w' h' m' : Int) (b : List Int) (ha : a.length ≤ 1000000) : raster_Equal w h m a w' h' m' b = some (decide (w = w' ∧ h = h' ∧ m = m' ∧ a = b)) := by
  unfold raster_Equal
  rw [sequal a b ha]
  by_cases h1 : w = w' <;> by_cases h2 : h = h' <;> by_cases h3 : m = m' <;> simp [h1, h2, h3]

theorem refequal (w h m : Int) (a : List Int) (w' h' m' : Int) (b : List Int) (ha : a.length ≤ 1000000) : fiducialref13_Equal w h m a w' h' m' b = some (decide (w = w' ∧ h = h' ∧ m = m' ∧ a = b)) := by
  unfold fiducialref13_Equal
  by_cases h1 : w = w'
  · by_cases h2 : h = h'
    · by_cases h3 : m = m'
      · by_cases hl : a.length = b.length
        · obtain ⟨x, hx, hq⟩ := eqlists a b ha hl
          have hx' : loopM FUEL (fun s => fiducialref13_Equal_s1 a b s) 0 = some x := hx
          rcases hq with ⟨rfl, hn⟩ | ⟨rfl, he⟩
          · simp [h1, h2, h3, hl, hx', hn]
          · subst he
            simp [h1, h2, h3, hx']
        · have : a ≠ b := fun h => hl (by rw [h])
          have hl' : ¬ ((a.length : Int) = (b.length : Int)) := by omega
          simp [h1, h2, h3, hl', hl, this]
      · simp [h1, h2, h3]
    · simp [h1, h2]
  · simp [h1]

theorem checks_eq (w h m : Int) (px : List Int) : ∃ c, raster_Check w h m px = some c ∧ fiducialref13_Check w h m px = some c := by
  by_cases hg : Good w h m px
  · exact ⟨0, check_good hg, refcheck_good hg⟩
  · exact ⟨1, check_bad hg, refcheck_bad hg⟩

theorem size_eq (n : Int) : raster_size n = some (decide (1 ≤ n ∧ n ≤ 64)) := by
  unfold raster_size
  by_cases h1 : 1 ≤ n <;> simp [h1]

theorem forms_true (w h m : Int) (px : List Int) (w' h' m' : Int) (px' : List Int) (a b c : Int) : fiduciallaw13_RasterForms w h m px w' h' m' px' a b c = some true := by
  unfold fiduciallaw13_RasterForms
  rw [known_ok, Option.bind_some]
  simp only [Bool.not_true, Bool.false_eq_true, if_false]
  rw [few_two]
  by_cases hb : 600 < (px.length : Int)
  · simp [hb]
  by_cases hb2 : 600 < (px'.length : Int)
  · simp [hb, hb2]
  simp only [hb, hb2, decide_false, Bool.or_false, Bool.not_false, Bool.not_true, Bool.false_eq_true, if_false, Option.bind_some]
  by_cases hbig : (20 < a ∧ a ≤ 64) ∨ (20 < b ∧ b ≤ 64)
  · have : (if decide (20 < a) = true then if decide (a ≤ 64) = true then some true else if decide (20 < b) = true then some (decide (b ≤ 64)) else some false else if decide (20 < b) = true then some (decide (b ≤ 64)) else some false) = some true := by
      by_cases h1 : 20 < a <;> by_cases h2 : a ≤ 64 <;> by_cases h3 : 20 < b <;> by_cases h4 : b ≤ 64 <;> simp [h1, h2, h3, h4] <;> omega
    rw [this]; rfl
  have h20 : (if decide (20 < a) = true then if decide (a ≤ 64) = true then some true else if decide (20 < b) = true then some (decide (b ≤ 64)) else some false else if decide (20 < b) = true then some (decide (b ≤ 64)) else some false) = some false := by
    by_cases h1 : 20 < a <;> by_cases h2 : a ≤ 64 <;> by_cases h3 : 20 < b <;> by_cases h4 : b ≤ 64 <;> simp [h1, h2, h3, h4] <;> omega
  rw [h20]
  obtain ⟨cc, k1, k2⟩ := checks_eq w h m px
  have cp : fiducialref13_Copy w h m px = some (w, h, m, px) := by
    unfold fiducialref13_Copy
    rw [chk_pos (by simp; omega)]; rfl
  have hl : px.length ≤ 1000000 := by omega
  simp only [Option.bind_some, Bool.false_eq_true, if_false, k1, k2, bne_self_eq_false, requal _ _ _ _ _ _ _ _ hl, refequal _ _ _ _ _ _ _ _ hl, beq_self_eq_true, Bool.not_true, cp, and_self, decide_true]
  unfold raster_New
  rw [size_eq, size_eq]
  by_cases hok : (1 ≤ a ∧ a ≤ 64) ∧ (1 ≤ b ∧ b ≤ 64) ∧ 1 ≤ c ∧ c ≤ 65535
  · obtain ⟨⟨a1, a2⟩, ⟨a3, a4⟩, a5, a6⟩ := hok
    obtain ⟨W, rfl⟩ : ∃ W : Nat, a = W := ⟨a.toNat, by omega⟩
    obtain ⟨H, rfl⟩ : ∃ H : Nat, b = H := ⟨b.toNat, by omega⟩
    have mk := made_grid (W := W) (H := H) (by omega) (by omega) c (f := fun z6 z7 => raster_New_c1 z6 z7) (g := fun _ _ => 0) (fun _ _ _ _ => rfl)
    have rn := refnew_grid (W := W) (H := H) (by omega) (by omega) c
    have q1 : ¬ (W : Int) < 1 := by omega
    have q2 : ¬ 64 < (W : Int) := by omega
    have q3 : ¬ (H : Int) < 1 := by omega
    have q4 : ¬ 64 < (H : Int) := by omega
    have q5 : ¬ c < 1 := by omega
    have q6 : ¬ 65535 < c := by omega
    have eqs := refeq_same (W : Int) (H : Int) c _ (grid_le (by omega : W ≤ 64) (by omega : H ≤ 64) (fun _ _ => 0))
    simp only [a1, a2, a3, a4, a5, a6, q1, q2, q3, q4, q5, q6, and_self, decide_true, decide_false, Option.bind_some, Bool.not_true, Bool.false_eq_true, if_false, mk, rn, eqs, beq_self_eq_true, if_true]
  · have s2 : (some (decide (1 ≤ a ∧ a ≤ 64))).bind (fun y18 => if (!y18) = true then some true else (some (decide (1 ≤ b ∧ b ≤ 64))).bind fun y21 => if (!y21) = true then some true else if decide (c < 1) = true then some true else some (decide (65535 < c))) = some true := by
      by_cases h1 : 1 ≤ a ∧ a ≤ 64
      · by_cases h2 : 1 ≤ b ∧ b ≤ 64
        · by_cases h3 : c < 1
          · simp [h1, h2, h3]
          · have h4 : 65535 < c := by omega
            simp [h1, h2, h4]
        · simp only [Option.bind_some, h1, h2, decide_false, decide_true, and_self, Bool.not_true, Bool.not_false, Bool.false_eq_true, if_false, if_true]
      · simp only [Option.bind_some, h1, decide_false, Bool.not_false, if_true]
    have s29 : (if decide (a < 1) = true then some true else if decide (64 < a) = true then some true else if decide (b < 1) = true then some true else if decide (64 < b) = true then some true else if decide (c < 1) = true then some true else some (decide (65535 < c))) = some true := by
      by_cases h1 : a < 1
      · simp [h1]
      by_cases h2 : 64 < a
      · simp [h2]
      by_cases h3 : b < 1
      · simp [h3]
      by_cases h4 : 64 < b
      · simp [h4]
      by_cases h5 : c < 1
      · simp [h5]
      have h6 : 65535 < c := by omega
      simp [h6]
    rw [s2, s29]
    simp [empty_ok]

end Go.Proofs.Ytoflllddpoonbaa
