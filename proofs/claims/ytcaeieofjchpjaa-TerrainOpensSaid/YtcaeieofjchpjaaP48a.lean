/-
  PLAIN, chapter 48: grids that are checked, heights without data, grids that are equal; Differences.
-/
import Derived.Test.YtcaeieofjchpjaaPtab
import Derived.Test.YtcaeieofjchpjaaQAny
import Derived.KernelRfl
set_option linter.unusedSimpArgs false
set_option linter.unusedVariables false
namespace Go.Proofs.Ytcaeieofjchpjaa
open Go.E

def bfar (z : Int) : Bool := decide (z < -1048576) || decide (1048576 < z)
theorem far_eq (z : Int) : terrain_far z = some (bfar z) := by
  unfold terrain_far bfar
  by_cases h : z < -1048576
  · rw [if_pos (decide_eq_true h), decide_eq_true h]; rfl
  · rw [if_neg (by simpa using h), decide_eq_false h]; rfl
theorem far2_eq (z : Int) : fiduciallaw48_far z 1048576 = some (bfar z) := by
  unfold fiduciallaw48_far bfar
  rw [w64_id (by omega) (by omega)]
  by_cases h : 1048576 < z
  · rw [if_pos (decide_eq_true h), decide_eq_true h, Bool.or_true]
  · rw [if_neg (by simpa using h), decide_eq_false h, Bool.or_false]
    congr 1
theorem bfar_iff {z : Int} : bfar z = false ↔ -1048576 ≤ z ∧ z ≤ 1048576 := by
  unfold bfar
  simp only [Bool.or_eq_false_iff, decide_eq_false_iff_not]
  omega

/-- The geometry of a grid. -/
def geo (x0 y0 s w h : Int) : Bool := decide (2 ≤ w) && decide (w ≤ 64) && decide (2 ≤ h) && decide (h ≤ 64) && decide (2 ≤ s) && decide (s ≤ 65536) && decide (Int.tmod s 2 = 0) && !bfar x0 && !bfar y0
def badz (z : Int) : Bool := !decide (z = -2147483648) && bfar z

theorem geo1 (x0 y0 s w h : Int) : ((terrain_Check_c1 w).bind fun y_4 => (if (!y_4) = true then some true else (terrain_Check_c1 h).bind fun y_5 => (if (!y_5) = true then some true else (if (decide (s < 2)) = true then some true else (if (decide (65536 < s)) = true then some true else (if ((Int.tmod s 2) != 0) = true then some true else (terrain_far x0).bind fun y_6 => (if y_6 = true then some true else (terrain_far y0).bind fun y_7 => some y_7))))))) = some (!geo x0 y0 s w h) := by
  simp only [far_eq]
  unfold terrain_Check_c1 geo
  by_cases h1 : 2 ≤ w
  · by_cases h2 : w ≤ 64
    · by_cases h3 : 2 ≤ h
      · by_cases h4 : h ≤ 64
        · by_cases h5 : 2 ≤ s
          · by_cases h6 : s ≤ 65536
            · by_cases h7 : Int.tmod s 2 = 0
              · have e5 : ¬ s < 2 := by omega
                have e6 : ¬ 65536 < s := by omega
                cases hx : bfar x0 <;> cases hy : bfar y0 <;> simp [h1, h2, h3, h4, h5, h6, h7, e5, e6, hx, hy]
              · have e5 : ¬ s < 2 := by omega
                have e6 : ¬ 65536 < s := by omega
                simp [h1, h2, h3, h4, h5, h6, h7, e5, e6]
            · have e5 : ¬ s < 2 := by omega
              have e6 : 65536 < s := by omega
              simp [h1, h2, h3, h4, h5, h6, e5, e6]
          · have e5 : s < 2 := by omega
            simp [h1, h2, h3, h4, h5, e5]
        · simp [h1, h2, h3, h4]
      · simp [h1, h2, h3]
    · simp [h1, h2]
  · simp [h1]
theorem geo2 (x0 y0 s w h : Int) : (if (decide (w < 2)) = true then some true else (if (decide (64 < w)) = true then some true else (if (decide (h < 2)) = true then some true else (if (decide (64 < h)) = true then some true else (if (decide (s < 2)) = true then some true else (if (decide (65536 < s)) = true then some true else (if ((Int.tmod s 2) != 0) = true then some true else (fiduciallaw48_far x0 1048576).bind fun y_6 => (if y_6 = true then some true else (fiduciallaw48_far y0 1048576).bind fun y_7 => some y_7)))))))) = some (!geo x0 y0 s w h) := by
  simp only [far2_eq]
  unfold geo
  by_cases h1 : 2 ≤ w
  · have e1 : ¬ w < 2 := by omega
    by_cases h2 : w ≤ 64
    · have e2 : ¬ 64 < w := by omega
      by_cases h3 : 2 ≤ h
      · have e3 : ¬ h < 2 := by omega
        by_cases h4 : h ≤ 64
        · have e4 : ¬ 64 < h := by omega
          by_cases h5 : 2 ≤ s
          · have e5 : ¬ s < 2 := by omega
            by_cases h6 : s ≤ 65536
            · have e6 : ¬ 65536 < s := by omega
              by_cases h7 : Int.tmod s 2 = 0
              · cases hx : bfar x0 <;> cases hy : bfar y0 <;> simp [h1, h2, h3, h4, h5, h6, h7, e1, e2, e3, e4, e5, e6, hx, hy]
              · simp [h1, h2, h3, h4, h5, h6, h7, e1, e2, e3, e4, e5, e6]
            · have e6 : 65536 < s := by omega
              simp [h1, h2, h3, h4, h5, h6, e1, e2, e3, e4, e5, e6]
          · have e5 : s < 2 := by omega
            simp [h1, h2, h3, h4, h5, e1, e2, e3, e4, e5]
        · have e4 : 64 < h := by omega
          simp [h1, h2, h3, h4, e1, e2, e3, e4]
      · have e3 : h < 2 := by omega
        simp [h1, h2, h3, e1, e2, e3]
    · have e2 : 64 < w := by omega
      simp [h1, h2, e1, e2]
  · have e1 : w < 2 := by omega
    simp [h1, e1]

/-- The code of a grid. -/
def code (x0 y0 s w h : Int) (z : List Int) : Int := if geo x0 y0 s w h = true then (if (z.length : Int) = w * h then (if z.any badz = true then 2 else 0) else 4) else 2
theorem geo_wh {x0 y0 s w h : Int} (hg : geo x0 y0 s w h = true) : 2 ≤ w ∧ w ≤ 64 ∧ 2 ≤ h ∧ h ≤ 64 ∧ 2 ≤ s ∧ s ≤ 65536 ∧ Int.tmod s 2 = 0 ∧ (-1048576 ≤ x0 ∧ x0 ≤ 1048576) ∧ (-1048576 ≤ y0 ∧ y0 ≤ 1048576) := by
  unfold geo at hg
  simp only [Bool.and_eq_true, decide_eq_true_eq, Bool.not_eq_true', bfar_iff] at hg
  omega
theorem wh_le {w h : Int} (h1 : 2 ≤ w) (h2 : w ≤ 64) (h3 : 2 ≤ h) (h4 : h ≤ 64) : 0 ≤ w * h ∧ w * h ≤ 4096 :=
  ⟨Int.mul_nonneg (by omega) (by omega), Int.le_trans (Int.mul_le_mul h2 h4 (by omega) (by omega)) (by decide)⟩

theorem check_eq (x0 y0 s w h : Int) (z : List Int) (hn : z.length ≤ 1000000) : terrain_Check x0 y0 s w h z = some (code x0 y0 s w h z) := by
  unfold terrain_Check code
  rw [geo1, Option.bind_some]
  cases hg : geo x0 y0 s w h
  · rfl
  · obtain ⟨g1, g2, g3, g4, _⟩ := geo_wh hg
    have hm := wh_le g1 g2 g3 g4
    rw [if_neg (by decide), if_pos rfl, w64_id (by omega) (by omega)]
    by_cases hl : (z.length : Int) = w * h
    · rw [if_neg (by simp [hl]), if_pos hl, any_int (g := badz) (fun v => by
        unfold terrain_Check_c2 badz
        by_cases hv : v = -2147483648
        · simp [hv]
        · rw [if_pos (by simpa using hv), far_eq, decide_eq_false hv]; rfl) hn, Option.bind_some]
      split <;> rfl
    · rw [if_pos (by simpa using hl), if_neg hl]
theorem checked_eq (x0 y0 s w h : Int) (z : List Int) (hn : z.length ≤ 1000000) : fiduciallaw48_checked x0 y0 s w h z = some (code x0 y0 s w h z) := by
  unfold fiduciallaw48_checked code
  rw [geo2, Option.bind_some]
  cases hg : geo x0 y0 s w h
  · rfl
  · obtain ⟨g1, g2, g3, g4, _⟩ := geo_wh hg
    have hm := wh_le g1 g2 g3 g4
    rw [if_neg (by decide), if_pos rfl, w64_id (by omega) (by omega)]
    by_cases hl : (z.length : Int) = w * h
    · rw [if_neg (by simp [hl]), if_pos hl]
      have hst : ∀ i (hi : i < z.length), (if (z[i] != (-2147483648)) = true then (fiduciallaw48_far z[i] 1048576).bind fun y_5 => some y_5 else some false) = some (badz z[i]) := fun i hi => by
        unfold badz
        by_cases hv : z[i] = -2147483648
        · simp [hv]
        · rw [if_pos (by simpa using hv), far2_eq, decide_eq_false hv]; rfl
      rcases loop_first (step := fun s => fiduciallaw48_checked_s1 z s) (fun i => (i : Int)) (fun i => ∃ y, z[i]? = some y ∧ badz y = true) (fun _ => .inl 2) (.inr ()) z.length (s0 := 0) (by unfold FUEL; omega) rfl
        (fun i hi hp => by
          have hb : badz z[i] = false := by
            cases hq : badz z[i] with
            | false => rfl
            | true => exact absurd ⟨_, List.getElem?_eq_getElem hi, hq⟩ hp
          unfold fiduciallaw48_checked_s1
          rw [if_pos (by simpa using hi), ix_lt z i hi, Option.bind_some, hst i hi, hb, Option.bind_some, if_neg (by decide), w64_id (by omega) (by omega)]
          rfl)
        (fun i hi hp _ => by
          obtain ⟨y, h1, h2⟩ := hp
          rw [List.getElem?_eq_getElem hi] at h1
          cases h1
          unfold fiduciallaw48_checked_s1
          rw [if_pos (by simpa using hi), ix_lt z i hi, Option.bind_some, hst i hi, h2, Option.bind_some, if_pos rfl])
        (by unfold fiduciallaw48_checked_s1; rw [if_neg (by simp)]) with ⟨ha, hL⟩ | ⟨i, h1, ⟨y, h2, h3⟩, _, hL⟩
      · rw [hL]
        have : z.any badz = false := by
          rw [List.any_eq_false]
          intro v hv hb
          obtain ⟨j, hj⟩ := List.getElem?_of_mem hv
          exact ha j (List.getElem?_eq_some_iff.1 hj).1 ⟨v, hj, hb⟩
        rw [this]; rfl
      · rw [hL, List.any_eq_true.2 ⟨y, List.mem_of_getElem? h2, h3⟩]; rfl
    · rw [if_pos (by simpa using hl), if_neg hl]

/-- A valid grid. -/
structure VG (x0 y0 s w h : Int) (z : List Int) (W H : Nat) : Prop where
  ew : w = W
  eh : h = H
  w2 : 2 ≤ W
  w64 : W ≤ 64
  h2 : 2 ≤ H
  h64 : H ≤ 64
  s2 : 2 ≤ s
  s6 : s ≤ 65536
  se : Int.tmod s 2 = 0
  x1 : -1048576 ≤ x0 ∧ x0 ≤ 1048576
  y1 : -1048576 ≤ y0 ∧ y0 ≤ 1048576
  len : z.length = H * W
  ok : ∀ v ∈ z, v = -2147483648 ∨ (-1048576 ≤ v ∧ v ≤ 1048576)

theorem code_cases (x0 y0 s w h : Int) (z : List Int) : (code x0 y0 s w h z = 0 ∧ ∃ W H, VG x0 y0 s w h z W H) ∨ code x0 y0 s w h z ≠ 0 := by
  unfold code
  cases hg : geo x0 y0 s w h
  · rw [if_neg (by decide)]; exact .inr (by decide)
  · obtain ⟨g1, g2, g3, g4, g5, g6, g7, g8, g9⟩ := geo_wh hg
    rw [if_pos rfl]
    by_cases hl : (z.length : Int) = w * h
    · rw [if_pos hl]
      cases ha : z.any badz
      · refine .inl ⟨rfl, w.toNat, h.toNat, ⟨by omega, by omega, by omega, by omega, by omega, by omega, g5, g6, g7, g8, g9, ?_, fun v hv => ?_⟩⟩
        · obtain ⟨W, rfl⟩ : ∃ W : Nat, w = W := ⟨w.toNat, by omega⟩
          obtain ⟨H, rfl⟩ : ∃ H : Nat, h = H := ⟨h.toNat, by omega⟩
          have : (z.length : Int) = ((W * H : Nat) : Int) := by rw [hl]; push_cast; rfl
          show z.length = ((H : Int)).toNat * ((W : Int)).toNat
          rw [show ((H : Int)).toNat = H by omega, show ((W : Int)).toNat = W by omega, Nat.mul_comm]
          exact Int.ofNat.inj this
        · have := List.any_eq_false.1 ha v hv
          unfold badz at this
          by_cases hq : v = -2147483648
          · exact .inl hq
          · right
            rw [decide_eq_false hq] at this
            exact bfar_iff.1 (by simpa using this)
      · exact .inr (by decide)
    · rw [if_neg hl]; exact .inr (by decide)
theorem VG.n {x0 y0 s w h : Int} {z : List Int} {W H : Nat} (v : VG x0 y0 s w h z W H) : H * W ≤ 4096 := Nat.le_trans (Nat.mul_le_mul v.h64 v.w64) (by decide)

/-! ### Heights without data -/

theorem mul_one' {n : Int} (h0 : 0 ≤ n) (h1 : n ≤ 1000000) : bits_Mul 1 n = some (0, n) := by
  have hw : ∀ z : Int, 0 ≤ z → z < 18446744073709551616 → wu64 z = z := fun z a b => by
    unfold wu64 IntKind.wrap
    simp only [IntKind.bits, IntKind.signed]
    simp
    omega
  have hand : (((BitVec.ofInt 64 n &&& BitVec.ofInt 64 4294967295).toNat : Nat) : Int) = n := by
    obtain ⟨k, rfl⟩ : ∃ k : Nat, n = k := ⟨n.toNat, by omega⟩
    rw [BitVec.toNat_and]
    have e1 : (BitVec.ofInt 64 (k : Int)).toNat = k := by
      rw [BitVec.toNat_ofInt]
      have : ((k : Int) % ((2 ^ 64 : Nat) : Int)).toNat = k := by
        rw [Int.emod_eq_of_lt (by omega) (by simp; omega)]
        omega
      exact this
    have e2 : (BitVec.ofInt 64 4294967295).toNat = 2 ^ 32 - 1 := by decide
    rw [e1, e2, Nat.and_two_pow_sub_one_eq_mod, Nat.mod_eq_of_lt (by omega)]
  have hone : (((BitVec.ofInt 64 (1 : Int) &&& BitVec.ofInt 64 4294967295).toNat : Nat) : Int) = 1 := by decide
  have hf1 : Int.fdiv (1 : Int) (2 ^ (min (32 : Int).toNat 64)) = 0 := by decide
  have hfn : Int.fdiv n (2 ^ (min (32 : Int).toNat 64)) = 0 := by
    have : (2 : Int) ^ (min (32 : Int).toNat 64) = 4294967296 := by decide
    rw [this, Int.fdiv_eq_ediv_of_nonneg _ (by omega)]
    omega
  have hz : (((BitVec.ofInt 64 (0 : Int) &&& BitVec.ofInt 64 4294967295).toNat : Nat) : Int) = 0 := by decide
  have hf0 : Int.fdiv (0 : Int) (2 ^ (min (32 : Int).toNat 64)) = 0 := by decide
  unfold bits_Mul bits_Mul64
  rw [hf1, hfn, hand, hone]
  simp only [hw 0 (by omega) (by omega), hw 1 (by omega) (by omega), hw n h0 (by omega), Int.zero_mul, Int.mul_zero, Int.one_mul, Int.zero_add, Int.add_zero, hfn, hz, hf0, Option.bind_some]

theorem cpy_rep {v : Int} {l : List Int} {n k : Nat} (hl : l.length = n) (hk : k ≤ n) (h : ∀ j, j < k → l[j]? = some v) :
    (cpy l k (n - k) (l.take k)).length = n ∧ ∀ j, j < k + min k (n - k) → (cpy l k (n - k) (l.take k))[j]? = some v := by
  have ht : (l.take k).length = k := by rw [List.length_take]; omega
  unfold cpy
  rw [ht]
  refine ⟨by simp only [List.length_append, List.length_take, List.length_drop]; omega, fun j hj => ?_⟩
  by_cases h1 : j < k
  · rw [List.append_assoc, List.getElem?_append_left (by rw [ht]; exact h1), List.getElem?_take, if_pos h1, h j h1]
  · rw [List.append_assoc, List.getElem?_append_right (by rw [ht]; omega), ht, List.getElem?_append_left (by rw [List.length_take, ht]; omega), List.getElem?_take, if_pos (by omega), List.getElem?_take, if_pos (by omega), h _ (by omega)]

theorem repeat_eq (v : Int) {n : Nat} (hn : n ≤ 1000000) : slices_Repeat_sint [v] (n : Int) = some (List.replicate n v) := by
  have hw : ∀ z : Int, 0 ≤ z → z < 18446744073709551616 → wu64 z = z := fun z a b => by
    unfold wu64 IntKind.wrap
    simp only [IntKind.bits, IntKind.signed]
    simp
    omega
  unfold slices_Repeat_sint
  rw [if_neg (by simp)]
  have e1 : wu64 ((([v] : List Int).length : Nat) : Int) = 1 := hw 1 (by omega) (by omega)
  rw [e1, hw n (by omega) (by omega), mul_one' (by omega) (by omega), Option.bind_some]
  show ((if decide ((0 : Int) < 0) = true then some true else some (decide (9223372036854775807 < (n : Int)))).bind _) = _
  rw [if_neg (by decide), decide_eq_false (by omega), Option.bind_some, if_neg (by decide), w64_id (by omega) (by omega), chk_pos (by omega), show ((n : Int)).toNat = n by omega, List.length_replicate]
  have key : ∃ r, loopM FUEL (fun s : List Int × Int => slices_Repeat_sint_s1 (n : Int) s.1 s.2) (cpy (List.replicate n (0 : Int)) 0 n [v], cpn n [v]) = some r ∧ r = List.replicate n v := by
    refine loop_inv (fun i s => ∃ k : Nat, s.2 = (k : Int) ∧ s.1.length = n ∧ k ≤ n ∧ (i < k ∨ n = 0) ∧ ∀ j, j < k → s.1[j]? = some v) _ n (by unfold FUEL; omega) _ ⟨min 1 n, ?_, ?_, by omega, by omega, fun j hj => ?_⟩ ?_
    · simp [cpn]
    · simp only [cpy, List.length_append, List.length_take, List.length_drop, List.length_replicate, List.length_cons, List.length_nil]; omega
    · obtain rfl : j = 0 := by omega
      have : 1 ≤ n := by omega
      simp only [cpy, List.length_cons, List.length_nil, List.take_zero, List.nil_append]
      rw [List.getElem?_append_left (by rw [List.length_take]; simp; omega), List.getElem?_take, if_pos (by omega)]
      rfl
    · rintro i ⟨l, s⟩ ⟨k, hk1, hk2, hk3, hk4, hk5⟩
      dsimp only at hk1 hk2 hk5 ⊢
      subst hk1
      unfold slices_Repeat_sint_s1
      rw [w64_id (z := (n : Int)) (by omega) (by omega), show ((n : Int)).toNat = n by omega, List.length_replicate]
      by_cases hlt : k < n
      · left
        rw [if_pos (by simpa using hlt), chk_pos (by omega), chk_pos (by omega)]
        have e2 : ((l.take l.length).drop ((k : Int)).toNat).length = n - k := by rw [List.take_length, List.length_drop]; omega
        have e3 : (l.take ((k : Int)).toNat).drop ((0 : Int)).toNat = l.take k := by
          rw [show ((k : Int)).toNat = k by omega, show ((0 : Int)).toNat = 0 by rfl, List.drop_zero]
        have e4 : cpn (n - k) (l.take k) = ((min k (n - k) : Nat) : Int) := by
          unfold cpn
          rw [List.length_take]
          congr 2
          omega
        rw [e2, e3, e4, show ((k : Int)).toNat = k by omega, w64_id (by omega) (by omega)]
        have hc := cpy_rep hk2 (by omega) hk5
        exact ⟨_, rfl, ⟨k + min k (n - k), by push_cast; rfl, hc.1, by omega, by omega, hc.2⟩, by omega⟩
      · right
        rw [if_neg (by simpa using hlt)]
        refine ⟨_, rfl, ?_⟩
        apply List.ext_getElem?
        intro j
        by_cases hj : j < n
        · rw [hk5 j (by omega), List.getElem?_replicate, if_pos hj]
        · rw [List.getElem?_eq_none (by omega), List.getElem?_eq_none (by simp; omega)]
  obtain ⟨r, h1, rfl⟩ := key
  rw [h1]
  rfl

theorem blank_eq {n : Nat} (hn : n ≤ 1000000) : terrain_blank (n : Int) = some (row n (fun _ => -2147483648)) := by
  unfold terrain_blank
  rw [repeat_eq _ hn]
  show some (List.replicate n (-2147483648)) = _
  congr 1
  apply List.ext_getElem?
  intro j
  by_cases hj : j < n
  · rw [row_get _ _ hj, List.getElem?_replicate, if_pos hj]
  · rw [List.getElem?_eq_none (by simp; omega), List.getElem?_eq_none (by rw [row_len]; omega)]

/-! ### Equal grids -/

theorem equal_self (xs : List Int) (h : xs.length ≤ 1000000) : slices_Equal_sint xs xs = some true := by
  unfold slices_Equal_sint
  rw [if_neg (by simp)]
  rcases eq_loop (step := fun s => slices_Equal_sint_s1 xs xs s) (fun a b => a == b) (fun a b => by simp) h rfl (fun s => rfl) with ⟨_, e⟩ | ⟨hn, _⟩
  · rw [e]; rfl
  · exact absurd rfl hn
theorem same_self (a b c d e : Int) (z : List Int) (h : z.length ≤ 1000000) : fiduciallaw48_same a b c d e z a b c d e z = some true := by
  unfold fiduciallaw48_same
  rw [if_pos (by simp), if_pos (by simp), if_pos (by simp), if_pos (by simp), if_pos (by simp), equal_self z h]
  rfl
theorem clone_eq (xs : List Int) (h : xs.length ≤ 1000000) : slices_Clone_sint xs = some xs := by
  unfold slices_Clone_sint
  rw [chk_pos (by simp; omega)]
  simp

theorem known48 : fiduciallaw48_known = some true := by kernel_rfl
end Go.Proofs.Ytcaeieofjchpjaa
