/-
  PLAIN, chapter 48: Surface.
-/
import Derived.Test.YtcaeieofjchpjaaP48e
set_option linter.unusedSimpArgs false
set_option linter.unusedVariables false
namespace Go.Proofs.Ytcaeieofjchpjaa
open Go.E

/-- The coordinate x lies in the cells of line i. -/
def inn (x x0 s : Int) (i : Nat) : Prop := (i : Int) * s ≤ x - x0 + s / 2 ∧ x - x0 + s / 2 < (i : Int) * s + s
instance (x x0 s : Int) (i : Nat) : Decidable (inn x x0 s i) := by unfold inn; infer_instance

structure SOk (s : Int) : Prop where
  s2 : 2 ≤ s
  s6 : s ≤ 65536
  se : Int.tmod s 2 = 0
theorem SOk.half {s : Int} (h : SOk s) : s / 2 * 2 = s ∧ Int.tdiv s 2 = s / 2 ∧ Int.tdiv (0 - s) 2 = -(s / 2) := by
  obtain ⟨h1, h2, h3⟩ := h
  have e : Int.tdiv s 2 = s / 2 := Int.tdiv_eq_ediv_of_nonneg (by omega)
  have e3 : s % 2 = 0 := by rw [← Int.tmod_eq_emod_of_nonneg (by omega)]; exact h3
  refine ⟨by omega, e, ?_⟩
  rw [show (0 - s : Int) = -s by omega, Int.neg_tdiv, e]

theorem inn_iff {x x0 s : Int} (hs : SOk s) (i : Nat) : inn x x0 s i ↔ (x - x0 + s / 2) / s = i := by
  have h0 : 0 < s := by have := hs.s2; omega
  unfold inn
  constructor
  · rintro ⟨h1, h2⟩
    have a1 := (Int.le_ediv_iff_mul_le h0).2 h1
    have a2 := (Int.ediv_lt_iff_lt_mul h0 (a := x - x0 + s / 2) (b := (i : Int) + 1)).2 (by rw [Int.add_mul, Int.one_mul]; exact h2)
    omega
  · intro h
    have a1 := (Int.le_ediv_iff_mul_le h0 (a := (i : Int)) (b := x - x0 + s / 2)).1 (by omega)
    have a2 := (Int.ediv_lt_iff_lt_mul h0 (a := x - x0 + s / 2) (b := (i : Int) + 1)).1 (by omega)
    rw [Int.add_mul, Int.one_mul] at a2
    exact ⟨a1, a2⟩

theorem cell_eq {x x0 s : Int} (hs : SOk s) (hx : -1048576 ≤ x ∧ x ≤ 1048576) (h0 : -1048576 ≤ x0 ∧ x0 ≤ 1048576) {N : Nat} (hN : N ≤ 64) :
    (∃ i : Nat, i < N ∧ terrain_cell x x0 s N = some (i : Int) ∧ inn x x0 s i) ∨ (terrain_cell x x0 s N = some (-1) ∧ ∀ i, i < N → ¬ inn x x0 s i) := by
  obtain ⟨q1, q2, q3⟩ := hs.half
  have s2 := hs.s2
  have s6 := hs.s6
  unfold terrain_cell
  rw [q2, w64_id (z := s / 2) (by omega) (by omega), w64_id (z := x - x0) (by omega) (by omega), w64_id (z := x - x0 + s / 2) (by omega) (by omega)]
  generalize hd : x - x0 + s / 2 = d
  by_cases hn : d < 0
  · right
    rw [if_pos (decide_eq_true hn)]
    refine ⟨rfl, fun i _ h => ?_⟩
    have h1 := h.1
    rw [hd] at h1
    have : 0 ≤ (i : Int) * s := Int.mul_nonneg (by omega) (by omega)
    omega
  · rw [if_neg (by simpa using hn), chk_pos (by omega)]
    have et : Int.tdiv d s = d / s := Int.tdiv_eq_ediv_of_nonneg (by omega)
    have hle : d / s ≤ d := Int.ediv_le_self _ (by omega)
    have hge : 0 ≤ d / s := Int.ediv_nonneg (by omega) (by omega)
    rw [et, w64_id (z := d / s) (by omega) (by omega), Option.bind_some]
    by_cases hq : (N : Int) ≤ d / s
    · right
      rw [decide_eq_true hq]
      refine ⟨rfl, fun i hi h => ?_⟩
      have := (inn_iff hs i).1 h
      rw [hd] at this
      omega
    · left
      rw [decide_eq_false hq, if_neg (by decide), chk_pos (by omega)]
      refine ⟨(d / s).toNat, by omega, ?_, ?_⟩
      · congr 1; omega
      · rw [inn_iff hs, hd]; omega

theorem inn_eq {x x0 s : Int} (hs : SOk s) (hx : -1048576 ≤ x ∧ x ≤ 1048576) (h0 : -1048576 ≤ x0 ∧ x0 ≤ 1048576) {i : Nat} (hi : i < 64) (a b c d : Int) (l : List Int) (e : Int) :
    fiduciallaw48_surface_c1 x x0 i a b s c d l = some (decide (inn x x0 s i)) := by
  obtain ⟨q1, q2, q3⟩ := hs.half
  have s2 := hs.s2
  have s6 := hs.s6
  have m1 : (i : Int) * s ≤ 64 * 65536 := Int.mul_le_mul (by omega) s6 (by omega) (by omega)
  have m0 : 0 ≤ (i : Int) * s := Int.mul_nonneg (by omega) (by omega)
  unfold fiduciallaw48_surface_c1
  rw [w64_id (z := 0 - s) (by omega) (by omega), q3, q2, w64_id (z := s / 2) (by omega) (by omega), w64_id (z := -(s / 2)) (by omega) (by omega), w64_id (z := x - x0) (by omega) (by omega), w64_id (z := (i : Int) * s) (by omega) (by omega), w64_id (z := x - x0 - (i : Int) * s) (by omega) (by omega)]
  have hi : inn x x0 s i ↔ ((i : Int) * s ≤ x - x0 + s / 2 ∧ x - x0 + s / 2 < (i : Int) * s + s) := Iff.rfl
  by_cases h1 : -(s / 2) ≤ x - x0 - (i : Int) * s
  · rw [if_pos (decide_eq_true h1)]
    congr 1
    by_cases h2 : x - x0 - (i : Int) * s < s / 2
    · rw [decide_eq_true h2, decide_eq_true (hi.2 (by omega))]
    · rw [decide_eq_false h2, decide_eq_false (fun h => by have := hi.1 h; omega)]
  · rw [if_neg (by simpa using h1), decide_eq_false (fun h => by have := hi.1 h; omega)]

/-- The height in a cell after m points. -/
def sf (ps : List (Int × Int × Int)) (x0 y0 s : Int) : Nat → Nat → Nat → Int
  | 0, _, _ => -2147483648
  | m + 1, j, i => let p := ps.getD m (0, 0, 0); if inn p.1 x0 s i ∧ inn p.2.1 y0 s j then (if sf ps x0 y0 s m j i < p.2.2 then p.2.2 else sf ps x0 y0 s m j i) else sf ps x0 y0 s m j i
def PIn (ps : List (Int × Int × Int)) : Prop := ∀ m, m < ps.length → (-1048576 ≤ (ps.getD m (0, 0, 0)).1 ∧ (ps.getD m (0, 0, 0)).1 ≤ 1048576) ∧ (-1048576 ≤ (ps.getD m (0, 0, 0)).2.1 ∧ (ps.getD m (0, 0, 0)).2.1 ≤ 1048576)

theorem divmod {W j i : Nat} (hi : i < W) : (j * W + i) / W = j ∧ (j * W + i) % W = i := by
  rw [Nat.add_comm, Nat.add_mul_div_right _ _ (by omega), Nat.add_mul_mod_self_right, Nat.div_eq_of_lt hi, Nat.mod_eq_of_lt hi]
  omega

def sR (ps : List (Int × Int × Int)) (x0 y0 s : Int) (W m : Nat) : Nat → Int := fun k => sf ps x0 y0 s m (k / W) (k % W)

theorem surf1 {ps : List (Int × Int × Int)} (hp : ps.length ≤ 4096) (hin : PIn ps) {x0 y0 s : Int} (hs : SOk s) (h0 : -1048576 ≤ x0 ∧ x0 ≤ 1048576) (h1 : -1048576 ≤ y0 ∧ y0 ≤ 1048576) {W H : Nat} (hW0 : 0 < W) (hW : W ≤ 64) (hH : H ≤ 64) :
    loopM FUEL (fun s' : List Int × Int => terrain_Surface_s1 ps x0 y0 s (W : Int) (H : Int) s'.1 s'.2) (row (H * W) (fun _ => -2147483648), 0) = some (row (H * W) (sR ps x0 y0 s W ps.length)) := by
  have hN : H * W ≤ 4096 := Nat.le_trans (Nat.mul_le_mul hH hW) (by decide)
  refine loop_go (fun m => (row (H * W) (sR ps x0 y0 s W m), (m : Int))) ps.length (by unfold FUEL; omega) rfl (fun m hm => ?_) ?_
  · show terrain_Surface_s1 ps x0 y0 s (W : Int) (H : Int) (row (H * W) (sR ps x0 y0 s W m)) (m : Int) = some (Step.next (row (H * W) (sR ps x0 y0 s W (m + 1)), ((m + 1 : Nat) : Int)))
    obtain ⟨hpx, hpy⟩ := hin m hm
    unfold terrain_Surface_s1
    rw [if_pos (by simpa using hm), ix_getD (i := m) (d := (0, 0, 0)) rfl hm, Option.bind_some, w64_id (z := (m : Int) + 1) (by omega) (by omega)]
    generalize hpe : ps.getD m (0, 0, 0) = p at hpx hpy
    have hsf : ∀ k, sR ps x0 y0 s W (m + 1) k = if inn p.1 x0 s (k % W) ∧ inn p.2.1 y0 s (k / W) then (if sR ps x0 y0 s W m k < p.2.2 then p.2.2 else sR ps x0 y0 s W m k) else sR ps x0 y0 s W m k := fun k => by
      show sf ps x0 y0 s (m + 1) (k / W) (k % W) = _
      simp only [sf]
      rw [hpe]
      rfl
    have hno : (∀ i j, i < W → j < H → ¬ (inn p.1 x0 s i ∧ inn p.2.1 y0 s j)) → row (H * W) (sR ps x0 y0 s W m) = row (H * W) (sR ps x0 y0 s W (m + 1)) := fun h => row_congr fun k hk => by
      have hy : k / W < H := Nat.div_lt_of_lt_mul (by rw [Nat.mul_comm]; exact hk)
      rw [hsf, if_neg (h _ _ (Nat.mod_lt _ hW0) hy)]
    rcases cell_eq hs hpx h0 hW with ⟨i, hi, e1, i1⟩ | ⟨e1, i1⟩
    · rcases cell_eq hs hpy h1 hH with ⟨j, hj, e2, i2⟩ | ⟨e2, i2⟩
      · rw [e1, Option.bind_some, e2, Option.bind_some, if_pos (by simp), decide_eq_true (by omega : (0 : Int) ≤ (j : Int)), Option.bind_some, if_pos rfl, cell_w64 hW (by omega) hi, row_ix _ _ rfl (cell_in hi hj), Option.bind_some, row_len, chk_pos (by have := cell_in hi hj; omega), Option.bind_some, show (((j * W + i : Nat) : Int)).toNat = j * W + i by omega]
        have e : (row (H * W) (sR ps x0 y0 s W m)).set (j * W + i) (if sR ps x0 y0 s W m (j * W + i) < p.2.2 then p.2.2 else sR ps x0 y0 s W m (j * W + i)) = row (H * W) (sR ps x0 y0 s W (m + 1)) := by
          apply List.ext_getElem?
          intro k
          rw [List.getElem?_set, row_len]
          by_cases hk : k < H * W
          · rw [row_get _ _ hk, row_get _ _ hk, hsf]
            by_cases hq : j * W + i = k
            · subst hq
              obtain ⟨d1, d2⟩ := divmod (j := j) hi
              rw [if_pos rfl, if_pos hk, d1, d2, if_pos (show inn p.1 x0 s i ∧ inn p.2.1 y0 s j from ⟨i1, i2⟩)]
            · rw [if_neg hq, if_neg]
              rintro ⟨g1, g2⟩
              have a1 := (inn_iff hs _).1 g1
              have a2 := (inn_iff hs _).1 i1
              have b1 := (inn_iff hs _).1 g2
              have b2 := (inn_iff hs _).1 i2
              have ei : k % W = i := by have := a1.symm.trans a2; exact Int.ofNat.inj this
              have ej : k / W = j := by have := b1.symm.trans b2; exact Int.ofNat.inj this
              apply hq
              have := Nat.div_add_mod k W
              rw [ei, ej, Nat.mul_comm] at this
              exact this
          · rw [if_neg (by have := cell_in hi hj; omega), List.getElem?_eq_none (by rw [row_len]; omega), List.getElem?_eq_none (by rw [row_len]; omega)]
        rw [e]
        rfl
      · rw [e1, Option.bind_some, e2, Option.bind_some, if_pos (by simp), Option.bind_some, if_neg (by decide), Option.bind_some, hno (fun i' j' _ hj' h => i2 j' hj' h.2)]
        rfl
    · have hc : ∃ v, terrain_cell p.2.1 y0 s H = some v := by
        rcases cell_eq hs hpy h1 hH with ⟨j, _, e2, _⟩ | ⟨e2, _⟩
        · exact ⟨_, e2⟩
        · exact ⟨_, e2⟩
      obtain ⟨v, e2⟩ := hc
      rw [e1, Option.bind_some, e2, Option.bind_some, if_neg (by decide), Option.bind_some, if_neg (by decide), Option.bind_some, hno (fun i' j' hi' _ h => i1 i' hi' h.1)]
      rfl
  · show terrain_Surface_s1 ps x0 y0 s (W : Int) (H : Int) (row (H * W) (sR ps x0 y0 s W ps.length)) (ps.length : Int) = _
    unfold terrain_Surface_s1
    rw [if_neg (by simp)]

theorem surf2 {ps : List (Int × Int × Int)} (hp : ps.length ≤ 4096) (hin : PIn ps) {x0 y0 s : Int} (hs : SOk s) (h0 : -1048576 ≤ x0 ∧ x0 ≤ 1048576) (h1 : -1048576 ≤ y0 ∧ y0 ≤ 1048576) {W H : Nat} (hW0 : 0 < W) (hW : W ≤ 64) (hH : H ≤ 64) (z : List Int) :
    loopM FUEL (fun s' : List Int × Int => fiduciallaw48_surface_s2 ps x0 y0 s (W : Int) (H : Int) z s'.1 s'.2) ([], 0) = some (row (H * W) (sR ps x0 y0 s W ps.length)) := by
  have hN : H * W ≤ 4096 := Nat.le_trans (Nat.mul_le_mul hH hW) (by decide)
  have h4 : ∀ j i, j < H → i < W → loopM FUEL (fun s' : Int × Int => fiduciallaw48_surface_s4 ps x0 y0 s (W : Int) (H : Int) z (j : Int) (i : Int) s'.1 s'.2) (-2147483648, 0) = some (sf ps x0 y0 s ps.length j i) := fun j i hj hi => by
    refine loop_go (fun m => (sf ps x0 y0 s m j i, (m : Int))) ps.length (by unfold FUEL; omega) rfl (fun m hm => ?_) ?_
    · show fiduciallaw48_surface_s4 ps x0 y0 s (W : Int) (H : Int) z (j : Int) (i : Int) (sf ps x0 y0 s m j i) (m : Int) = some (Step.next (sf ps x0 y0 s (m + 1) j i, ((m + 1 : Nat) : Int)))
      obtain ⟨hpx, hpy⟩ := hin m hm
      unfold fiduciallaw48_surface_s4
      rw [if_pos (by simpa using hm), ix_getD (i := m) (d := (0, 0, 0)) rfl hm, Option.bind_some, w64_id (z := (m : Int) + 1) (by omega) (by omega)]
      simp only [sf]
      generalize ps.getD m (0, 0, 0) = p at hpx hpy
      rw [inn_eq hs hpx h0 (by omega) _ _ _ _ _ 0, inn_eq hs hpy h1 (by omega) _ _ _ _ _ 0]
      simp only [Option.bind_some]
      by_cases g1 : inn p.1 x0 s i
      · rw [if_pos (decide_eq_true g1)]
        simp only [Option.bind_some]
        by_cases g2 : inn p.2.1 y0 s j
        · rw [if_pos (decide_eq_true g2), if_pos (show inn p.1 x0 s i ∧ inn p.2.1 y0 s j from ⟨g1, g2⟩)]
          rfl
        · rw [if_neg (by simpa only [decide_eq_true_eq] using g2), if_neg (show ¬ (inn p.1 x0 s i ∧ inn p.2.1 y0 s j) from fun h => g2 h.2)]; rfl
      · rw [if_neg (by simpa only [decide_eq_true_eq] using g1), if_neg (show ¬ (inn p.1 x0 s i ∧ inn p.2.1 y0 s j) from fun h => g1 h.1)]; rfl
    · show fiduciallaw48_surface_s4 ps x0 y0 s (W : Int) (H : Int) z (j : Int) (i : Int) (sf ps x0 y0 s ps.length j i) (ps.length : Int) = _
      unfold fiduciallaw48_surface_s4
      rw [if_neg (by simp)]
  have h3 : ∀ j, j < H → loopM FUEL (fun s' : List Int × Int => fiduciallaw48_surface_s3 ps x0 y0 s (W : Int) (H : Int) z (j : Int) s'.1 s'.2) (row (j * W) (sR ps x0 y0 s W ps.length), 0) = some (row ((j + 1) * W) (sR ps x0 y0 s W ps.length)) := fun j hj => by
    have hjW : j * W + W ≤ H * W := by
      have := Nat.mul_le_mul_right W (show j + 1 ≤ H by omega)
      rw [Nat.add_mul] at this
      omega
    refine loop_go (fun i => (row (j * W + i) (sR ps x0 y0 s W ps.length), (i : Int))) W (by unfold FUEL; omega) rfl (fun i hi => ?_) ?_
    · show fiduciallaw48_surface_s3 ps x0 y0 s (W : Int) (H : Int) z (j : Int) (row (j * W + i) (sR ps x0 y0 s W ps.length)) (i : Int) = some (Step.next (row (j * W + (i + 1)) (sR ps x0 y0 s W ps.length), ((i + 1 : Nat) : Int)))
      obtain ⟨d1, d2⟩ := divmod (j := j) hi
      have e : sf ps x0 y0 s ps.length j i = sR ps x0 y0 s W ps.length (j * W + i) := by unfold sR; rw [d1, d2]
      unfold fiduciallaw48_surface_s3
      rw [if_pos (by simpa using hi), h4 j i hj hi, Option.bind_some, row_len, chk_pos (by omega), w64_id (by omega) (by omega), e, ← Nat.add_assoc, row_succ]
      rfl
    · show fiduciallaw48_surface_s3 ps x0 y0 s (W : Int) (H : Int) z (j : Int) (row (j * W + W) (sR ps x0 y0 s W ps.length)) (W : Int) = _
      unfold fiduciallaw48_surface_s3
      rw [if_neg (by simp), Nat.add_mul, Nat.one_mul]
  refine loop_go (fun j => (row (j * W) (sR ps x0 y0 s W ps.length), (j : Int))) H (by unfold FUEL; omega) (by simp [row]) (fun j hj => ?_) ?_
  · show fiduciallaw48_surface_s2 ps x0 y0 s (W : Int) (H : Int) z (row (j * W) (sR ps x0 y0 s W ps.length)) (j : Int) = _
    unfold fiduciallaw48_surface_s2
    rw [if_pos (by simpa using hj), h3 j hj, Option.bind_some, w64_id (by omega) (by omega)]
    rfl
  · show fiduciallaw48_surface_s2 ps x0 y0 s (W : Int) (H : Int) z (row (H * W) (sR ps x0 y0 s W ps.length)) (H : Int) = _
    unfold fiduciallaw48_surface_s2
    rw [if_neg (by simp)]

def pfar (p : Int × Int × Int) : Bool := bfar p.1 || bfar p.2.1 || bfar p.2.2
theorem pf1 (p : Int × Int × Int) : terrain_Surface_c1 p.1 p.2.1 p.2.2 = some (pfar p) := by
  unfold terrain_Surface_c1 pfar
  rw [far_eq, far_eq, far_eq]
  simp only [Option.bind_some]
  cases bfar p.1 <;> cases bfar p.2.1 <;> rfl
theorem pf2 (p : Int × Int × Int) : ((fiduciallaw48_far p.1 1048576).bind fun y_25 => (if y_25 = true then some true else (fiduciallaw48_far p.2.1 1048576).bind fun y_26 => (if y_26 = true then some true else (fiduciallaw48_far p.2.2 1048576).bind fun y_27 => some y_27))) = some (pfar p) := by
  unfold pfar
  rw [far2_eq, far2_eq, far2_eq]
  simp only [Option.bind_some]
  cases bfar p.1 <;> cases bfar p.2.1 <;> rfl

theorem far_loops (ps : List (Int × Int × Int)) (hp : ps.length ≤ 4096) :
    (slices_ContainsFunc_sapi_Spot ps (fun a b c => terrain_Surface_c1 a b c) = some true ∧ loopM FUEL (fun s : Int => fiduciallaw48_surface_s1 ps s) 0 = some (.inl (0, 0, 0, 0, 0, [], 2))) ∨ (slices_ContainsFunc_sapi_Spot ps (fun a b c => terrain_Surface_c1 a b c) = some false ∧ loopM FUEL (fun s : Int => fiduciallaw48_surface_s1 ps s) 0 = some (.inr ()) ∧ PIn ps) := by
  have hst : ∀ i, i < ps.length → fiduciallaw48_surface_s1 ps (i : Int) = if pfar (ps.getD i (0, 0, 0)) = true then some (.done (.inl (0, 0, 0, 0, 0, [], 2))) else some (.next ((i + 1 : Nat) : Int)) := fun i hi => by
    unfold fiduciallaw48_surface_s1
    rw [if_pos (by simpa using hi), ix_getD (i := i) (d := (0, 0, 0)) rfl hi, Option.bind_some, pf2, Option.bind_some, w64_id (by omega) (by omega)]
    rfl
  have hany : slices_ContainsFunc_sapi_Spot ps (fun a b c => terrain_Surface_c1 a b c) = some (ps.any pfar) := by
    unfold slices_ContainsFunc_sapi_Spot slices_IndexFunc_sapi_Spot
    obtain ⟨z, h1, h2⟩ := any_loop (step := fun s => slices_IndexFunc_sapi_Spot_s1 ps (fun a b c => terrain_Surface_c1 a b c) s) (xs := ps) (f := fun v => terrain_Surface_c1 v.1 v.2.1 v.2.2) pfar (by omega) (fun s => rfl) (fun v _ => pf1 v)
    rw [h1]
    rcases h2 with ⟨rfl, e⟩ | ⟨i, rfl, e⟩
    · rw [e]; rfl
    · rw [e]
      show some (decide (0 ≤ (i : Int))) = _
      rw [decide_eq_true (by omega)]
  rcases first_of (fun i => pfar (ps.getD i (0, 0, 0)) = true) ps.length with ha | ⟨i, hi, hb, hj⟩
  · right
    refine ⟨?_, loop_go (fun i => (i : Int)) (s0 := 0) ps.length (by unfold FUEL; omega) rfl (fun i hi => by rw [hst i hi, if_neg (ha i hi)]) (by unfold fiduciallaw48_surface_s1; rw [if_neg (by simp)]), fun m hm => ?_⟩
    · rw [hany]
      congr 1
      rw [List.any_eq_false]
      intro v hv
      obtain ⟨i, hi⟩ := List.getElem?_of_mem hv
      obtain ⟨hi1, rfl⟩ := List.getElem?_eq_some_iff.1 hi
      have := ha i hi1
      rwa [getD_eq hi1] at this
    · have := ha m hm
      unfold pfar at this
      simp only [Bool.or_eq_true, not_or, Bool.not_eq_true, bfar_iff] at this
      exact ⟨this.1.1, this.1.2⟩
  · left
    refine ⟨?_, loop_go (fun i => (i : Int)) (s0 := 0) i (by unfold FUEL; omega) rfl (fun j h => by rw [hst j (by omega), if_neg (hj j h)]) (by rw [hst i hi, if_pos hb])⟩
    rw [hany, List.any_eq_true.2 ⟨_, by rw [getD_eq hi]; exact List.getElem_mem _, hb⟩]

theorem surface_true (ps : List (Int × Int × Int)) (a0 a1 a2 a3 a4 : Int) (z : List Int) : fiduciallaw48_TerrainSurface ps a0 a1 a2 a3 a4 z = some true := by
  unfold fiduciallaw48_TerrainSurface
  rw [known48, Option.bind_some, if_neg (by decide), few_eq]
  by_cases hl2 : 40 < ps.length
  · rw [if_pos (by simp; omega)]; rfl
  rw [if_neg (by simp; omega), Option.bind_some]
  by_cases hl : z.length ≤ 150
  · rw [decide_eq_true (by omega : (z.length : Int) ≤ 150), Option.bind_some, if_neg (by decide)]
    have hA := check_eq a0 a1 a2 a3 a4 z (by omega)
    have hA2 := checked_eq a0 a1 a2 a3 a4 z (by omega)
    have key : ∃ q0 q1 q2 q3 q4 qz k, qz.length ≤ 1000000 ∧ terrain_Surface ps a0 a1 a2 a3 a4 z = some (q0, q1, q2, q3, q4, qz, k) ∧ fiduciallaw48_surface ps a0 a1 a2 a3 a4 z = some (q0, q1, q2, q3, q4, qz, k) := by
      unfold terrain_Surface fiduciallaw48_surface
      rw [hA, hA2]
      rcases code_cases a0 a1 a2 a3 a4 z with ⟨cA, W, H, v⟩ | cA
      · rw [cA]
        simp only [Option.bind_some]
        have hp4 : ¬ decide ((4096 : Int) < (ps.length : Int)) = true := by simp only [decide_eq_true_eq]; omega
        rw [if_neg (show ¬ ((0 : Int) != 0) = true by decide), if_neg (show ¬ ((0 : Int) != 0) = true by decide), if_neg hp4, if_neg hp4]
        have hW0 : 0 < W := by have := v.w2; omega
        have hs : SOk a2 := ⟨v.s2, v.s6, v.se⟩
        have h6 := v.w64
        have h7 := v.h64
        have hN := v.n
        have hx := v.x1
        have hy := v.y1
        have hlen := v.len
        obtain rfl := v.ew
        obtain rfl := v.eh
        rcases far_loops ps (by omega) with ⟨e1, e2⟩ | ⟨e1, e2, hin⟩
        · rw [e1, e2]
          exact ⟨0, 0, 0, 0, 0, [], 2, by simp, rfl, rfl⟩
        · rw [e1, e2]
          simp only [Option.bind_some]
          rw [if_neg (by decide), blank_eq (by omega), Option.bind_some, hlen, surf1 (by omega) hin hs hx hy hW0 h6 h7, surf2 (by omega) hin hs hx hy hW0 h6 h7 z]
          exact ⟨_, _, _, _, _, _, _, by rw [row_len]; omega, rfl, rfl⟩
      · have hc2 : (code a0 a1 a2 a3 a4 z != 0) = true := by simpa using cA
        rw [Option.bind_some, Option.bind_some, if_pos hc2, if_pos hc2]
        exact ⟨0, 0, 0, 0, 0, [], _, by simp, rfl, rfl⟩
    obtain ⟨q0, q1, q2, q3, q4, qz, k, hq, k1, k2⟩ := key
    rw [k1, k2, hA, hA2]
    simp only [Option.bind_some]
    rw [if_pos (by simp), same_self _ _ _ _ _ _ hq]
    simp
  · rw [decide_eq_false (by omega : ¬ (z.length : Int) ≤ 150)]; rfl
end Go.Proofs.Ytcaeieofjchpjaa
