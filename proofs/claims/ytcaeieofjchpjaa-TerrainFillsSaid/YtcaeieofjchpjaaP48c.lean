/-
  PLAIN, chapter 48: Keep and Fill.
-/
import Derived.Test.YtcaeieofjchpjaaP48e
import Derived.Test.YtcaeieofjchpjaaQIndex
set_option linter.unusedSimpArgs false
set_option linter.unusedVariables false
namespace Go.Proofs.Ytcaeieofjchpjaa
open Go.E

/-! ### Keep -/

def kz (f : Nat → Int) (b : Nat → Bool) : Nat → Int := fun k => if b k = true then f k else -2147483648
theorem keep_loops {N : Nat} (hN : N ≤ 4096) (f : Nat → Int) {p : List Bool} (hp : p.length = N) :
    loopM FUEL (fun s : List Int × Int => terrain_Keep_s1 (row N f) p s.1 s.2) (row N (fun _ => -2147483648), 0) = some (row N (kz f (fun k => p.getD k false))) ∧ loopM FUEL (fun s : List Int × Int => fiduciallaw48_kept_s1 (row N f) p s.1 s.2) ([], 0) = some (row N (kz f (fun k => p.getD k false))) := by
  constructor
  · refine setrow4 hN (fun x hx => ?_) (fun l => ?_)
    · show terrain_Keep_s1 (row N f) p (row N (mixf (fun _ => -2147483648) (kz f (fun k => p.getD k false)) x)) (x : Int) = _
      unfold terrain_Keep_s1
      rw [hp, if_pos (by simpa using hx), ix_getD (i := x) (d := false) rfl (by omega), Option.bind_some, w64_id (z := (x : Int) + 1) (by omega) (by omega)]
      cases hb : p.getD x false
      · rw [if_neg (by decide), Option.bind_some, mixf_same _ _ (x := x) (by show (if p.getD x false = true then f x else -2147483648) = -2147483648; rw [hb]; rfl)]
        rfl
      · have e : kz f (fun k => p.getD k false) x = f x := by show (if p.getD x false = true then f x else -2147483648) = f x; rw [hb]; rfl
        rw [if_pos rfl, row_ix _ _ rfl hx, Option.bind_some, row_len, chk_pos (by omega), Option.bind_some, show ((x : Int)).toNat = x by omega, ← e, mixf_set _ _ hx]
        rfl
    · show terrain_Keep_s1 (row N f) p l (N : Int) = _
      unfold terrain_Keep_s1
      rw [hp, if_neg (by simp)]
  · refine loop_go (fun i => (row i (kz f (fun k => p.getD k false)), (i : Int))) N (by unfold FUEL; omega) rfl (fun x hx => ?_) ?_
    · show fiduciallaw48_kept_s1 (row N f) p (row x (kz f (fun k => p.getD k false))) (x : Int) = _
      unfold fiduciallaw48_kept_s1
      rw [row_len, if_pos (by simpa using hx), row_ix _ _ rfl hx, Option.bind_some, ix_getD (i := x) (d := false) rfl (by omega), Option.bind_some, w64_id (z := (x : Int) + 1) (by omega) (by omega)]
      have e : (if (!p.getD x false) = true then some (-2147483648) else some (f x)) = some (kz f (fun k => p.getD k false) x) := by
        show _ = some (if p.getD x false = true then f x else -2147483648)
        cases p.getD x false <;> rfl
      rw [e, Option.bind_some, row_len, chk_pos (by omega), row_succ]
      rfl
    · show fiduciallaw48_kept_s1 (row N f) p (row N (kz f (fun k => p.getD k false))) (N : Int) = _
      unfold fiduciallaw48_kept_s1
      rw [row_len, if_neg (by simp)]

/-! ### Fill -/

/-- The distance as the program reckons it. -/
def dd (W s t : Int) : Int := w64 ((if (w64 ((Int.tmod s W) - (Int.tmod t W))) < (w64 (0 - (w64 ((Int.tmod s W) - (Int.tmod t W))))) then (w64 (0 - (w64 ((Int.tmod s W) - (Int.tmod t W))))) else (w64 ((Int.tmod s W) - (Int.tmod t W)))) + (if (w64 ((w64 (Int.tdiv s W)) - (w64 (Int.tdiv t W)))) < (w64 (0 - (w64 ((w64 (Int.tdiv s W)) - (w64 (Int.tdiv t W)))))) then (w64 (0 - (w64 ((w64 (Int.tdiv s W)) - (w64 (Int.tdiv t W)))))) else (w64 ((w64 (Int.tdiv s W)) - (w64 (Int.tdiv t W))))))
theorem dd_nonneg {W H k m : Nat} (hW0 : 0 < W) (hW : W ≤ 64) (hH : H ≤ 64) (hk : k < H * W) (hm : m < H * W) : 0 ≤ dd (W : Int) (k : Int) (m : Int) := by
  have hN : H * W ≤ 4096 := Nat.le_trans (Nat.mul_le_mul hH hW) (by decide)
  obtain ⟨a1, a2, a3, a4⟩ := yx hW0 hk hN
  obtain ⟨b1, b2, b3, b4⟩ := yx hW0 hm hN
  unfold dd
  rw [a3, a4, b3, b4]
  generalize k / W = y1 at a1
  generalize k % W = x1 at a2
  generalize m / W = y2 at b1
  generalize m % W = x2 at b2
  rw [w64_id (z := (x1 : Int) - (x2 : Int)) (by omega) (by omega), w64_id (z := (y1 : Int) - (y2 : Int)) (by omega) (by omega), w64_id (z := 0 - ((x1 : Int) - (x2 : Int))) (by omega) (by omega), w64_id (z := 0 - ((y1 : Int) - (y2 : Int))) (by omega) (by omega)]
  rw [w64_id (by split <;> split <;> omega) (by split <;> split <;> omega)]
  split <;> split <;> omega

def fst (f d : Nat → Int) : Nat → Int × Int
  | 0 => (-2147483648, 0)
  | m + 1 => if f m = -2147483648 then fst f d m else if (fst f d m).1 = -2147483648 ∨ d m < (fst f d m).2 ∨ (d m = (fst f d m).2 ∧ f m < (fst f d m).1) then (f m, d m) else fst f d m
theorem fst_val (f d : Nat → Int) : ∀ m, ((fst f d m).1 = -2147483648 ∧ ∀ j, j < m → f j = -2147483648) ∨ ((fst f d m).1 ≠ -2147483648 ∧ ∃ j, j < m ∧ (fst f d m).1 = f j ∧ (fst f d m).2 = d j)
  | 0 => .inl ⟨rfl, fun j hj => by omega⟩
  | m + 1 => by
    simp only [fst]
    by_cases h : f m = -2147483648
    · rw [if_pos h]
      rcases fst_val f d m with ⟨h1, h2⟩ | ⟨h1, j, h2, h3⟩
      · refine .inl ⟨h1, fun j hj => ?_⟩
        by_cases hq : j = m
        · rw [hq]; exact h
        · exact h2 j (by omega)
      · exact .inr ⟨h1, j, by omega, h3⟩
    · rw [if_neg h]
      split
      · exact .inr ⟨h, m, by omega, rfl, rfl⟩
      · rename_i hc
        rcases fst_val f d m with ⟨h1, h2⟩ | ⟨h1, j, h2, h3⟩
        · exact absurd (.inl h1) hc
        · exact .inr ⟨h1, j, by omega, h3⟩

theorem fill2 {W H : Nat} (hW0 : 0 < W) (hW : W ≤ 64) (hH : H ≤ 64) (f : Nat → Int) {k : Nat} (hk : k < H * W) {l : List Int} (hl : l.length = H * W) (h0 : l[k]? = some (-2147483648)) :
    loopM FUEL (fun s : List Int × Int × Int => terrain_Fill_s2 (W : Int) (row (H * W) f) (k : Int) s.1 s.2.1 s.2.2) (l, 0, 0) = some (l.set k (fst f (fun m => dd W k m) (H * W)).1) := by
  have hN : H * W ≤ 4096 := Nat.le_trans (Nat.mul_le_mul hH hW) (by decide)
  refine loop_go (fun m => (l.set k (fst f (fun m => dd W k m) m).1, (fst f (fun m => dd W k m) m).2, (m : Int))) (H * W) (by unfold FUEL; omega) ?_ (fun m hm => ?_) ?_
  · have e : l.set k (fst f (fun m => dd W k m) 0).1 = l := by
      show l.set k (-2147483648) = l
      apply List.ext_getElem?
      intro i
      rw [List.getElem?_set]
      split
      · subst i; rw [if_pos (by omega), h0]
      · rfl
    show (l, (0 : Int), (0 : Int)) = (l.set k (fst f (fun m => dd W k m) 0).1, (fst f (fun m => dd W k m) 0).2, ((0 : Nat) : Int))
    rw [e]
    rfl
  · show terrain_Fill_s2 (W : Int) (row (H * W) f) (k : Int) (l.set k (fst f (fun m => dd W k m) m).1) (fst f (fun m => dd W k m) m).2 (m : Int) = some (Step.next (l.set k (fst f (fun m => dd W k m) (m + 1)).1, (fst f (fun m => dd W k m) (m + 1)).2, ((m + 1 : Nat) : Int)))
    unfold terrain_Fill_s2
    have hg : ix (l.set k (fst f (fun m => dd W k m) m).1) (k : Int) = some (fst f (fun m => dd W k m) m).1 := ix_get rfl (by rw [List.getElem?_set_self (by omega)])
    rw [row_len, if_pos (by simp only [decide_eq_true_eq]; omega), row_ix _ _ rfl hm, Option.bind_some, w64_id (z := (m : Int) + 1) (by omega) (by omega), hg]
    simp only [fst]
    by_cases hv : f m = -2147483648
    · rw [if_pos (by simpa using hv), if_pos hv]
      rfl
    · rw [if_neg (by simpa using hv), if_neg hv, chk_pos (by omega), chk_pos (by omega), chk_pos (by omega), chk_pos (by omega)]
      rw [show (w64 ((if (w64 ((Int.tmod (k : Int) (W : Int)) - (Int.tmod (m : Int) (W : Int)))) < (w64 (0 - (w64 ((Int.tmod (k : Int) (W : Int)) - (Int.tmod (m : Int) (W : Int)))))) then (w64 (0 - (w64 ((Int.tmod (k : Int) (W : Int)) - (Int.tmod (m : Int) (W : Int)))))) else (w64 ((Int.tmod (k : Int) (W : Int)) - (Int.tmod (m : Int) (W : Int))))) + (if (w64 ((w64 (Int.tdiv (k : Int) (W : Int))) - (w64 (Int.tdiv (m : Int) (W : Int))))) < (w64 (0 - (w64 ((w64 (Int.tdiv (k : Int) (W : Int))) - (w64 (Int.tdiv (m : Int) (W : Int))))))) then (w64 (0 - (w64 ((w64 (Int.tdiv (k : Int) (W : Int))) - (w64 (Int.tdiv (m : Int) (W : Int))))))) else (w64 ((w64 (Int.tdiv (k : Int) (W : Int))) - (w64 (Int.tdiv (m : Int) (W : Int)))))))) = dd W k m from rfl]
      simp only [Option.bind_some]
      generalize dd (W : Int) (k : Int) (m : Int) = D
      generalize fst f (fun m => dd W k m) m = S
      have e : (if (S.1 == (-2147483648)) = true then some true else (if decide (D < S.2) = true then some true else (if (D == S.2) = true then some (decide (f m < S.1)) else some false))) = some (decide (S.1 = -2147483648 ∨ D < S.2 ∨ (D = S.2 ∧ f m < S.1))) := by
        by_cases q1 : S.1 = -2147483648
        · rw [if_pos (by simpa using q1), decide_eq_true (.inl q1)]
        · rw [if_neg (by simpa using q1)]
          by_cases q2 : D < S.2
          · rw [if_pos (decide_eq_true q2), decide_eq_true (.inr (.inl q2))]
          · rw [if_neg (by simpa using q2)]
            by_cases q3 : D = S.2
            · rw [if_pos (by simpa using q3)]
              by_cases q4 : f m < S.1
              · rw [decide_eq_true q4, decide_eq_true (.inr (.inr ⟨q3, q4⟩))]
              · rw [decide_eq_false q4, decide_eq_false (by omega)]
            · rw [if_neg (by simpa using q3), decide_eq_false (by omega)]
      rw [e]
      simp only [Option.bind_some]
      by_cases q : S.1 = -2147483648 ∨ D < S.2 ∨ (D = S.2 ∧ f m < S.1)
      · rw [if_pos (decide_eq_true q), if_pos q, chk_pos (by rw [List.length_set]; omega), show ((k : Int)).toNat = k by omega, List.set_set]
        rfl
      · rw [if_neg (by simpa only [decide_eq_true_eq] using q), if_neg q]
        rfl
  · show terrain_Fill_s2 (W : Int) (row (H * W) f) (k : Int) (l.set k (fst f (fun m => dd W k m) (H * W)).1) (fst f (fun m => dd W k m) (H * W)).2 ((H * W : Nat) : Int) = _
    unfold terrain_Fill_s2
    rw [row_len, if_neg (by simp)]

theorem filled2 {W H : Nat} (hW0 : 0 < W) (hW : W ≤ 64) (hH : H ≤ 64) (f : Nat → Int) {k : Nat} (hk : k < H * W) :
    loopM FUEL (fun s : Int × Int × Int => fiduciallaw48_filled_s2 (W : Int) (row (H * W) f) (k : Int) s.1 s.2.1 s.2.2) (-2147483648, -1, 0) = some (if (fst f (fun m => dd W k m) (H * W)).1 = -2147483648 then (-2147483648, -1) else fst f (fun m => dd W k m) (H * W)) := by
  have hN : H * W ≤ 4096 := Nat.le_trans (Nat.mul_le_mul hH hW) (by decide)
  refine loop_go (fun m => ((if (fst f (fun m => dd W k m) m).1 = -2147483648 then (-2147483648, -1) else fst f (fun m => dd W k m) m).1, (if (fst f (fun m => dd W k m) m).1 = -2147483648 then (-2147483648, -1) else fst f (fun m => dd W k m) m).2, (m : Int))) (H * W) (by unfold FUEL; omega) rfl (fun m hm => ?_) ?_
  · show fiduciallaw48_filled_s2 (W : Int) (row (H * W) f) (k : Int) (if (fst f (fun m => dd W k m) m).1 = -2147483648 then (-2147483648, -1) else fst f (fun m => dd W k m) m).1 (if (fst f (fun m => dd W k m) m).1 = -2147483648 then (-2147483648, -1) else fst f (fun m => dd W k m) m).2 (m : Int) = some (Step.next ((if (fst f (fun m => dd W k m) (m + 1)).1 = -2147483648 then (-2147483648, -1) else fst f (fun m => dd W k m) (m + 1)).1, (if (fst f (fun m => dd W k m) (m + 1)).1 = -2147483648 then (-2147483648, -1) else fst f (fun m => dd W k m) (m + 1)).2, ((m + 1 : Nat) : Int)))
    unfold fiduciallaw48_filled_s2
    rw [row_len, if_pos (by simp only [decide_eq_true_eq]; omega), row_ix _ _ rfl hm, Option.bind_some, w64_id (z := (m : Int) + 1) (by omega) (by omega), chk_pos (by omega), chk_pos (by omega), chk_pos (by omega), chk_pos (by omega)]
    rw [show (w64 ((if (w64 ((Int.tmod (k : Int) (W : Int)) - (Int.tmod (m : Int) (W : Int)))) < (w64 (0 - (w64 ((Int.tmod (k : Int) (W : Int)) - (Int.tmod (m : Int) (W : Int)))))) then (w64 (0 - (w64 ((Int.tmod (k : Int) (W : Int)) - (Int.tmod (m : Int) (W : Int)))))) else (w64 ((Int.tmod (k : Int) (W : Int)) - (Int.tmod (m : Int) (W : Int))))) + (if (w64 ((w64 (Int.tdiv (k : Int) (W : Int))) - (w64 (Int.tdiv (m : Int) (W : Int))))) < (w64 (0 - (w64 ((w64 (Int.tdiv (k : Int) (W : Int))) - (w64 (Int.tdiv (m : Int) (W : Int))))))) then (w64 (0 - (w64 ((w64 (Int.tdiv (k : Int) (W : Int))) - (w64 (Int.tdiv (m : Int) (W : Int))))))) else (w64 ((w64 (Int.tdiv (k : Int) (W : Int))) - (w64 (Int.tdiv (m : Int) (W : Int)))))))) = dd W k m from rfl]
    simp only [fst]
    have hD := dd_nonneg hW0 hW hH hk hm
    have hS := fst_val f (fun m => dd W k m) m
    have hS2 : (fst f (fun m => dd W k m) m).1 ≠ -2147483648 → 0 ≤ (fst f (fun m => dd W k m) m).2 := fun h => by
      rcases hS with ⟨h1, _⟩ | ⟨_, j, hj, _, h2⟩
      · exact absurd h1 h
      · rw [h2]; exact dd_nonneg hW0 hW hH hk (by omega)
    generalize dd (W : Int) (k : Int) (m : Int) = D at hD ⊢
    generalize fst f (fun m => dd W k m) m = S at hS2 ⊢
    by_cases hv : f m = -2147483648
    · rw [if_neg (by simpa using hv), if_pos hv, Option.bind_some, if_neg (by decide)]
      rfl
    · rw [if_pos (by simpa using hv), if_neg hv]
      by_cases q1 : S.1 = -2147483648
      · rw [if_pos q1, if_pos (by decide), Option.bind_some, if_pos rfl, if_pos (show S.1 = -2147483648 ∨ D < S.2 ∨ (D = S.2 ∧ f m < S.1) from .inl q1), if_neg hv]
        rfl
      · have h2 := hS2 q1
        rw [if_neg q1, if_neg (by simp only [decide_eq_true_eq]; omega)]
        have e : (if decide (D < S.2) = true then some true else (if (D == S.2) = true then some (decide (f m < S.1)) else some false)) = some (decide (S.1 = -2147483648 ∨ D < S.2 ∨ (D = S.2 ∧ f m < S.1))) := by
          by_cases q2 : D < S.2
          · rw [if_pos (decide_eq_true q2), decide_eq_true (.inr (.inl q2))]
          · rw [if_neg (by simpa using q2)]
            by_cases q3 : D = S.2
            · rw [if_pos (by simpa using q3)]
              by_cases q4 : f m < S.1
              · rw [decide_eq_true q4, decide_eq_true (.inr (.inr ⟨q3, q4⟩))]
              · rw [decide_eq_false q4, decide_eq_false (by omega)]
            · rw [if_neg (by simpa using q3), decide_eq_false (by omega)]
        rw [e, Option.bind_some]
        by_cases q : S.1 = -2147483648 ∨ D < S.2 ∨ (D = S.2 ∧ f m < S.1)
        · rw [if_pos (decide_eq_true q), if_pos q, if_neg hv]
          rfl
        · rw [if_neg (by simpa only [decide_eq_true_eq] using q), if_neg q, if_neg q1]
          rfl
  · show fiduciallaw48_filled_s2 (W : Int) (row (H * W) f) (k : Int) _ _ ((H * W : Nat) : Int) = _
    unfold fiduciallaw48_filled_s2
    rw [row_len, if_neg (by simp)]

/-- The filled heights. -/
def fl (f : Nat → Int) (W H : Nat) : Nat → Int := fun k => if f k = -2147483648 then (fst f (fun m => dd W k m) (H * W)).1 else f k
def fnd (f : Nat → Int) : Nat → Bool
  | 0 => false
  | i + 1 => if f i = -2147483648 then fnd f i else true
theorem fnd_iff (f : Nat → Int) : ∀ n, (fnd f n = true ∧ ∃ j, j < n ∧ f j ≠ -2147483648) ∨ (fnd f n = false ∧ ∀ j, j < n → f j = -2147483648)
  | 0 => .inr ⟨rfl, fun j hj => by omega⟩
  | n + 1 => by
    simp only [fnd]
    by_cases h : f n = -2147483648
    · rw [if_pos h]
      rcases fnd_iff f n with ⟨h1, j, h2, h3⟩ | ⟨h1, h2⟩
      · exact .inl ⟨h1, j, by omega, h3⟩
      · refine .inr ⟨h1, fun j hj => ?_⟩
        by_cases hq : j = n
        · rw [hq]; exact h
        · exact h2 j (by omega)
    · rw [if_neg h]
      exact .inl ⟨rfl, n, by omega, h⟩

theorem fill1 {W H : Nat} (hW0 : 0 < W) (hW : W ≤ 64) (hH : H ≤ 64) (f : Nat → Int) :
    loopM FUEL (fun s : List Int × Bool × Int => terrain_Fill_s1 (W : Int) (row (H * W) f) s.1 s.2.1 s.2.2) (row (H * W) f, false, 0) = some (row (H * W) (fl f W H), fnd f (H * W)) := by
  have hN : H * W ≤ 4096 := Nat.le_trans (Nat.mul_le_mul hH hW) (by decide)
  refine loop_go (fun i => (row (H * W) (mixf f (fl f W H) i), fnd f i, (i : Int))) (H * W) (by unfold FUEL; omega) ?_ (fun k hk => ?_) ?_
  · show (row (H * W) f, false, (0 : Int)) = (row (H * W) (mixf f (fl f W H) 0), false, ((0 : Nat) : Int))
    rw [show row (H * W) (mixf f (fl f W H) 0) = row (H * W) f from row_congr fun z _ => by unfold mixf; rw [if_neg (by omega)]]
    rfl
  · show terrain_Fill_s1 (W : Int) (row (H * W) f) (row (H * W) (mixf f (fl f W H) k)) (fnd f k) (k : Int) = some (Step.next (row (H * W) (mixf f (fl f W H) (k + 1)), fnd f (k + 1), ((k + 1 : Nat) : Int)))
    unfold terrain_Fill_s1
    rw [row_len, if_pos (by simp only [decide_eq_true_eq]; omega), row_ix _ _ rfl hk, Option.bind_some, w64_id (z := (k : Int) + 1) (by omega) (by omega)]
    simp only [fnd]
    by_cases hv : f k = -2147483648
    · have h0 : (row (H * W) (mixf f (fl f W H) k))[k]? = some (-2147483648) := by rw [row_get _ _ hk, mixf_at, hv]
      have e : (fst f (fun m => dd W k m) (H * W)).1 = fl f W H k := by unfold fl; rw [if_pos hv]
      rw [if_neg (by simpa using hv), fill2 hW0 hW hH f hk (row_len _ _) h0, Option.bind_some, if_pos hv, e, mixf_set _ _ hk]
      rfl
    · rw [if_pos (by simpa using hv), if_neg hv, mixf_same _ _ (x := k) (by unfold fl; rw [if_neg hv])]
      rfl
  · show terrain_Fill_s1 (W : Int) (row (H * W) f) (row (H * W) (mixf f (fl f W H) (H * W))) (fnd f (H * W)) ((H * W : Nat) : Int) = _
    unfold terrain_Fill_s1
    rw [row_len, if_neg (by simp), show row (H * W) (mixf f (fl f W H) (H * W)) = row (H * W) (fl f W H) from row_congr fun z hz => by unfold mixf; rw [if_pos hz]]

theorem fl_val {W H : Nat} (f : Nat → Int) (hf : ∃ j, j < H * W ∧ f j ≠ -2147483648) (k : Nat) (hk : k < H * W) : fl f W H k ≠ -2147483648 ∧ ∃ j, j < H * W ∧ fl f W H k = f j := by
  unfold fl
  by_cases hv : f k = -2147483648
  · rw [if_pos hv]
    rcases fst_val f (fun m => dd W k m) (H * W) with ⟨_, h2⟩ | ⟨h1, j, h2, h3, _⟩
    · obtain ⟨j, hj, hn⟩ := hf
      exact absurd (h2 j hj) hn
    · exact ⟨h1, j, h2, h3⟩
  · rw [if_neg hv]
    exact ⟨hv, k, hk, rfl⟩

theorem filled1 {W H : Nat} (hW0 : 0 < W) (hH0 : 0 < H) (hW : W ≤ 64) (hH : H ≤ 64) (f : Nat → Int) :
    loopM FUEL (fun s : List Int × Int => fiduciallaw48_filled_s1 (W : Int) (row (H * W) f) s.1 s.2) ([], 0) = some (if fnd f (H * W) = true then .inr (row (H * W) (fl f W H)) else .inl (0, 0, 0, 0, 0, [], 6)) := by
  have hN : H * W ≤ 4096 := Nat.le_trans (Nat.mul_le_mul hH hW) (by decide)
  have h0 : 0 < H * W := Nat.mul_pos hH0 hW0
  have hst : ∀ k, k < H * W → fiduciallaw48_filled_s1 (W : Int) (row (H * W) f) (row k (fl f W H)) (k : Int) = if fl f W H k = -2147483648 then some (.done (.inl (0, 0, 0, 0, 0, [], 6))) else some (.next (row (k + 1) (fl f W H), ((k + 1 : Nat) : Int))) := fun k hk => by
    unfold fiduciallaw48_filled_s1
    rw [row_len, if_pos (by simp only [decide_eq_true_eq]; omega), row_ix _ _ rfl hk, Option.bind_some, row_len, w64_id (z := (k : Int) + 1) (by omega) (by omega)]
    by_cases hv : f k = -2147483648
    · have e : fl f W H k = (fst f (fun m => dd W k m) (H * W)).1 := by unfold fl; rw [if_pos hv]
      rw [if_pos (by simpa using hv), hv, filled2 hW0 hW hH f hk, e]
      by_cases hq : (fst f (fun m => dd W k m) (H * W)).1 = -2147483648
      · rw [if_pos hq, if_pos hq]
        rfl
      · rw [if_neg hq, if_neg hq]
        have hd : 0 ≤ (fst f (fun m => dd W k m) (H * W)).2 := by
          rcases fst_val f (fun m => dd W k m) (H * W) with ⟨h1, _⟩ | ⟨_, j, h2, _, h3⟩
          · exact absurd h1 hq
          · rw [h3]; exact dd_nonneg hW0 hW hH hk h2
        show (if decide ((fst f (fun m => dd W k m) (H * W)).2 < 0) = true then _ else _) = _
        rw [if_neg (by simp only [decide_eq_true_eq]; omega), chk_pos (by omega), ← e, row_succ]
        rfl
    · have e : fl f W H k = f k := by unfold fl; rw [if_neg hv]
      rw [if_neg (by simpa using hv), chk_pos (by omega), if_neg (by rw [e]; exact hv), row_succ, e]
      rfl
  rcases fnd_iff f (H * W) with ⟨h1, h2⟩ | ⟨h1, h2⟩
  · rw [h1, if_pos rfl]
    refine loop_go (fun i => (row i (fl f W H), (i : Int))) (H * W) (by unfold FUEL; omega) rfl (fun k hk => ?_) ?_
    · show fiduciallaw48_filled_s1 (W : Int) (row (H * W) f) (row k (fl f W H)) (k : Int) = _
      rw [hst k hk, if_neg (fl_val f h2 k hk).1]
    · show fiduciallaw48_filled_s1 (W : Int) (row (H * W) f) (row (H * W) (fl f W H)) ((H * W : Nat) : Int) = _
      unfold fiduciallaw48_filled_s1
      rw [row_len, if_neg (by simp)]
  · rw [h1, if_neg (by decide)]
    refine loop_go (fun i => (row i (fl f W H), (i : Int))) 0 (by unfold FUEL; omega) rfl (fun k hk => by omega) ?_
    show fiduciallaw48_filled_s1 (W : Int) (row (H * W) f) (row 0 (fl f W H)) ((0 : Nat) : Int) = _
    rw [hst 0 h0, if_pos]
    unfold fl
    rw [if_pos (h2 0 h0)]
    rcases fst_val f (fun m => dd W ((0 : Nat) : Int) m) (H * W) with ⟨h3, _⟩ | ⟨h3, j, h4, h5, _⟩
    · exact h3
    · rw [h5]; exact h2 j h4

theorem contains_eq {xs : List Int} {v : Int} (hn : xs.length ≤ 1000000) (hv : v ∈ xs) : slices_Contains_sint xs v = some true := by
  unfold slices_Contains_sint
  rcases index_spec xs v hn with ⟨i, _, _, _, h⟩ | ⟨h, _⟩
  · rw [h, Option.bind_some, decide_eq_true (by omega)]
  · exact absurd hv h

theorem fills_tail {W H : Nat} (hN : H * W ≤ 4096) (f : Nat → Int) (hf : ∃ j, j < H * W ∧ f j ≠ -2147483648) :
    loopM FUEL (fun s : Int => fiduciallaw48_TerrainFills_s1 (row (H * W) f) (row (H * W) (fl f W H)) s) 0 = some (.inr ()) := by
  refine loop_go (fun i => (i : Int)) (s0 := 0) (H * W) (by unfold FUEL; omega) rfl (fun k hk => ?_) ?_
  · obtain ⟨h1, j, h2, h3⟩ := fl_val f hf k hk
    have hc : slices_Contains_sint (row (H * W) f) (fl f W H k) = some true := contains_eq (by rw [row_len]; omega) (List.mem_map.2 ⟨j, List.mem_range.2 h2, h3.symm⟩)
    unfold fiduciallaw48_TerrainFills_s1
    rw [row_len, if_pos (by simp only [decide_eq_true_eq]; omega), row_ix _ _ rfl hk, Option.bind_some, row_ix _ _ rfl hk, hc, if_neg (by simpa using h1), w64_id (by omega) (by omega)]
    simp only [Option.bind_some]
    by_cases hv : f k = -2147483648
    · rw [if_neg (by simpa using hv)]
      rfl
    · have e : fl f W H k = f k := by unfold fl; rw [if_neg hv]
      rw [if_pos (by simpa using hv), if_neg (by simp [e])]
      rfl
  · unfold fiduciallaw48_TerrainFills_s1
    rw [row_len, if_neg (by simp)]

theorem fills_true (a0 a1 a2 a3 a4 : Int) (z : List Int) (p : List Bool) : fiduciallaw48_TerrainFills a0 a1 a2 a3 a4 z p = some true := by
  unfold fiduciallaw48_TerrainFills
  rw [known48, Option.bind_some, if_neg (by decide), few_eq, Option.bind_some]
  by_cases hl : z.length ≤ 150
  · rw [decide_eq_true (by omega : (z.length : Int) ≤ 150), if_neg (by decide), Option.bind_some]
    by_cases hl2 : 150 < p.length
    · rw [if_pos (by simp; omega)]
    rw [if_neg (by simp; omega)]
    have hA := check_eq a0 a1 a2 a3 a4 z (by omega)
    have hA2 := checked_eq a0 a1 a2 a3 a4 z (by omega)
    have keyK : ∃ q0 q1 q2 q3 q4 qz k, qz.length ≤ 1000000 ∧ terrain_Keep a0 a1 a2 a3 a4 z p = some (q0, q1, q2, q3, q4, qz, k) ∧ fiduciallaw48_kept a0 a1 a2 a3 a4 z p = some (q0, q1, q2, q3, q4, qz, k) := by
      unfold terrain_Keep fiduciallaw48_kept
      rw [hA, hA2]
      rcases code_cases a0 a1 a2 a3 a4 z with ⟨cA, W, H, v⟩ | cA
      · rw [cA]
        simp only [Option.bind_some]
        rw [if_neg (show ¬ ((0 : Int) != 0) = true by decide), if_neg (show ¬ ((0 : Int) != 0) = true by decide)]
        by_cases hp : p.length = z.length
        · rw [if_neg (show ¬ ((p.length : Int) != (z.length : Int)) = true by simp [hp]), if_neg (show ¬ ((p.length : Int) != (z.length : Int)) = true by simp [hp]), blank_eq (by omega), Option.bind_some]
          obtain ⟨k1, k2⟩ := keep_loops (N := z.length) (by omega) (fun i => z.getD i 0) hp
          rw [← zr z] at k1 k2
          rw [k1, k2]
          exact ⟨_, _, _, _, _, _, _, by rw [row_len]; omega, rfl, rfl⟩
        · have hp2 : ((p.length : Int) != (z.length : Int)) = true := by simp only [bne_iff_ne, ne_eq]; omega
          rw [if_pos hp2, if_pos hp2]
          exact ⟨0, 0, 0, 0, 0, [], 4, by simp, rfl, rfl⟩
      · have hc2 : (code a0 a1 a2 a3 a4 z != 0) = true := by simpa using cA
        rw [Option.bind_some, Option.bind_some, if_pos hc2, if_pos hc2]
        exact ⟨0, 0, 0, 0, 0, [], _, by simp, rfl, rfl⟩
    have keyF : ∃ q0 q1 q2 q3 q4 qz k, qz.length ≤ 1000000 ∧ terrain_Fill a0 a1 a2 a3 a4 z = some (q0, q1, q2, q3, q4, qz, k) ∧ fiduciallaw48_filled a0 a1 a2 a3 a4 z = some (q0, q1, q2, q3, q4, qz, k) ∧ loopM FUEL (fun s : Int => fiduciallaw48_TerrainFills_s1 z qz s) 0 = some (.inr ()) := by
      have hnil : loopM FUEL (fun s : Int => fiduciallaw48_TerrainFills_s1 z [] s) 0 = some (.inr ()) := loop_go (fun i => (i : Int)) (s0 := 0) 0 (by unfold FUEL; omega) rfl (fun i hi => by omega) rfl
      unfold terrain_Fill fiduciallaw48_filled
      rw [hA, hA2]
      rcases code_cases a0 a1 a2 a3 a4 z with ⟨cA, W, H, v⟩ | cA
      · have hW0 : 0 < W := by have := v.w2; omega
        have hH0 : 0 < H := by have := v.h2; omega
        have h6 := v.w64
        have h7 := v.h64
        have hN := v.n
        have hz := zr z
        rw [v.len] at hz
        rw [cA]
        simp only [Option.bind_some]
        rw [if_neg (show ¬ ((0 : Int) != 0) = true by decide), if_neg (show ¬ ((0 : Int) != 0) = true by decide), clone_eq z (by omega), Option.bind_some]
        obtain rfl := v.ew
        obtain rfl := v.eh
        rw [hz]
        generalize (fun i => z.getD i 0) = f
        rw [fill1 hW0 h6 h7 f, filled1 hW0 hH0 h6 h7 f]
        simp only [Option.bind_some]
        rcases fnd_iff f (H * W) with ⟨e1, e2⟩ | ⟨e1, _⟩
        · rw [e1]
          exact ⟨_, _, _, _, _, _, _, by rw [row_len]; omega, rfl, rfl, fills_tail hN f e2⟩
        · rw [e1]
          refine ⟨0, 0, 0, 0, 0, [], 6, by simp, rfl, rfl, ?_⟩
          exact loop_go (fun i => (i : Int)) (s0 := 0) 0 (by unfold FUEL; omega) rfl (fun i hi => by omega) rfl
      · have hc2 : (code a0 a1 a2 a3 a4 z != 0) = true := by simpa using cA
        rw [Option.bind_some, Option.bind_some, if_pos hc2, if_pos hc2]
        exact ⟨0, 0, 0, 0, 0, [], _, by simp, rfl, rfl, hnil⟩
    obtain ⟨q0, q1, q2, q3, q4, qz, k, hq, k1, k2⟩ := keyK
    obtain ⟨r0, r1, r2, r3, r4, rz, j, hr, j1, j2, j3⟩ := keyF
    rw [k1, k2, j1, j2]
    simp only [Option.bind_some]
    rw [if_neg (by simp), if_neg (by simp), same_self _ _ _ _ _ _ hq, same_self _ _ _ _ _ _ hr]
    simp only [Option.bind_some]
    rw [if_neg (by decide)]
    simp only [Option.bind_some]
    rw [if_neg (by decide), j3]
    rfl
  · rw [decide_eq_false (by omega : ¬ (z.length : Int) ≤ 150)]; rfl
end Go.Proofs.Ytcaeieofjchpjaa
