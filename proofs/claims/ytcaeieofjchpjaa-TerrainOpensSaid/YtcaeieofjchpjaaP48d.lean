/-
  PLAIN, chapter 48: filters.
-/
import Derived.Test.YtcaeieofjchpjaaP48b
set_option linter.unusedSimpArgs false
set_option linter.unusedVariables false
namespace Go.Proofs.Ytcaeieofjchpjaa
open Go.E

/-- An operation of which the order does not matter. -/
structure OpOk (op : Int → Int → Int) : Prop where
  assoc : ∀ a b c, op (op a b) c = op a (op b c)
  comm : ∀ a b, op a b = op b a
  idem : ∀ a, op a a = a

theorem OpOk.push {op : Int → Int → Int} (h : OpOk op) : ∀ (l : List Int) (a b : Int), l.foldl op (op a b) = op a (l.foldl op b)
  | [], a, b => rfl
  | x :: l, a, b => by
    simp only [List.foldl_cons]
    rw [h.assoc, h.push l a (op b x)]
theorem OpOk.absorb {op : Int → Int → Int} (h : OpOk op) : ∀ (l : List Int) (a b : Int), a ∈ l → op a (l.foldl op b) = l.foldl op b
  | x :: l, a, b, ha => by
    simp only [List.foldl_cons]
    rcases List.mem_cons.1 ha with rfl | ha
    · rw [← h.push, h.comm b a, ← h.assoc, h.idem]
    · exact h.absorb l a (op b x) ha
theorem OpOk.start {op : Int → Int → Int} (h : OpOk op) {l : List Int} {a b : Int} (ha : a ∈ l) (hb : b ∈ l) : l.foldl op a = l.foldl op b := by
  rw [← h.absorb l b a hb, ← h.push, h.comm, h.push, h.absorb l a b ha]

def imin (a b : Int) : Int := if b < a then b else a
def imax (a b : Int) : Int := if a < b then b else a
theorem imin_ok : OpOk imin := ⟨fun a b c => by unfold imin; split <;> split <;> (try split) <;> (try split) <;> omega, fun a b => by unfold imin; split <;> split <;> omega, fun a => by unfold imin; split <;> rfl⟩
theorem imax_ok : OpOk imax := ⟨fun a b c => by unfold imax; split <;> split <;> (try split) <;> (try split) <;> omega, fun a b => by unfold imax; split <;> split <;> omega, fun a => by unfold imax; split <;> rfl⟩

def nz (v : Int) : Bool := v != -2147483648
/-- Heights of a stretch of row j. -/
def seg (f : Nat → Int) (W j a n : Nat) : List Int := (List.range n).map fun t => f (j * W + (a + t))
theorem seg_succ (f : Nat → Int) (W j a n : Nat) : seg f W j a (n + 1) = seg f W j a n ++ [f (j * W + (a + n))] := by simp [seg, List.range_succ]
/-- Heights of a window. -/
def win (f : Nat → Int) (W b m a n : Nat) : List Int := (List.range m).flatMap fun u => seg f W (b + u) a n
theorem win_succ (f : Nat → Int) (W b m a n : Nat) : win f W b (m + 1) a n = win f W b m a n ++ seg f W (b + m) a n := by simp [win, List.range_succ]

def lo (x r : Nat) : Nat := x - r
def cnt (W x r : Nat) : Nat := min (W - 1) (x + r) + 1 - (x - r)
/-- All heights around point k. -/
def around (f : Nat → Int) (W H k r : Nat) : List Int := win f W (lo (k / W) r) (cnt H (k / W) r) (lo (k % W) r) (cnt W (k % W) r)
theorem win_mem {f : Nat → Int} {W H r y x : Nat} (hy : y < H) (hx : x < W) : f (y * W + x) ∈ win f W (lo y r) (cnt H y r) (lo x r) (cnt W x r) := by
  refine List.mem_flatMap.2 ⟨y - lo y r, List.mem_range.2 (by unfold lo cnt; omega), List.mem_map.2 ⟨x - lo x r, List.mem_range.2 (by unfold lo cnt; omega), ?_⟩⟩
  have e1 : lo y r + (y - lo y r) = y := by unfold lo; omega
  have e2 : lo x r + (x - lo x r) = x := by unfold lo; omega
  rw [e1, e2]
theorem around_self {f : Nat → Int} {W H k r : Nat} (hW : 0 < W) (hk : k < H * W) : f k ∈ around f W H k r := by
  have hy : k / W < H := Nat.div_lt_of_lt_mul (by rw [Nat.mul_comm]; exact hk)
  have hx : k % W < W := Nat.mod_lt _ hW
  have h := win_mem (f := f) (r := r) hy hx
  have e := Nat.div_add_mod k W
  rw [Nat.mul_comm] at e
  rw [e] at h
  exact h

def flt (op : Int → Int → Int) (f : Nat → Int) (W H r : Nat) : Nat → Int := fun k => if f k = -2147483648 then -2147483648 else ((around f W H k r).filter nz).foldl op (f k)

theorem yx {W H k : Nat} (hW : 0 < W) (hk : k < H * W) (hN : H * W ≤ 4096) : k / W < H ∧ k % W < W ∧ w64 (Int.tdiv (k : Int) (W : Int)) = ((k / W : Nat) : Int) ∧ Int.tmod (k : Int) (W : Int) = ((k % W : Nat) : Int) := by
  have hy : k / W < H := Nat.div_lt_of_lt_mul (by rw [Nat.mul_comm]; exact hk)
  have hd : k / W ≤ k := Nat.div_le_self _ _
  refine ⟨hy, Nat.mod_lt _ hW, ?_, ?_⟩
  · rw [Int.tdiv_eq_ediv_of_nonneg (by omega), show (k : Int) / (W : Int) = ((k / W : Nat) : Int) by push_cast; rfl]
    generalize k / W = q at hd ⊢
    exact w64_id (by omega) (by omega)
  · rw [Int.tmod_eq_emod_of_nonneg (by omega)]
    push_cast; rfl
theorem cell_in {W H x y : Nat} (hx : x < W) (hy : y < H) : y * W + x < H * W := by
  have := Nat.mul_le_mul_right W (show y + 1 ≤ H by omega)
  rw [Nat.add_mul] at this
  omega
theorem cell_w64 {W y x : Nat} (hW : W ≤ 64) (hy : y < 64) (hx : x < W) : w64 (w64 ((y : Int) * (W : Int)) + (x : Int)) = ((y * W + x : Nat) : Int) := by
  have h1 : y * W ≤ 64 * 64 := Nat.mul_le_mul (by omega) hW
  rw [show (y : Int) * (W : Int) = ((y * W : Nat) : Int) by push_cast; rfl, w64_id (z := ((y * W : Nat) : Int)) (by omega) (by omega), w64_id (by omega) (by omega)]
  push_cast
  rfl
theorem lo1 {x r : Nat} (hx : x ≤ 100) (hr : r ≤ 8) : (if 0 < (w64 ((x : Int) - (r : Int))) then (w64 ((x : Int) - (r : Int))) else 0) = ((lo x r : Nat) : Int) := by
  rw [w64_id (by omega) (by omega)]
  unfold lo
  split <;> omega
theorem lo2 {x r : Nat} (hx : x ≤ 100) (hr : r ≤ 8) : (if (w64 ((x : Int) - (r : Int))) < 0 then 0 else (w64 ((x : Int) - (r : Int)))) = ((lo x r : Nat) : Int) := by
  rw [w64_id (by omega) (by omega)]
  unfold lo
  split <;> omega
theorem hi1 {W x r : Nat} (hx : x < W) (hW : W ≤ 64) (hr : r ≤ 8) : (if (w64 ((x : Int) + (r : Int))) < (w64 ((W : Int) - 1)) then (w64 ((x : Int) + (r : Int))) else (w64 ((W : Int) - 1))) = ((lo x r + cnt W x r - 1 : Nat) : Int) := by
  rw [w64_id (z := (x : Int) + (r : Int)) (by omega) (by omega), w64_id (z := (W : Int) - 1) (by omega) (by omega)]
  unfold lo cnt
  split <;> omega
theorem hi2 {W x r : Nat} (hx : x < W) (hW : W ≤ 64) (hr : r ≤ 8) : (if (w64 ((W : Int) - 1)) < (w64 ((x : Int) + (r : Int))) then (w64 ((W : Int) - 1)) else (w64 ((x : Int) + (r : Int)))) = ((lo x r + cnt W x r - 1 : Nat) : Int) := by
  rw [w64_id (z := (x : Int) + (r : Int)) (by omega) (by omega), w64_id (z := (W : Int) - 1) (by omega) (by omega)]
  unfold lo cnt
  split <;> omega
theorem cnt_ok {W x r : Nat} (hx : x < W) : 0 < cnt W x r ∧ lo x r + cnt W x r ≤ W := by unfold lo cnt; omega

/-! ### The program's filter -/

theorem f3 {op : Int → Int → Int} {p2 : Int → Int → Option Int} (hp : ∀ a b, p2 a b = some (op a b)) {W H : Nat} (hW : W ≤ 64) (hH : H ≤ 64) {f : Nat → Int} {k r j : Nat} (hW0 : 0 < W) (hk : k < H * W) (hr : r ≤ 8) (hj : j < H) {l : List Int} (hl : l.length = H * W) {acc : Int} (ha : l[k]? = some acc) :
    loopM FUEL (fun s : List Int × Int => terrain_filtered_s3 (W : Int) (row (H * W) f) (r : Int) p2 (k : Int) (j : Int) s.1 s.2) (l, ((lo (k % W) r : Nat) : Int)) = some (l.set k (((seg f W j (lo (k % W) r) (cnt W (k % W) r)).filter nz).foldl op acc)) := by
  have hN : H * W ≤ 4096 := Nat.le_trans (Nat.mul_le_mul hH hW) (by decide)
  obtain ⟨hy, hx, ey, ex⟩ := yx hW0 hk hN
  have hc := cnt_ok (r := r) hx
  refine loop_go (fun t => (l.set k (((seg f W j (lo (k % W) r) t).filter nz).foldl op acc), ((lo (k % W) r + t : Nat) : Int))) (cnt W (k % W) r) (by unfold FUEL cnt; omega) ?_ (fun t ht => ?_) ?_
  · have e : l.set k acc = l := by
      apply List.ext_getElem?
      intro i
      rw [List.getElem?_set]
      split
      · subst i; rw [if_pos (by omega), ha]
      · rfl
    show (l, _) = (l.set k acc, _)
    rw [e]
    rfl
  · show terrain_filtered_s3 (W : Int) (row (H * W) f) (r : Int) p2 (k : Int) (j : Int) (l.set k (((seg f W j (lo (k % W) r) t).filter nz).foldl op acc)) ((lo (k % W) r + t : Nat) : Int) = _
    unfold terrain_filtered_s3
    rw [ex, hi1 hx hW hr, if_pos (by simp only [decide_eq_true_eq]; omega), cell_w64 hW (by omega) (by omega), row_ix _ _ rfl (cell_in (by omega) hj), Option.bind_some, w64_id (by omega) (by omega)]
    show _ = some (Step.next (l.set k (((seg f W j (lo (k % W) r) (t + 1)).filter nz).foldl op acc), ((lo (k % W) r + (t + 1) : Nat) : Int)))
    rw [seg_succ, List.filter_append, List.foldl_append]
    by_cases hv : f (j * W + (lo (k % W) r + t)) = -2147483648
    · rw [if_neg (by simpa using hv), Option.bind_some]
      have : [f (j * W + (lo (k % W) r + t))].filter nz = [] := by simp [nz, hv]
      rw [this]
      rfl
    · have : [f (j * W + (lo (k % W) r + t))].filter nz = [f (j * W + (lo (k % W) r + t))] := by simp [nz, hv]
      rw [if_pos (by simpa using hv), ix_get rfl (by rw [List.getElem?_set_self (by omega)]), Option.bind_some, hp, Option.bind_some, chk_pos (by rw [List.length_set]; omega), Option.bind_some, show ((k : Int)).toNat = k by omega, List.set_set, this]
      rfl
  · show terrain_filtered_s3 (W : Int) (row (H * W) f) (r : Int) p2 (k : Int) (j : Int) (l.set k (((seg f W j (lo (k % W) r) (cnt W (k % W) r)).filter nz).foldl op acc)) ((lo (k % W) r + cnt W (k % W) r : Nat) : Int) = _
    unfold terrain_filtered_s3
    rw [ex, hi1 hx hW hr, if_neg (by simp only [decide_eq_true_eq]; omega)]

theorem f2 {op : Int → Int → Int} {p2 : Int → Int → Option Int} (hp : ∀ a b, p2 a b = some (op a b)) {W H : Nat} (hW : W ≤ 64) (hH : H ≤ 64) {f : Nat → Int} {k r : Nat} (hW0 : 0 < W) (hk : k < H * W) (hr : r ≤ 8) {l : List Int} (hl : l.length = H * W) {acc : Int} (ha : l[k]? = some acc) :
    loopM FUEL (fun s : List Int × Int => terrain_filtered_s2 (W : Int) (H : Int) (row (H * W) f) (r : Int) p2 (k : Int) s.1 s.2) (l, ((lo (k / W) r : Nat) : Int)) = some (l.set k (((around f W H k r).filter nz).foldl op acc)) := by
  have hN : H * W ≤ 4096 := Nat.le_trans (Nat.mul_le_mul hH hW) (by decide)
  obtain ⟨hy, hx, ey, ex⟩ := yx hW0 hk hN
  have hc := cnt_ok (r := r) hy
  refine loop_go (fun t => (l.set k (((win f W (lo (k / W) r) t (lo (k % W) r) (cnt W (k % W) r)).filter nz).foldl op acc), ((lo (k / W) r + t : Nat) : Int))) (cnt H (k / W) r) (by unfold FUEL cnt; omega) ?_ (fun t ht => ?_) ?_
  · have e : l.set k acc = l := by
      apply List.ext_getElem?
      intro i
      rw [List.getElem?_set]
      split
      · subst i; rw [if_pos (by omega), ha]
      · rfl
    show (l, _) = (l.set k acc, _)
    rw [e]
    rfl
  · show terrain_filtered_s2 (W : Int) (H : Int) (row (H * W) f) (r : Int) p2 (k : Int) (l.set k (((win f W (lo (k / W) r) t (lo (k % W) r) (cnt W (k % W) r)).filter nz).foldl op acc)) ((lo (k / W) r + t : Nat) : Int) = _
    unfold terrain_filtered_s2
    rw [ex, ey, hi1 hy hH hr, if_pos (by simp only [decide_eq_true_eq]; omega), lo1 (by omega) hr, f3 hp hW hH hW0 hk hr (by omega) (by rw [List.length_set]; exact hl) (by rw [List.getElem?_set_self (by omega)]), Option.bind_some, w64_id (by omega) (by omega), List.set_set]
    show _ = some (Step.next (l.set k (((win f W (lo (k / W) r) (t + 1) (lo (k % W) r) (cnt W (k % W) r)).filter nz).foldl op acc), ((lo (k / W) r + (t + 1) : Nat) : Int)))
    rw [win_succ, List.filter_append, List.foldl_append]
    rfl
  · show terrain_filtered_s2 (W : Int) (H : Int) (row (H * W) f) (r : Int) p2 (k : Int) (l.set k (((win f W (lo (k / W) r) (cnt H (k / W) r) (lo (k % W) r) (cnt W (k % W) r)).filter nz).foldl op acc)) ((lo (k / W) r + cnt H (k / W) r : Nat) : Int) = _
    unfold terrain_filtered_s2
    rw [ey, hi1 hy hH hr, if_neg (by simp only [decide_eq_true_eq]; omega)]
    rfl

theorem setrow4 {W : Nat} (hW : W ≤ 4096) {f g : Nat → Int} {step : List Int × Int → Option (Step (List Int × Int) (List Int))} (h : ∀ x : Nat, x < W → step (row W (mixf f g x), (x : Int)) = some (.next (row W (mixf f g (x + 1)), ((x + 1 : Nat) : Int)))) (hd : ∀ l, step (l, (W : Int)) = some (.done l)) :
    loopM FUEL step (row W f, 0) = some (row W g) := by
  refine loop_go (fun i => (row W (mixf f g i), (i : Int))) W (by unfold FUEL; omega) ?_ (fun i hi => h i hi) ?_
  · show (row W f, (0 : Int)) = (row W (mixf f g 0), ((0 : Nat) : Int))
    rw [show row W f = row W (mixf f g 0) from row_congr fun z _ => by unfold mixf; rw [if_neg (by omega)]]
    rfl
  · rw [hd, show row W (mixf f g W) = row W g from row_congr fun z hz => by unfold mixf; rw [if_pos hz]]

theorem filt1 {op : Int → Int → Int} {p2 : Int → Int → Option Int} (hp : ∀ a b, p2 a b = some (op a b)) {W H : Nat} (hW0 : 0 < W) (hW : W ≤ 64) (hH : H ≤ 64) (f : Nat → Int) {r : Nat} (hr : r ≤ 8) (a b c : Int) :
    terrain_filtered a b c W H (row (H * W) f) r p2 = some (a, b, c, (W : Int), (H : Int), row (H * W) (flt op f W H r)) := by
  have hN : H * W ≤ 4096 := Nat.le_trans (Nat.mul_le_mul hH hW) (by decide)
  unfold terrain_filtered
  rw [row_len, blank_eq (by omega), Option.bind_some]
  have : loopM FUEL (fun s : List Int × Int => terrain_filtered_s1 (W : Int) (H : Int) (row (H * W) f) (r : Int) p2 s.1 s.2) (row (H * W) (fun _ => -2147483648), 0) = some (row (H * W) (flt op f W H r)) := by
    refine setrow4 hN (fun k hk => ?_) (fun l => ?_)
    · show terrain_filtered_s1 (W : Int) (H : Int) (row (H * W) f) (r : Int) p2 (row (H * W) (mixf (fun _ => -2147483648) (flt op f W H r) k)) (k : Int) = _
      obtain ⟨hy, hx, ey, ex⟩ := yx hW0 hk hN
      unfold terrain_filtered_s1
      rw [row_len, if_pos (by simp only [decide_eq_true_eq]; omega), row_ix _ _ rfl hk, Option.bind_some, row_len, w64_id (z := (k : Int) + 1) (by omega) (by omega)]
      by_cases hv : f k = -2147483648
      · rw [if_pos (by simpa using hv), mixf_same _ _ (x := k) (by unfold flt; rw [if_pos hv])]
        rfl
      · rw [if_neg (by simpa using hv), chk_pos (by omega), chk_pos (by omega), chk_pos (by omega), ey, lo1 (by omega) hr, show ((k : Int)).toNat = k by omega, f2 hp hW hH hW0 hk hr (acc := f k) (by rw [List.length_set, row_len]) (by rw [List.getElem?_set_self (by rw [row_len]; exact hk)]), Option.bind_some, List.set_set]
        have e : ((around f W H k r).filter nz).foldl op (f k) = flt op f W H r k := by unfold flt; rw [if_neg hv]
        rw [e, mixf_set _ _ hk]
        rfl
    · show terrain_filtered_s1 (W : Int) (H : Int) (row (H * W) f) (r : Int) p2 l ((H * W : Nat) : Int) = _
      unfold terrain_filtered_s1
      rw [row_len, if_neg (by simp)]
  rw [this]
  rfl

/-! ### The definition's filter -/

theorem w2 {W H : Nat} (hW : W ≤ 64) (hH : H ≤ 64) {f : Nat → Int} {k r j : Nat} (hW0 : 0 < W) (hk : k < H * W) (hr : r ≤ 8) (hj : j < H) {l : List Int} (hl : l.length ≤ 100000) :
    loopM FUEL (fun s : List Int × Int => fiduciallaw48_window_s2 (W : Int) (row (H * W) f) (k : Int) (r : Int) (j : Int) s.1 s.2) (l, ((lo (k % W) r : Nat) : Int)) = some (l ++ (seg f W j (lo (k % W) r) (cnt W (k % W) r)).filter nz) := by
  have hN : H * W ≤ 4096 := Nat.le_trans (Nat.mul_le_mul hH hW) (by decide)
  obtain ⟨hy, hx, ey, ex⟩ := yx hW0 hk hN
  have hc := cnt_ok (r := r) hx
  refine loop_go (fun t => (l ++ (seg f W j (lo (k % W) r) t).filter nz, ((lo (k % W) r + t : Nat) : Int))) (cnt W (k % W) r) (by unfold FUEL cnt; omega) (by simp [seg]) (fun t ht => ?_) ?_
  · show fiduciallaw48_window_s2 (W : Int) (row (H * W) f) (k : Int) (r : Int) (j : Int) (l ++ (seg f W j (lo (k % W) r) t).filter nz) ((lo (k % W) r + t : Nat) : Int) = _
    unfold fiduciallaw48_window_s2
    have hlen : ((seg f W j (lo (k % W) r) t).filter nz).length ≤ t := Nat.le_trans (List.length_filter_le _ _) (by simp [seg])
    rw [ex, hi2 hx hW hr, if_pos (by simp only [decide_eq_true_eq]; omega), cell_w64 hW (by omega) (by omega), row_ix _ _ rfl (cell_in (by omega) hj), Option.bind_some, w64_id (by omega) (by omega)]
    show _ = some (Step.next (l ++ (seg f W j (lo (k % W) r) (t + 1)).filter nz, ((lo (k % W) r + (t + 1) : Nat) : Int)))
    rw [seg_succ, List.filter_append]
    by_cases hv : f (j * W + (lo (k % W) r + t)) = -2147483648
    · rw [if_neg (by simpa using hv), Option.bind_some]
      have : [f (j * W + (lo (k % W) r + t))].filter nz = [] := by simp [nz, hv]
      rw [this, List.append_nil]
      rfl
    · have : [f (j * W + (lo (k % W) r + t))].filter nz = [f (j * W + (lo (k % W) r + t))] := by simp [nz, hv]
      rw [if_pos (by simpa using hv), chk_pos (by rw [List.length_append]; omega), Option.bind_some, this, List.append_assoc]
      rfl
  · show fiduciallaw48_window_s2 (W : Int) (row (H * W) f) (k : Int) (r : Int) (j : Int) (l ++ (seg f W j (lo (k % W) r) (cnt W (k % W) r)).filter nz) ((lo (k % W) r + cnt W (k % W) r : Nat) : Int) = _
    unfold fiduciallaw48_window_s2
    rw [ex, hi2 hx hW hr, if_neg (by simp only [decide_eq_true_eq]; omega)]

theorem win_len (f : Nat → Int) (W b m a n : Nat) : (win f W b m a n).length = m * n := by
  induction m with
  | zero => simp [win]
  | succ m ih => rw [win_succ, List.length_append, ih, Nat.add_mul, Nat.one_mul]; simp [seg]

theorem window_eq {W H : Nat} (hW0 : 0 < W) (hW : W ≤ 64) (hH : H ≤ 64) (f : Nat → Int) {k r : Nat} (hk : k < H * W) (hr : r ≤ 8) (a b c : Int) : fiduciallaw48_window a b c W H (row (H * W) f) k r = some ((around f W H k r).filter nz) := by
  have hN : H * W ≤ 4096 := Nat.le_trans (Nat.mul_le_mul hH hW) (by decide)
  obtain ⟨hy, hx, ey, ex⟩ := yx hW0 hk hN
  have hc := cnt_ok (r := r) hy
  have hc2 := cnt_ok (r := r) hx
  unfold fiduciallaw48_window
  rw [chk_pos (by omega), chk_pos (by omega), ey, lo2 (by omega) hr]
  have : loopM FUEL (fun s : List Int × Int => fiduciallaw48_window_s1 (W : Int) (H : Int) (row (H * W) f) (k : Int) (r : Int) s.1 s.2) ([], ((lo (k / W) r : Nat) : Int)) = some ((around f W H k r).filter nz) := by
    refine loop_go (fun t => ((win f W (lo (k / W) r) t (lo (k % W) r) (cnt W (k % W) r)).filter nz, ((lo (k / W) r + t : Nat) : Int))) (cnt H (k / W) r) (by unfold FUEL cnt; omega) rfl (fun t ht => ?_) ?_
    · show fiduciallaw48_window_s1 (W : Int) (H : Int) (row (H * W) f) (k : Int) (r : Int) ((win f W (lo (k / W) r) t (lo (k % W) r) (cnt W (k % W) r)).filter nz) ((lo (k / W) r + t : Nat) : Int) = _
      unfold fiduciallaw48_window_s1
      have hwl := win_len f W (lo (k / W) r) t (lo (k % W) r) (cnt W (k % W) r)
      have hle : t * cnt W (k % W) r ≤ 64 * 64 := Nat.mul_le_mul (by omega) (by omega)
      have hfl := List.length_filter_le nz (win f W (lo (k / W) r) t (lo (k % W) r) (cnt W (k % W) r))
      rw [ex, ey, hi2 hy hH hr, if_pos (by simp only [decide_eq_true_eq]; omega), lo2 (by omega) hr, w2 hW hH hW0 hk hr (by omega) (by omega), Option.bind_some, w64_id (by omega) (by omega)]
      show _ = some (Step.next ((win f W (lo (k / W) r) (t + 1) (lo (k % W) r) (cnt W (k % W) r)).filter nz, ((lo (k / W) r + (t + 1) : Nat) : Int)))
      rw [win_succ, List.filter_append]
      rfl
    · show fiduciallaw48_window_s1 (W : Int) (H : Int) (row (H * W) f) (k : Int) (r : Int) ((win f W (lo (k / W) r) (cnt H (k / W) r) (lo (k % W) r) (cnt W (k % W) r)).filter nz) ((lo (k / W) r + cnt H (k / W) r : Nat) : Int) = _
      unfold fiduciallaw48_window_s1
      rw [ey, hi2 hy hH hr, if_neg (by simp only [decide_eq_true_eq]; omega)]
      rfl
  rw [this]
  rfl

theorem fold_loop {op : Int → Int → Int} {l : List Int} (hl : l.length ≤ 1000000) {step : Int × Int → Option (Step (Int × Int) Int)} (hs : ∀ s i, step (s, i) = if decide (i < (l.length : Int)) = true then (ix l i).bind fun v => some (.next (op s v, w64 (i + 1))) else some (.done s)) (a : Int) :
    loopM FUEL step (a, 0) = some (l.foldl op a) := by
  refine loop_go (fun i => ((l.take i).foldl op a, (i : Int))) l.length (by unfold FUEL; omega) rfl (fun i hi => ?_) ?_
  · rw [hs, if_pos (by simpa using hi), ix_lt l i hi, Option.bind_some, w64_id (by omega) (by omega), take_succ hi, List.foldl_append]
    rfl
  · rw [hs, if_neg (by simp), List.take_length]

theorem filt2 {op : Int → Int → Int} (ho : OpOk op) {pick : List Int → Option Int} (hp : ∀ x l, (x :: l).length ≤ 1000000 → pick (x :: l) = some ((x :: l).foldl op x)) {W H : Nat} (hW0 : 0 < W) (hW : W ≤ 64) (hH : H ≤ 64) (f : Nat → Int) {r : Nat} (hr : r ≤ 8) (a b c : Int) :
    fiduciallaw48_filtered a b c W H (row (H * W) f) r pick = some (a, b, c, (W : Int), (H : Int), row (H * W) (flt op f W H r)) := by
  have hN : H * W ≤ 4096 := Nat.le_trans (Nat.mul_le_mul hH hW) (by decide)
  unfold fiduciallaw48_filtered
  have : loopM FUEL (fun s : List Int × Int => fiduciallaw48_filtered_s1 a b c (W : Int) (H : Int) (row (H * W) f) (r : Int) pick s.1 s.2) ([], 0) = some (row (H * W) (flt op f W H r)) := by
    refine loop_go (fun i => (row i (flt op f W H r), (i : Int))) (H * W) (by unfold FUEL; omega) rfl (fun k hk => ?_) ?_
    · show fiduciallaw48_filtered_s1 a b c (W : Int) (H : Int) (row (H * W) f) (r : Int) pick (row k (flt op f W H r)) (k : Int) = _
      unfold fiduciallaw48_filtered_s1
      rw [row_len, if_pos (by simp only [decide_eq_true_eq]; omega), row_ix _ _ rfl hk, Option.bind_some, row_len, w64_id (z := (k : Int) + 1) (by omega) (by omega)]
      have e : (if (f k != (-2147483648)) = true then (fiduciallaw48_window a b c (W : Int) (H : Int) (row (H * W) f) (k : Int) (r : Int)).bind fun y_12 => (pick y_12).bind fun y_13 => some y_13 else some (f k)) = some (flt op f W H r k) := by
        by_cases hv : f k = -2147483648
        · rw [if_neg (by simpa using hv)]
          unfold flt
          rw [if_pos hv, hv]
        · rw [if_pos (by simpa using hv), window_eq hW0 hW hH f hk hr, Option.bind_some]
          have hm : f k ∈ (around f W H k r).filter nz := List.mem_filter.2 ⟨around_self hW0 hk, by simp [nz, hv]⟩
          have hlen : ((around f W H k r).filter nz).length ≤ 1000000 := by
            refine Nat.le_trans (List.length_filter_le _ _) ?_
            unfold around
            rw [win_len]
            obtain ⟨hy, hx, _, _⟩ := yx hW0 hk hN
            have := Nat.mul_le_mul (show cnt H (k / W) r ≤ 64 by have := cnt_ok (r := r) hy; omega) (show cnt W (k % W) r ≤ 64 by have := cnt_ok (r := r) hx; omega)
            omega
          match hw : (around f W H k r).filter nz, hm, hlen with
          | x :: l, hm, hlen =>
            rw [hp x l hlen, Option.bind_some]
            unfold flt
            rw [if_neg hv, hw, ho.start hm (List.mem_cons_self ..)]
      rw [e, Option.bind_some, chk_pos (by omega)]
      show some (Step.next (_, _)) = some (Step.next (row (k + 1) (flt op f W H r), _))
      rw [row_succ]
      rfl
    · show fiduciallaw48_filtered_s1 a b c (W : Int) (H : Int) (row (H * W) f) (r : Int) pick (row (H * W) (flt op f W H r)) ((H * W : Nat) : Int) = _
      unfold fiduciallaw48_filtered_s1
      rw [row_len, if_neg (by simp)]
  rw [this]
  rfl

theorem least_pick (x : Int) (l : List Int) (hl : (x :: l).length ≤ 1000000) : fiduciallaw48_least (x :: l) = some ((x :: l).foldl imin x) := by
  unfold fiduciallaw48_least
  rw [ix_get (z := 0) (i := 0) rfl rfl, Option.bind_some, fold_loop (op := imin) hl (fun s i => rfl)]
  rfl
theorem greatest_pick (x : Int) (l : List Int) (hl : (x :: l).length ≤ 1000000) : fiduciallaw48_greatest (x :: l) = some ((x :: l).foldl imax x) := by
  unfold fiduciallaw48_greatest
  rw [ix_get (z := 0) (i := 0) rfl rfl, Option.bind_some, fold_loop (op := imax) hl (fun s i => rfl)]
  rfl

def opn (f : Nat → Int) (W H r : Nat) : Nat → Int := flt imax (flt imin f W H r) W H r
theorem opened1 {W H : Nat} (hW0 : 0 < W) (hW : W ≤ 64) (hH : H ≤ 64) (f : Nat → Int) {r : Nat} (hr : r ≤ 8) (a b c : Int) : terrain_opened a b c W H (row (H * W) f) r = some (a, b, c, (W : Int), (H : Int), row (H * W) (opn f W H r)) := by
  unfold terrain_opened
  rw [filt1 (op := imin) (p2 := fun a b => terrain_least a b) (fun _ _ => rfl) hW0 hW hH f hr]
  simp only [Option.bind_some]
  rw [filt1 (op := imax) (p2 := fun a b => terrain_greatest a b) (fun _ _ => rfl) hW0 hW hH _ hr]
  rfl
theorem opened2 {W H : Nat} (hW0 : 0 < W) (hW : W ≤ 64) (hH : H ≤ 64) (f : Nat → Int) {r : Nat} (hr : r ≤ 8) (a b c : Int) : fiduciallaw48_opened a b c W H (row (H * W) f) r = some (a, b, c, (W : Int), (H : Int), row (H * W) (opn f W H r)) := by
  unfold fiduciallaw48_opened
  rw [filt2 imin_ok least_pick hW0 hW hH f hr]
  simp only [Option.bind_some]
  rw [filt2 imax_ok greatest_pick hW0 hW hH _ hr]
  rfl

theorem filters_true (a0 a1 a2 a3 a4 : Int) (z : List Int) (r : Int) : fiduciallaw48_TerrainFilters a0 a1 a2 a3 a4 z r = some true := by
  unfold fiduciallaw48_TerrainFilters
  rw [known48, Option.bind_some, if_neg (by decide), few_eq, Option.bind_some]
  by_cases hl : z.length ≤ 150
  · rw [decide_eq_true (by omega : (z.length : Int) ≤ 150), if_neg (by decide)]
    have hA := check_eq a0 a1 a2 a3 a4 z (by omega)
    have hA2 := checked_eq a0 a1 a2 a3 a4 z (by omega)
    have hsn : fiduciallaw48_same 0 0 0 0 0 [] 0 0 0 0 0 [] = some true := same_self _ _ _ _ _ _ (by simp)
    rcases code_cases a0 a1 a2 a3 a4 z with ⟨cA, W, H, v⟩ | cA
    · by_cases hr : r < 0 ∨ 8 < r
      · have hck : terrain_checked a0 a1 a2 a3 a4 z r = some 2 := by
          unfold terrain_checked
          rw [hA, cA, Option.bind_some, if_neg (by decide)]
          by_cases h0 : r < 0
          · rw [if_pos (decide_eq_true h0)]; rfl
          · rw [if_neg (by simpa using h0), decide_eq_true (by omega)]; rfl
        have eE : terrain_Erode a0 a1 a2 a3 a4 z r = some (0, 0, 0, 0, 0, [], 2) := by unfold terrain_Erode; rw [hck]; rfl
        have eD : terrain_Dilate a0 a1 a2 a3 a4 z r = some (0, 0, 0, 0, 0, [], 2) := by unfold terrain_Dilate; rw [hck]; rfl
        have eO : terrain_Open a0 a1 a2 a3 a4 z r = some (0, 0, 0, 0, 0, [], 2) := by unfold terrain_Open; rw [hck]; rfl
        rw [eE, eD, eO, hA2, cA]
        simp only [Option.bind_some]
        have e : (if ((0 : Int) == 0) = true then (if decide (r < 0) = true then some true else some (decide (8 < r))) else some false) = some true := by
          rw [if_pos (by decide)]
          by_cases h0 : r < 0
          · rw [if_pos (decide_eq_true h0)]
          · rw [if_neg (by simpa using h0), decide_eq_true (by omega)]
        rw [e]
        simp only [Option.bind_some]
        rw [if_pos trivial]
        simp only [Option.bind_some]
        rw [hsn]
        rfl
      · obtain ⟨R, rfl⟩ : ∃ R : Nat, r = R := ⟨r.toNat, by omega⟩
        have hck : terrain_checked a0 a1 a2 a3 a4 z R = some 0 := by
          unfold terrain_checked
          rw [hA, cA, Option.bind_some, if_neg (by decide), if_neg (by simp), decide_eq_false (by omega)]; rfl
        have hz := zr z
        rw [v.len] at hz
        have hW0 : 0 < W := by have := v.w2; omega
        have hN := v.n
        obtain rfl := v.ew
        obtain rfl := v.eh
        generalize hf : (fun i => z.getD i 0) = f at hz
        subst hz
        have eE : terrain_Erode a0 a1 a2 W H (row (H * W) f) R = some (a0, a1, a2, (W : Int), (H : Int), row (H * W) (flt imin f W H R), 0) := by
          unfold terrain_Erode
          rw [hck, Option.bind_some, if_neg (by decide), filt1 (op := imin) (p2 := fun a b => terrain_least a b) (fun _ _ => rfl) hW0 v.w64 v.h64 f (by omega)]
          rfl
        have eD : terrain_Dilate a0 a1 a2 W H (row (H * W) f) R = some (a0, a1, a2, (W : Int), (H : Int), row (H * W) (flt imax f W H R), 0) := by
          unfold terrain_Dilate
          rw [hck, Option.bind_some, if_neg (by decide), filt1 (op := imax) (p2 := fun a b => terrain_greatest a b) (fun _ _ => rfl) hW0 v.w64 v.h64 f (by omega)]
          rfl
        have eO : terrain_Open a0 a1 a2 W H (row (H * W) f) R = some (a0, a1, a2, (W : Int), (H : Int), row (H * W) (opn f W H R), 0) := by
          unfold terrain_Open
          rw [hck, Option.bind_some, if_neg (by decide), opened1 hW0 v.w64 v.h64 f (by omega)]
          rfl
        rw [eE, eD, eO, hA2, cA, filt2 imin_ok least_pick hW0 v.w64 v.h64 f (by omega), filt2 imax_ok greatest_pick hW0 v.w64 v.h64 f (by omega), opened2 hW0 v.w64 v.h64 f (by omega)]
        simp only [Option.bind_some]
        have e : (if ((0 : Int) == 0) = true then (if decide ((R : Int) < 0) = true then some true else some (decide (8 < (R : Int)))) else some false) = some false := by
          rw [if_pos (by decide), if_neg (by simp), decide_eq_false (by omega)]
        rw [e, same_self _ _ _ _ _ _ (by rw [row_len]; omega), same_self _ _ _ _ _ _ (by rw [row_len]; omega), same_self _ _ _ _ _ _ (by rw [row_len]; omega)]
        rfl
    · have hck : terrain_checked a0 a1 a2 a3 a4 z r = some (code a0 a1 a2 a3 a4 z) := by
        unfold terrain_checked
        rw [hA, Option.bind_some, if_pos (by simpa using cA)]
      have eE : terrain_Erode a0 a1 a2 a3 a4 z r = some (0, 0, 0, 0, 0, [], code a0 a1 a2 a3 a4 z) := by unfold terrain_Erode; rw [hck, Option.bind_some, if_pos (by simpa using cA)]
      have eD : terrain_Dilate a0 a1 a2 a3 a4 z r = some (0, 0, 0, 0, 0, [], code a0 a1 a2 a3 a4 z) := by unfold terrain_Dilate; rw [hck, Option.bind_some, if_pos (by simpa using cA)]
      have eO : terrain_Open a0 a1 a2 a3 a4 z r = some (0, 0, 0, 0, 0, [], code a0 a1 a2 a3 a4 z) := by unfold terrain_Open; rw [hck, Option.bind_some, if_pos (by simpa using cA)]
      rw [eE, eD, eO, hA2]
      simp only [Option.bind_some]
      have hk3 : (code a0 a1 a2 a3 a4 z == 0) = false := beq_eq_false_iff_ne.2 cA
      rw [hk3, hsn]
      simp [cA]
  · rw [decide_eq_false (by omega : ¬ (z.length : Int) ≤ 150)]; rfl
end Go.Proofs.Ytcaeieofjchpjaa
