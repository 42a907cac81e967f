/-
  PLAIN, chapter 48: what the filters do: heights nearby, the least and the greatest around; the value of Ground.
-/
import Derived.Test.YtcaeieofjchpjaaP48e
set_option linter.unusedSimpArgs false
set_option linter.unusedVariables false
namespace Go.Proofs.Ytcaeieofjchpjaa
open Go.E

/-! ### Points nearby -/

def ND (W k m d : Nat) : Prop := k % W ≤ m % W + d ∧ m % W ≤ k % W + d ∧ k / W ≤ m / W + d ∧ m / W ≤ k / W + d
theorem tri {x y z a b : Nat} (h1 : x ≤ y + a) (h2 : y ≤ z + b) : x ≤ z + (a + b) := by omega
theorem ND.refl (W k d : Nat) : ND W k k d := ⟨Nat.le_add_right _ _, Nat.le_add_right _ _, Nat.le_add_right _ _, Nat.le_add_right _ _⟩
theorem ND.symm {W k m d : Nat} (h : ND W k m d) : ND W m k d := ⟨h.2.1, h.1, h.2.2.2, h.2.2.1⟩
theorem ND.trans {W k m n a b : Nat} (h : ND W k m a) (h' : ND W m n b) : ND W k n (a + b) :=
  ⟨tri h.1 h'.1, by rw [Nat.add_comm a b]; exact tri h'.2.1 h.2.1, tri h.2.2.1 h'.2.2.1, by rw [Nat.add_comm a b]; exact tri h'.2.2.2 h.2.2.2⟩
theorem ND.le {W k m d e : Nat} (h : ND W k m d) (he : d ≤ e) : ND W k m e :=
  ⟨Nat.le_trans h.1 (Nat.add_le_add_left he _), Nat.le_trans h.2.1 (Nat.add_le_add_left he _), Nat.le_trans h.2.2.1 (Nat.add_le_add_left he _), Nat.le_trans h.2.2.2 (Nat.add_le_add_left he _)⟩
theorem lc1 {x y W r : Nat} (h1 : x ≤ y + r) (h2 : y ≤ x + r) (h3 : y < W) : y - lo x r < cnt W x r ∧ lo x r + (y - lo x r) = y := by unfold lo cnt; omega
theorem lc2 {x r t W : Nat} (hx : x < W) (ht : t < cnt W x r) : lo x r + t < W ∧ x ≤ lo x r + t + r ∧ lo x r + t ≤ x + r := by unfold lo cnt at *; omega

theorem cell_mod {W j x : Nat} (hx : x < W) : (j * W + x) % W = x ∧ (j * W + x) / W = j := by
  constructor
  · rw [Nat.mul_comm, Nat.mul_add_mod, Nat.mod_eq_of_lt hx]
  · rw [Nat.mul_comm, Nat.mul_add_div (by omega), Nat.div_eq_of_lt hx, Nat.add_zero]
theorem k_div {W k : Nat} : k / W * W + k % W = k := by rw [Nat.mul_comm]; exact Nat.div_add_mod k W
theorem k_in {W H k : Nat} (hW : 0 < W) (hk : k < H * W) : k / W < H ∧ k % W < W := ⟨Nat.div_lt_of_lt_mul (by rw [Nat.mul_comm]; exact hk), Nat.mod_lt _ hW⟩

theorem around_nd {f : Nat → Int} {W H k r : Nat} (hW : 0 < W) (hk : k < H * W) {v : Int} (hv : v ∈ around f W H k r) : ∃ m, m < H * W ∧ ND W k m r ∧ v = f m := by
  obtain ⟨hy, hx⟩ := k_in hW hk
  unfold around win seg at hv
  obtain ⟨u, hu, h⟩ := List.mem_flatMap.1 hv
  obtain ⟨t, ht, rfl⟩ := List.mem_map.1 h
  rw [List.mem_range] at hu ht
  obtain ⟨x1, x2, x3⟩ := lc2 hx ht
  obtain ⟨y1, y2, y3⟩ := lc2 hy hu
  obtain ⟨e1, e2⟩ := cell_mod (j := lo (k / W) r + u) x1
  refine ⟨(lo (k / W) r + u) * W + (lo (k % W) r + t), cell_in x1 y1, ⟨by rw [e1]; exact x2, by rw [e1]; exact x3, by rw [e2]; exact y2, by rw [e2]; exact y3⟩, rfl⟩
theorem nd_around {f : Nat → Int} {W H k m r : Nat} (hW : 0 < W) (hk : k < H * W) (hm : m < H * W) (hn : ND W k m r) : f m ∈ around f W H k r := by
  obtain ⟨my, mx⟩ := k_in hW hm
  obtain ⟨x1, x2⟩ := lc1 hn.1 hn.2.1 mx
  obtain ⟨y1, y2⟩ := lc1 hn.2.2.1 hn.2.2.2 my
  unfold around win seg
  refine List.mem_flatMap.2 ⟨m / W - lo (k / W) r, List.mem_range.2 y1, List.mem_map.2 ⟨m % W - lo (k % W) r, List.mem_range.2 x1, ?_⟩⟩
  rw [y2, x2, k_div]

theorem fm_congr {α β : Type} (f g : α → List β) : ∀ (l : List α), (∀ x ∈ l, f x = g x) → l.flatMap f = l.flatMap g
  | [], _ => rfl
  | x :: l, h => by
    simp only [List.flatMap_cons]
    rw [h x (by simp), fm_congr f g l (fun y hy => h y (by simp [hy]))]

/-- Two grids agree around k. -/
def Agr (W H : Nat) (f f' : Nat → Int) (k d : Nat) : Prop := ∀ m, m < H * W → ND W k m d → f m = f' m
theorem Agr.at_ {W H : Nat} {f f' : Nat → Int} {k d m a : Nat} (h : Agr W H f f' k (d + a)) (hm : ND W k m d) : Agr W H f f' m a := fun n hn hd => h n hn (hm.trans hd)
theorem Agr.self {W H : Nat} {f f' : Nat → Int} {k d : Nat} (h : Agr W H f f' k d) (hk : k < H * W) : f k = f' k := h k hk (ND.refl W k d)
theorem Agr.le {W H : Nat} {f f' : Nat → Int} {k d e : Nat} (h : Agr W H f f' k d) (he : e ≤ d) : Agr W H f f' k e := fun m hm hn => h m hm (hn.le he)

theorem around_congr {f f' : Nat → Int} {W H k r : Nat} (hW : 0 < W) (hk : k < H * W) (h : Agr W H f f' k r) : around f W H k r = around f' W H k r := by
  obtain ⟨hy, hx⟩ := k_in hW hk
  unfold around win
  refine fm_congr _ _ _ (fun u hu => ?_)
  unfold seg
  refine List.map_congr_left (fun t ht => ?_)
  rw [List.mem_range] at hu ht
  obtain ⟨x1, x2, x3⟩ := lc2 hx ht
  obtain ⟨y1, y2, y3⟩ := lc2 hy hu
  obtain ⟨e1, e2⟩ := cell_mod (j := lo (k / W) r + u) x1
  exact h _ (cell_in x1 y1) ⟨by rw [e1]; exact x2, by rw [e1]; exact x3, by rw [e2]; exact y2, by rw [e2]; exact y3⟩
theorem flt_congr (op : Int → Int → Int) {f f' : Nat → Int} {W H k r : Nat} (hW : 0 < W) (hk : k < H * W) (h : Agr W H f f' k r) : flt op f W H r k = flt op f' W H r k := by
  unfold flt
  rw [around_congr hW hk h, h.self hk]
theorem flt_agr (op : Int → Int → Int) {f f' : Nat → Int} {W H k d r : Nat} (hW : 0 < W) (h : Agr W H f f' k (d + r)) : Agr W H (flt op f W H r) (flt op f' W H r) k d := fun m hm hn => flt_congr op hW hm (h.at_ hn)
theorem opn_agr {f f' : Nat → Int} {W H k d r : Nat} (hW : 0 < W) (h : Agr W H f f' k (d + r + r)) : Agr W H (opn f W H r) (opn f' W H r) k d := flt_agr imax hW (flt_agr imin hW h)

/-! ### The least and the greatest around -/

theorem foldl_imin_le : ∀ (l : List Int) (a v : Int), v = a ∨ v ∈ l → l.foldl imin a ≤ v
  | [], a, v, h => by
    rcases h with rfl | h
    · exact Int.le_refl _
    · cases h
  | x :: l, a, v, h => by
    simp only [List.foldl_cons]
    rcases h with rfl | h
    · refine Int.le_trans (foldl_imin_le l _ _ (.inl rfl)) ?_
      unfold imin; split <;> omega
    · rcases List.mem_cons.1 h with rfl | h
      · refine Int.le_trans (foldl_imin_le l _ _ (.inl rfl)) ?_
        unfold imin; split <;> omega
      · exact foldl_imin_le l _ _ (.inr h)
theorem foldl_imax_ge : ∀ (l : List Int) (a v : Int), v = a ∨ v ∈ l → v ≤ l.foldl imax a
  | [], a, v, h => by
    rcases h with rfl | h
    · exact Int.le_refl _
    · cases h
  | x :: l, a, v, h => by
    simp only [List.foldl_cons]
    rcases h with rfl | h
    · refine Int.le_trans ?_ (foldl_imax_ge l _ _ (.inl rfl))
      unfold imax; split <;> omega
    · rcases List.mem_cons.1 h with rfl | h
      · refine Int.le_trans ?_ (foldl_imax_ge l _ _ (.inl rfl))
        unfold imax; split <;> omega
      · exact foldl_imax_ge l _ _ (.inr h)

theorem nz_iff {v : Int} : nz v = true ↔ v ≠ -2147483648 := by unfold nz; simp

section
variable {f : Nat → Int} {W H r k : Nat}
theorem flt_at {op : Int → Int → Int} (hs : ∀ a b, op a b = a ∨ op a b = b) (hW : 0 < W) (hk : k < H * W) (hf : f k ≠ -2147483648) : ∃ m, m < H * W ∧ ND W k m r ∧ f m ≠ -2147483648 ∧ flt op f W H r k = f m := by
  have e : flt op f W H r k = ((around f W H k r).filter nz).foldl op (f k) := by unfold flt; rw [if_neg hf]
  rw [e]
  rcases fold_mem hs ((around f W H k r).filter nz) (f k) with h | h
  · exact ⟨k, hk, ND.refl W k r, hf, h⟩
  · obtain ⟨h1, h2⟩ := List.mem_filter.1 h
    obtain ⟨m, m1, m2, m3⟩ := around_nd hW hk h1
    exact ⟨m, m1, m2, by rw [← m3]; exact nz_iff.1 h2, m3⟩
theorem ero_le (hW : 0 < W) (hk : k < H * W) (hf : f k ≠ -2147483648) {m : Nat} (hm : m < H * W) (hn : ND W k m r) (hfm : f m ≠ -2147483648) : flt imin f W H r k ≤ f m := by
  have e : flt imin f W H r k = ((around f W H k r).filter nz).foldl imin (f k) := by unfold flt; rw [if_neg hf]
  rw [e]
  exact foldl_imin_le _ _ _ (.inr (List.mem_filter.2 ⟨nd_around hW hk hm hn, nz_iff.2 hfm⟩))
theorem dil_ge (hW : 0 < W) (hk : k < H * W) (hf : f k ≠ -2147483648) {m : Nat} (hm : m < H * W) (hn : ND W k m r) (hfm : f m ≠ -2147483648) : f m ≤ flt imax f W H r k := by
  have e : flt imax f W H r k = ((around f W H k r).filter nz).foldl imax (f k) := by unfold flt; rw [if_neg hf]
  rw [e]
  exact foldl_imax_ge _ _ _ (.inr (List.mem_filter.2 ⟨nd_around hW hk hm hn, nz_iff.2 hfm⟩))

theorem opn_le (hW : 0 < W) (hk : k < H * W) (hf : f k ≠ -2147483648) : opn f W H r k ≤ f k := by
  have he : flt imin f W H r k ≠ -2147483648 := fun h => hf ((flt_none imin_sel hW hk).1 h)
  obtain ⟨m, m1, m2, m3, m4⟩ := flt_at (f := flt imin f W H r) (r := r) imax_sel hW hk he
  unfold opn
  rw [m4]
  exact ero_le hW m1 (fun h => m3 ((flt_none imin_sel hW m1).2 h)) hk m2.symm hf

theorem opn_mono {g : Nat → Int} (hW : 0 < W) (hk : k < H * W) (hm : ∀ m, m < H * W → (f m = -2147483648 ↔ g m = -2147483648)) (hle : ∀ m, m < H * W → f m ≠ -2147483648 → f m ≤ g m) (hf : f k ≠ -2147483648) : opn f W H r k ≤ opn g W H r k := by
  have hero : ∀ m, m < H * W → f m ≠ -2147483648 → flt imin f W H r m ≤ flt imin g W H r m := fun m hm' hfm => by
    have hgm : g m ≠ -2147483648 := fun h => hfm ((hm m hm').2 h)
    obtain ⟨n, n1, n2, n3, n4⟩ := flt_at (f := g) (r := r) imin_sel hW hm' hgm
    rw [n4]
    have hfn : f n ≠ -2147483648 := fun h => n3 ((hm n n1).1 h)
    exact Int.le_trans (ero_le hW hm' hfm n1 n2 hfn) (hle n n1 hfn)
  have he : flt imin f W H r k ≠ -2147483648 := fun h => hf ((flt_none imin_sel hW hk).1 h)
  obtain ⟨m, m1, m2, m3, m4⟩ := flt_at (f := flt imin f W H r) (r := r) imax_sel hW hk he
  have hfm : f m ≠ -2147483648 := fun h => m3 ((flt_none imin_sel hW m1).2 h)
  have hgm : g m ≠ -2147483648 := fun h => hfm ((hm m m1).2 h)
  have hgk : g k ≠ -2147483648 := fun h => hf ((hm k hk).2 h)
  unfold opn
  rw [m4]
  refine Int.le_trans (hero m m1 hfm) ?_
  exact dil_ge hW hk (fun h => hgk ((flt_none imin_sel hW hk).1 h)) m1 m2 (fun h => hgm ((flt_none imin_sel hW m1).1 h))

theorem opn_twice (hW : 0 < W) (hk : k < H * W) : opn (opn f W H r) W H r k = opn f W H r k := by
  have hero : ∀ m, m < H * W → flt imin (opn f W H r) W H r m = flt imin f W H r m := fun m hm => by
    by_cases hf : f m = -2147483648
    · rw [(flt_none imin_sel hW hm).2 hf, (flt_none imin_sel hW hm).2 ((opn_none hW hm).2 hf)]
    · have ho : opn f W H r m ≠ -2147483648 := fun h => hf ((opn_none hW hm).1 h)
      apply Int.le_antisymm
      · obtain ⟨n, n1, n2, n3, n4⟩ := flt_at (f := f) (r := r) imin_sel hW hm hf
        rw [n4]
        exact Int.le_trans (ero_le hW hm ho n1 n2 (fun h => n3 ((opn_none hW n1).1 h))) (opn_le hW n1 n3)
      · obtain ⟨n, n1, n2, n3, n4⟩ := flt_at (f := opn f W H r) (r := r) imin_sel hW hm ho
        rw [n4]
        have hfn : f n ≠ -2147483648 := fun h => n3 ((opn_none hW n1).2 h)
        unfold opn
        exact dil_ge hW n1 (fun h => hfn ((flt_none imin_sel hW n1).1 h)) hm n2.symm (fun h => hf ((flt_none imin_sel hW hm).1 h))
  show flt imax (flt imin (opn f W H r) W H r) W H r k = flt imax (flt imin f W H r) W H r k
  exact flt_congr imax hW hk (fun m hm _ => hero m hm)

def ngt (f : Nat → Int) (k : Nat) : Int := if f k = -2147483648 then -2147483648 else -f k
theorem ero_neg (hW : 0 < W) (hb : BD (H * W) f) (hk : k < H * W) (hf : f k ≠ -2147483648) : flt imin f W H r k = -(flt imax (ngt f) W H r k) := by
  have hng : ∀ m, m < H * W → f m ≠ -2147483648 → ngt f m = -f m ∧ ngt f m ≠ -2147483648 := fun m hm h => by
    have e : ngt f m = -f m := by unfold ngt; rw [if_neg h]
    refine ⟨e, ?_⟩
    rw [e]
    rcases hb m hm with h1 | h1
    · exact absurd h1 h
    · omega
  have hgn : ∀ m, ngt f m ≠ -2147483648 → f m ≠ -2147483648 := fun m h hf => h (by unfold ngt; rw [if_pos hf])
  apply Int.le_antisymm
  · obtain ⟨n, n1, n2, n3, n4⟩ := flt_at (f := ngt f) (r := r) imax_sel hW hk (hng k hk hf).2
    rw [n4, (hng n n1 (hgn n n3)).1, Int.neg_neg]
    exact ero_le hW hk hf n1 n2 (hgn n n3)
  · obtain ⟨n, n1, n2, n3, n4⟩ := flt_at (f := f) (r := r) imin_sel hW hk hf
    have := dil_ge (f := ngt f) (r := r) hW hk (hng k hk hf).2 n1 n2 (hng n n1 n3).2
    rw [(hng n n1 n3).1] at this
    rw [n4]
    omega
end

/-! ### The value of Ground -/

theorem ground_val {a b c : Int} {W H : Nat} (hW0 : 0 < W) (hW : W ≤ 64) (hH : H ≤ 64) {f : Nat → Int} (hb : BD (H * W) f) {rs ls : List Int} (hc1 : terrain_Check a b c W H (row (H * W) f) = some 0)
    (hl : rs.length = ls.length) (h1 : 1 ≤ rs.length) (h8 : rs.length ≤ 8) (hg : ∀ i, i < rs.length → badr rs ls i = false) (hinc : ∀ i, i + 1 < rs.length → rs.getD i 0 < rs.getD (i + 1) 0) :
    terrain_Ground a b c W H (row (H * W) f) rs ls = some (lrow (H * W) (gB f W H (fun i => (rs.getD i 0).toNat) (fun i => ls.getD i 0) rs.length), 0) := by
  have hN : H * W ≤ 4096 := Nat.le_trans (Nat.mul_le_mul hH hW) (by decide)
  have hrs : ∀ i, i < rs.length → 1 ≤ rs.getD i 0 ∧ rs.getD i 0 ≤ 8 ∧ 0 ≤ ls.getD i 0 ∧ ls.getD i 0 ≤ 1048576 := fun i hi => by
    have := hg i hi
    unfold badr at this
    simp only [Bool.or_eq_false_iff, decide_eq_false_iff_not] at this
    omega
  unfold terrain_Ground
  rw [hc1, Option.bind_some, if_neg (show ¬ ((0 : Int) != 0) = true by decide), if_neg (show ¬ ((rs.length : Int) != (ls.length : Int)) = true by simp [hl])]
  have e : (if decide ((rs.length : Int) < 1) = true then some true else some (decide (8 < (rs.length : Int)))) = some false := by
    rw [if_neg (by simp only [decide_eq_true_eq]; omega), decide_eq_false (by omega)]
  rw [e, Option.bind_some, if_neg (by decide)]
  rw [loop_go (s0 := 0) (step := fun s : Int => terrain_Ground_s1 rs ls s) (fun i => (i : Int)) rs.length (by unfold FUEL; omega) rfl (x := .inr ()) (fun i hi => by
    have hq := hrs i hi
    unfold terrain_Ground_s1
    rw [if_pos (by simp only [decide_eq_true_eq]; omega), ix_getD (i := i) (d := 0) rfl hi, ix_getD (i := i) (xs := ls) (d := 0) rfl (by omega), w64_id (z := (i : Int) + 1) (by omega) (by omega)]
    simp only [Option.bind_some]
    rw [if_neg (by simp only [decide_eq_true_eq]; omega), if_neg (by simp only [decide_eq_true_eq]; omega), if_neg (by simp only [decide_eq_true_eq]; omega), decide_eq_false (by omega)]
    rfl) (by unfold terrain_Ground_s1; rw [if_neg (by simp)])]
  simp only [Option.bind_some]
  rw [loop_go (s0 := 1) (step := fun s : Int => terrain_Ground_s2 rs s) (fun i => ((i + 1 : Nat) : Int)) (rs.length - 1) (by unfold FUEL; omega) rfl (x := .inr ()) (fun i hi => by
    have := hinc i (by omega)
    unfold terrain_Ground_s2
    rw [if_pos (by simp only [decide_eq_true_eq]; omega), ix_getD (i := i + 1) (d := 0) rfl (by omega), Option.bind_some, w64_id (z := ((i + 1 : Nat) : Int) - 1) (by omega) (by omega), ix_getD (i := i) (d := 0) (by omega) (by omega), Option.bind_some, if_neg (by simp only [decide_eq_true_eq]; omega), w64_id (by omega) (by omega)]
    rfl) (by
    show terrain_Ground_s2 rs ((rs.length - 1 + 1 : Nat) : Int) = _
    unfold terrain_Ground_s2
    rw [if_neg (by simp only [decide_eq_true_eq]; omega)])]
  simp only [Option.bind_some]
  obtain ⟨q1, _⟩ := s3both hN f
  rw [row_len, chk_pos (by omega), show (((H * W : Nat) : Int)).toNat = H * W by omega, q1]
  simp only [Option.bind_some]
  have hF := gF_bd hW0 (fun i => (rs.getD i 0).toNat) hb
  have hs5 : ∀ i, i < rs.length → _ := fun i hi => s5both hN (F := gF f W H (fun i => (rs.getD i 0).toNat) i) (O := gF f W H (fun i => (rs.getD i 0).toNat) (i + 1)) (B := gB f W H (fun i => (rs.getD i 0).toNat) (fun i => ls.getD i 0) i) (hF i) (hF (i + 1)) (fun k hk => (gF_none hW0 _ hk (i + 1)).trans (gF_none hW0 _ hk i).symm) (fun k hk hB h => by
      have h1 := gB_nz i hB
      have h2 := (gF_none hW0 (fun i => (rs.getD i 0).toNat) hk i).1 h
      rw [h2] at h1
      exact absurd h1 (by decide)) (show 0 ≤ ls.getD i 0 ∧ ls.getD i 0 ≤ 1048576 by have := hrs i hi; omega) (p2 := ls) (i := (i : Int)) (ix_getD rfl (by omega) 0) (lrow (H * W) (fun k => nz (f k))) (lrow_len _ _)
  have key1 : loopM FUEL (fun s : List Bool × Int × Int × Int × Int × Int × Int × List Int => terrain_Ground_s4 rs ls s.1 s.2.1 s.2.2.1 s.2.2.2.1 s.2.2.2.2.1 s.2.2.2.2.2.1 s.2.2.2.2.2.2.1 s.2.2.2.2.2.2.2) (lrow (H * W) (fun k => nz (f k)), 0, a, b, c, (W : Int), (H : Int), row (H * W) f) = some (lrow (H * W) (gB f W H (fun i => (rs.getD i 0).toNat) (fun i => ls.getD i 0) rs.length), a, b, c, (W : Int), (H : Int), row (H * W) (gF f W H (fun i => (rs.getD i 0).toNat) rs.length)) := by
    refine loop_go (fun i => (lrow (H * W) (gB f W H (fun i => (rs.getD i 0).toNat) (fun i => ls.getD i 0) i), (i : Int), a, b, c, (W : Int), (H : Int), row (H * W) (gF f W H (fun i => (rs.getD i 0).toNat) i))) rs.length (by unfold FUEL; omega) rfl (fun i hi => ?_) ?_
    · show terrain_Ground_s4 rs ls (lrow (H * W) (gB f W H (fun i => (rs.getD i 0).toNat) (fun i => ls.getD i 0) i)) (i : Int) a b c (W : Int) (H : Int) (row (H * W) (gF f W H (fun i => (rs.getD i 0).toNat) i)) = _
      have hq := hrs i hi
      obtain ⟨R, e1, e2, e3⟩ : ∃ R : Nat, rs.getD i 0 = R ∧ R ≤ 8 ∧ R = (rs.getD i 0).toNat := ⟨(rs.getD i 0).toNat, by omega, by omega, rfl⟩
      unfold terrain_Ground_s4
      rw [if_pos (by simpa using hi), ix_getD (i := i) (d := 0) rfl hi, Option.bind_some, e1, opened1 hW0 hW hH _ e2]
      simp only [Option.bind_some]
      have hg5 := (hs5 i hi).1
      have eo : gF f W H (fun i => (rs.getD i 0).toNat) (i + 1) = opn (gF f W H (fun i => (rs.getD i 0).toNat) i) W H R := by
        simp only [gF]
        rw [← e3]
      rw [eo] at hg5
      rw [hg5, Option.bind_some, w64_id (by omega) (by omega)]
      show _ = some (Step.next (lrow (H * W) (gB f W H (fun i => (rs.getD i 0).toNat) (fun i => ls.getD i 0) (i + 1)), _, _, _, _, _, _, row (H * W) (gF f W H (fun i => (rs.getD i 0).toNat) (i + 1))))
      simp only [gB]
      rw [eo]
      rfl
    · show terrain_Ground_s4 rs ls _ (rs.length : Int) a b c (W : Int) (H : Int) _ = _
      unfold terrain_Ground_s4
      rw [if_neg (by simp)]
  rw [key1]
  rfl

theorem code_same {x0 y0 s w h : Int} {z z' : List Int} (hc : code x0 y0 s w h z = 0) (hl : z'.length = z.length) (hv : ∀ v ∈ z', v = -2147483648 ∨ (-1048576 ≤ v ∧ v ≤ 1048576)) : code x0 y0 s w h z' = 0 := by
  unfold code at *
  split at hc
  · rename_i hg
    rw [if_pos hg]
    split at hc
    · rename_i hlen
      rw [if_pos (by rw [hl]; exact hlen)]
      have : z'.any badz = false := by
        rw [List.any_eq_false]
        intro v hv'
        have := hv v hv'
        unfold badz
        rcases this with rfl | h
        · simp
        · have e : bfar v = false := bfar_iff.2 h
          rw [e]; simp
      rw [this]; rfl
    · exact absurd hc (by decide)
  · exact absurd hc (by decide)

end Go.Proofs.Ytcaeieofjchpjaa
