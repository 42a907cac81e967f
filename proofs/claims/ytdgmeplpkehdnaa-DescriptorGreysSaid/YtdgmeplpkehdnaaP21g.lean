/-
  PLAIN, chapter 21: other grey values.
-/
import Derived.Test.YtdgmeplpkehdnaaP21f
import Derived.Test.YtdgmeplpkehdnaaQRefCopy
set_option linter.unusedSimpArgs false
set_option linter.unusedVariables false
namespace Go.Proofs.Ytdgmeplpkehdnaa
open Go.E

theorem tot_addc (f : Nat → Int) (c : Int) : ∀ n : Nat, tot (fun i => f i + c) n = tot f n + n * c
  | 0 => by simp [tot]
  | n + 1 => by
    simp only [tot]
    rw [tot_addc f c n, Int.natCast_add, Int.add_mul]
    simp only [Int.natCast_one, Int.one_mul]
    omega

theorem bs_addc (g : Nat → Nat → Int) (c : Int) (a b w h x y : Int) (hw : 0 ≤ w) (hh : 0 ≤ h) : bs (fun i j => g i j + c) a b w h x y = bs g a b w h x y + h * (w * c) := by
  unfold bs Rc
  have e1 : tot (fun j => tot (fun i => g ((x + a).toNat + i) ((y + b).toNat + j) + c) w.toNat) h.toNat = tot (fun j => tot (fun i => g ((x + a).toNat + i) ((y + b).toNat + j)) w.toNat + (w.toNat : Int) * c) h.toNat :=
    tot_congr _ (fun j _ => tot_addc _ c _)
  rw [e1, tot_addc]
  rw [show ((w.toNat : Nat) : Int) = w by omega, show ((h.toNat : Nat) : Int) = h by omega]

theorem bs_one (g : Nat → Nat → Int) (a b x y : Int) : bs g a b 1 1 x y = g (x + a).toNat (y + b).toNat := by
  unfold bs Rc
  simp [tot]

theorem word_cmp {W H : Nat} {g g' : Nat → Nat → Int} {p : List Tst} {x y : Int} (h : p.all (fitT W H x y) = true → ∀ t ∈ p, cmpT g' x y t = cmpT g x y t) : wordR W H g' p x y = wordR W H g p x y := by
  unfold wordR
  by_cases ha : p.all (fitT W H x y) = true
  · rw [if_pos ha, if_pos ha]
    congr 1
    refine wordF_congr _ (fun i hi => ?_)
    rw [getD_eq hi]
    exact h ha _ (List.getElem_mem hi)
  · rw [if_neg ha, if_neg ha]

theorem shift_lt (S T c a2 a3 b2 b3 : Int) : ((S + a3 * (a2 * c)) * b2 * b3 < (T + b3 * (b2 * c)) * a2 * a3) ↔ (S * b2 * b3 < T * a2 * a3) := by
  have e : a3 * (a2 * c) * b2 * b3 = b3 * (b2 * c) * a2 * a3 := by simp only [Int.mul_assoc, Int.mul_comm, Int.mul_left_comm]
  rw [Int.add_mul, Int.add_mul, Int.add_mul, Int.add_mul, e]
  omega

theorem word_shift {W H : Nat} {m m' : Int} {g : Nat → Nat → Int} {c : Int} (bd : Bd W H m g) (bd' : Bd W H m' (fun i j => g i j + c)) {p : List Tst} (hp : patB p = true) {x y : Int} (hx : 0 ≤ x ∧ x < W) (hy : 0 ≤ y ∧ y < H) :
    wordR W H (fun i j => g i j + c) p x y = wordR W H g p x y := by
  obtain ⟨_, _, h3⟩ := patB_true hp
  refine word_cmp fun ha t ht => ?_
  have hb := h3 t ht
  have hf := List.all_eq_true.1 ha t ht
  rw [cmpT_val bd hx hy hb hf, cmpT_val bd' hx hy hb hf]
  obtain ⟨⟨q1, q2, q3, q4, q5, q6, q7, q8⟩, ⟨r1, r2, r3, r4, r5, r6, r7, r8⟩⟩ := bxB_true hb
  rw [bs_addc _ _ _ _ _ _ _ _ (by omega) (by omega), bs_addc _ _ _ _ _ _ _ _ (by omega) (by omega)]
  exact decide_eq_decide.2 (shift_lt _ _ _ _ _ _ _)

theorem mono_lt {T : Int → Int} {m : Int} (hT : ∀ u v, 0 ≤ u → u < v → v ≤ m → T u < T v) {u v : Int} (hu : 0 ≤ u ∧ u ≤ m) (hv : 0 ≤ v ∧ v ≤ m) : T u < T v ↔ u < v := by
  constructor
  · intro h
    rcases Int.lt_trichotomy u v with h1 | h1 | h1
    · exact h1
    · subst h1; omega
    · have := hT v u hv.1 h1 hu.2; omega
  · intro h
    exact hT u v hu.1 h hv.2

theorem word_table {W H : Nat} {m m' : Int} {g : Nat → Nat → Int} {T : Int → Int} (bd : Bd W H m g) (bd' : Bd W H m' (fun i j => T (g i j))) (hT : ∀ u v, 0 ≤ u → u < v → v ≤ m → T u < T v) {p : List Tst} (hp : patB p = true)
    (hone : ∀ t ∈ p, t.2.2.1 = 1 ∧ t.2.2.2.1 = 1 ∧ t.2.2.2.2.2.2.1 = 1 ∧ t.2.2.2.2.2.2.2 = 1) {x y : Int} (hx : 0 ≤ x ∧ x < W) (hy : 0 ≤ y ∧ y < H) : wordR W H (fun i j => T (g i j)) p x y = wordR W H g p x y := by
  obtain ⟨_, _, h3⟩ := patB_true hp
  refine word_cmp fun ha t ht => ?_
  have hb := h3 t ht
  have hf := List.all_eq_true.1 ha t ht
  rw [cmpT_val bd hx hy hb hf, cmpT_val bd' hx hy hb hf]
  obtain ⟨o1, o2, o3, o4⟩ := hone t ht
  rw [o1, o2, o3, o4]
  unfold fitT at hf
  rw [Bool.and_eq_true] at hf
  obtain ⟨hf1, hf2⟩ := hf
  obtain ⟨f1, f2, f3, f4⟩ : FitP W H t.1 t.2.1 t.2.2.1 t.2.2.2.1 x y := of_decide_eq_true hf1
  obtain ⟨g1, g2, g3, g4⟩ : FitP W H t.2.2.2.2.1 t.2.2.2.2.2.1 t.2.2.2.2.2.2.1 t.2.2.2.2.2.2.2 x y := of_decide_eq_true hf2
  rw [bs_one, bs_one, bs_one, bs_one]
  simp only [Int.mul_one]
  have b7 := bd.2.2.2.2.2.2
  exact decide_eq_decide.2 (mono_lt hT (b7 _ _ (by omega) (by omega)) (b7 _ _ (by omega) (by omega)))

/-! ### The tables -/

def tbl (st : List Int) : Nat → Int
  | 0 => 0
  | n + 1 => tbl st n + 1 + st.getD (n % st.length) 0 % 100

theorem tbl_bd (st : List Int) (h : ∀ v ∈ st, 0 ≤ v ∧ v < 256) : ∀ n : Nat, 0 ≤ tbl st n ∧ tbl st n ≤ 100 * n
  | 0 => by simp [tbl]
  | n + 1 => by
    have ih := tbl_bd st h n
    simp only [tbl]
    omega

theorem tbl_mono (st : List Int) : ∀ (d n : Nat), tbl st n < tbl st (n + d + 1)
  | 0, n => by simp only [tbl, Nat.add_zero]; omega
  | d + 1, n => by
    have := tbl_mono st d n
    rw [show n + (d + 1) + 1 = (n + d + 1) + 1 by omega]
    simp only [tbl] at this ⊢
    omega

theorem setall2 {n : Nat} (hn : n ≤ 1000000) (step : (List Int × List Int × Int) → Option (Step (List Int × List Int × Int) (List Int × List Int))) (f f' : Nat → Int) (l0 l0' : List Int) (hl : l0.length = n) (hl' : l0'.length = n)
    (h2 : ∀ (i : Nat) l l', i < n → l.length = n → l'.length = n → step (l, l', (i : Int)) = some (.next (l.set i (f i), l'.set i (f' i), ((i + 1 : Nat) : Int))))
    (hd : ∀ l l', step (l, l', (n : Int)) = some (.done (l, l'))) : loopM FUEL step (l0, l0', 0) = some ((List.range n).map f, (List.range n).map f') := by
  have fin : ∀ (l : List Int) (f : Nat → Int), l.length = n → (∀ j, j < n → l[j]? = some (f j)) → l = (List.range n).map f := fun l f h1 h2 => by
    apply List.ext_getElem?
    intro j
    by_cases hj : j < n
    · rw [h2 j hj]; simp [hj]
    · rw [List.getElem?_eq_none (by omega), List.getElem?_eq_none (by simp; omega)]
  have stepf : ∀ (l : List Int) (f : Nat → Int) (i : Nat), l.length = n → i < n → (∀ j, j < i → l[j]? = some (f j)) → ∀ j, j < i + 1 → (l.set i (f i))[j]? = some (f j) := fun l f i hlen hlt hall j hj => by
    rcases Nat.lt_succ_iff_lt_or_eq.1 hj with h | rfl
    · rw [List.getElem?_set_ne (by omega)]
      exact hall j h
    · rw [List.getElem?_set_self (by omega)]
  have key : ∃ r, loopM FUEL step (l0, l0', 0) = some r ∧ r = ((List.range n).map f, (List.range n).map f') := by
    refine loop_inv (fun i s => ∃ l l', s = (l, l', (i : Int)) ∧ i ≤ n ∧ l.length = n ∧ l'.length = n ∧ (∀ j, j < i → l[j]? = some (f j)) ∧ (∀ j, j < i → l'[j]? = some (f' j))) _ n (by unfold FUEL; omega) _ ⟨l0, l0', rfl, by omega, hl, hl', fun j hj => by omega, fun j hj => by omega⟩ ?_
    rintro i s ⟨l, l', rfl, hi, hlen, hlen', hall, hall'⟩
    by_cases hlt : i < n
    · exact .inl ⟨_, h2 i l l' hlt hlen hlen', ⟨_, _, rfl, hlt, by rw [List.length_set, hlen], by rw [List.length_set, hlen'], stepf l f i hlen hlt hall, stepf l' f' i hlen' hlt hall'⟩, hlt⟩
    · obtain rfl : i = n := by omega
      refine .inr ⟨_, hd l l', ?_⟩
      rw [fin l f hlen hall, fin l' f' hlen' hall']
  obtain ⟨r, h1, rfl⟩ := key
  exact h1

theorem table_loop {st : List Int} (h : ∀ v ∈ st, 0 ≤ v ∧ v < 256) (h0 : 1 ≤ st.length) {m : Int} (hm : 1 ≤ m ∧ m ≤ 300) : loopM FUEL (fun s : List Int × Int => fiduciallaw21_DescriptorGreys_s1 m st s.1 s.2) ([0], 0) = some ((List.range (m.toNat + 1)).map (tbl st)) := by
  refine loop_go (fun i => ((List.range (i + 1)).map (tbl st), (i : Int))) m.toNat (by unfold FUEL; omega) rfl (fun i hi => ?_) ?_
  · show fiduciallaw21_DescriptorGreys_s1 m st ((List.range (i + 1)).map (tbl st)) (i : Int) = _
    unfold fiduciallaw21_DescriptorGreys_s1
    have hb := tbl_bd st h i
    have hlt : i % st.length < st.length := Nat.mod_lt _ h0
    have hs := h (st.getD (i % st.length) 0) (by rw [getD_eq hlt]; exact List.getElem_mem hlt)
    have e1 : Int.tmod (i : Int) (st.length : Int) = ((i % st.length : Nat) : Int) := by rw [Int.tmod_eq_emod_of_nonneg (by omega)]; simp
    rw [if_pos (by rw [decide_eq_true_iff]; omega), ix_get (i := i) rfl (y := tbl st i) (by simp), Option.bind_some, chk_pos (by omega), e1, ix_getD rfl hlt 0, Option.bind_some, chk_pos (by simp; omega)]
    rw [w64_id (z := tbl st i + 1) (by omega) (by omega), w64_id (z := st.getD (i % st.length) 0) (by omega) (by omega), Int.tmod_eq_emod_of_nonneg hs.1, w64_id (z := (i : Int) + 1) (by omega) (by omega), w64_id (by omega) (by omega)]
    show some (Step.next (_, _)) = some (Step.next ((List.range (i + 1 + 1)).map (tbl st), ((i + 1 : Nat) : Int)))
    rw [List.range_succ (n := i + 1), List.map_append]
    simp [tbl]
  · show fiduciallaw21_DescriptorGreys_s1 m st _ (m.toNat : Int) = _
    unfold fiduciallaw21_DescriptorGreys_s1
    rw [if_neg (by rw [decide_eq_true_iff]; omega)]

theorem greys_true (w h m : Int) (px : List Int) (p : List Tst) (st : List Int) (hst : ∀ v ∈ st, 0 ≤ v ∧ v < 256) : fiduciallaw21_DescriptorGreys w h m px p st = some true := by
  unfold fiduciallaw21_DescriptorGreys
  rw [known21, Option.bind_some, few21]
  by_cases hf : px.length ≤ 600 ∧ p.length ≤ 70
  case neg =>
    rw [decide_eq_false hf]
    rfl
  rw [decide_eq_true hf]
  simp only [Bool.not_true, Bool.false_eq_true, if_false, Option.bind_some]
  by_cases hb : Good w h m px ∧ patB p = true
  case neg =>
    rw [code_bad hb]
    rfl
  obtain ⟨hg, hp⟩ := hb
  rw [code_of hg hp]
  simp only [Option.bind_some, bne_self_eq_false, Bool.false_eq_true, if_false]
  by_cases c1 : 300 < m
  · simp [c1]
  by_cases c2 : (st.length : Int) < 1
  · simp [c1, c2]
  by_cases c3 : 400 < (st.length : Int)
  · simp [c1, c2, c3]
  simp only [c1, c2, c3, decide_false, Bool.false_eq_true, if_false, Option.bind_some]
  obtain ⟨W, H, g, rfl, rfl, rfl, bd⟩ := hg.grid
  have bdd := bd
  obtain ⟨b1, b2, b3, b4, b5, b6, b7⟩ := bdd
  have hn := (patB_true hp).2.1
  rw [refcopy_grid b2 b4]
  simp only [Option.bind_some]
  rw [table_loop hst (by omega) ⟨b5, by omega⟩, Option.bind_some]
  have hs0 : 0 < st.length := by omega
  have hc := hst (st.getD 0 0) (by rw [getD_eq hs0]; exact List.getElem_mem hs0)
  have hle := grid_le b2 b4 g
  have hT := fun v : Int => tbl_bd st hst v.toNat
  rw [setall2 hle (fun s => fiduciallaw21_DescriptorGreys_s2 (grid W H g) st ((List.range (m.toNat + 1)).map (tbl st)) s.1 s.2.1 s.2.2) (fun i => (grid W H g).getD i 0 + st.getD 0 0) (fun i => tbl st ((grid W H g).getD i 0).toNat) (grid W H g) (grid W H g) rfl rfl
    (fun i l l' hi hl hl' => by
      show fiduciallaw21_DescriptorGreys_s2 (grid W H g) st ((List.range (m.toNat + 1)).map (tbl st)) l l' (i : Int) = _
      unfold fiduciallaw21_DescriptorGreys_s2
      obtain ⟨x, y, hx, hy, hv⟩ := grid_mem (List.getElem_mem hi)
      have hgb := b7 x y hx hy
      rw [← hv] at hgb
      rw [if_pos (by simpa using hi), ix_lt _ i hi, Option.bind_some, ix_getD (z := 0) (i := 0) rfl hs0 0, Option.bind_some, chk_pos (by omega), Option.bind_some]
      rw [ix_get (i := ((grid W H g)[i]).toNat) (by omega) (y := tbl st ((grid W H g)[i]).toNat) (by rw [List.getElem?_map, List.getElem?_range (by omega)]; rfl), Option.bind_some, chk_pos (by omega)]
      rw [w64_id (z := st.getD 0 0) (by omega) (by omega), w64_id (z := (grid W H g)[i] + st.getD 0 0) (by omega) (by omega), w64_id (z := (i : Int) + 1) (by omega) (by omega), Int.toNat_natCast, getD_of hi]
      simp)
    (fun l l' => by
      show fiduciallaw21_DescriptorGreys_s2 (grid W H g) st _ l l' ((grid W H g).length : Int) = _
      unfold fiduciallaw21_DescriptorGreys_s2
      rw [if_neg (by simp)])]
  rw [map_grid g (fun v => v + st.getD 0 0), map_grid g (fun v => tbl st v.toNat)]
  simp only [Option.bind_some]
  have bs' : Bd W H 65535 (fun x y => g x y + st.getD 0 0) := ⟨b1, b2, b3, b4, by omega, by omega, fun x y hx hy => by have := b7 x y hx hy; dsimp only; omega⟩
  have bt' : Bd W H 65535 (fun x y => tbl st (g x y).toNat) := ⟨b1, b2, b3, b4, by omega, by omega, fun x y hx hy => by
    have := b7 x y hx hy
    have := hT (g x y)
    dsimp only
    omega⟩
  obtain ⟨_, _, hpt⟩ := patB_true hp
  rw [any_tst (g := fun t => (w64 ((w64 ((w64 (t.2.2.1 * t.2.2.2.1)) * t.2.2.2.2.2.2.1)) * t.2.2.2.2.2.2.2)) != 1) (fun _ _ => rfl) (by omega), all_good bd hp, all_good bs' hp, all_good bt' hp]
  have sm := rowsW_small (wordR W H g p) b2 b4
  have e1 : rowsW (wordR W H (fun x y => g x y + st.getD 0 0) p) W H = rowsW (wordR W H g p) W H := rowsW_congr fun x y hx hy => word_shift bd bs' hp ⟨by omega, by omega⟩ ⟨by omega, by omega⟩
  simp only [Option.bind_some, beq_self_eq_true, if_true, e1, uequal _ _ sm.2, decide_true, Bool.not_not]
  cases hs : p.any (fun t => (w64 ((w64 ((w64 (t.2.2.1 * t.2.2.2.1)) * t.2.2.2.2.2.2.1)) * t.2.2.2.2.2.2.2)) != 1) with
  | true => rfl
  | false =>
    simp only [Bool.false_eq_true, if_false]
    have hone : ∀ t ∈ p, t.2.2.1 = 1 ∧ t.2.2.2.1 = 1 ∧ t.2.2.2.2.2.2.1 = 1 ∧ t.2.2.2.2.2.2.2 = 1 := fun t ht => by
      have h1 := List.any_eq_false.1 hs t ht
      obtain ⟨⟨q1, q2, q3, q4, q5, q6, q7, q8⟩, ⟨r1, r2, r3, r4, r5, r6, r7, r8⟩⟩ := bxB_true (hpt t ht)
      have pos : ∀ {u v : Int}, 1 ≤ u → 1 ≤ v → u ≤ u * v ∧ v ≤ u * v := fun {u v} hu hv => by
        have a1 := Int.mul_le_mul_of_nonneg_left hv (show (0 : Int) ≤ u by omega)
        have a2 := Int.mul_le_mul_of_nonneg_right hu (show (0 : Int) ≤ v by omega)
        simp only [Int.mul_one, Int.one_mul] at a1 a2
        exact ⟨a1, a2⟩
      have p1 := pos q3 q5
      have p2 := pos (show 1 ≤ t.2.2.1 * t.2.2.2.1 by omega) r3
      have p3 := pos (show 1 ≤ t.2.2.1 * t.2.2.2.1 * t.2.2.2.2.2.2.1 by omega) r5
      have u1 : t.2.2.1 * t.2.2.2.1 ≤ 8 * 8 := Int.mul_le_mul q4 q6 (by omega) (by omega)
      have u2 : t.2.2.1 * t.2.2.2.1 * t.2.2.2.2.2.2.1 ≤ (8 * 8) * 8 := Int.mul_le_mul u1 r4 (by omega) (by omega)
      have u3 : t.2.2.1 * t.2.2.2.1 * t.2.2.2.2.2.2.1 * t.2.2.2.2.2.2.2 ≤ ((8 * 8) * 8) * 8 := Int.mul_le_mul u2 r6 (by omega) (by omega)
      rw [w64_id (z := t.2.2.1 * t.2.2.2.1) (by omega) (by omega), w64_id (z := t.2.2.1 * t.2.2.2.1 * t.2.2.2.2.2.2.1) (by omega) (by omega), w64_id (by omega) (by omega)] at h1
      have h2 : t.2.2.1 * t.2.2.2.1 * t.2.2.2.2.2.2.1 * t.2.2.2.2.2.2.2 = 1 := by simpa using h1
      omega
    have e2 : rowsW (wordR W H (fun x y => tbl st (g x y).toNat) p) W H = rowsW (wordR W H g p) W H := rowsW_congr fun x y hx hy => word_table (T := fun v => tbl st v.toNat) bd bt' (fun u v hu huv hv => by
      have := tbl_mono st (v.toNat - u.toNat - 1) u.toNat
      rw [show u.toNat + (v.toNat - u.toNat - 1) + 1 = v.toNat by omega] at this
      exact this) hp hone ⟨by omega, by omega⟩ ⟨by omega, by omega⟩
    rw [e2]
    simp

end Go.Proofs.Ytdgmeplpkehdnaa
