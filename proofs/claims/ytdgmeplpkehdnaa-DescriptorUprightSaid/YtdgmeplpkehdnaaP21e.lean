/-
  PLAIN, chapter 21: turned patterns.
-/
import Derived.Test.YtdgmeplpkehdnaaP21d
import Derived.Test.YtdgmeplpkehdnaaQRefTurn
set_option linter.unusedSimpArgs false
set_option linter.unusedVariables false
namespace Go.Proofs.Ytdgmeplpkehdnaa
open Go.E

def turnT (t : Tst) : Tst := (t.2.1, w64 ((w64 (1 - t.1)) - t.2.2.1), t.2.2.2.1, t.2.2.1, t.2.2.2.2.2.1, w64 ((w64 (1 - t.2.2.2.2.1)) - t.2.2.2.2.2.2.1), t.2.2.2.2.2.2.2, t.2.2.2.2.2.2.1)

theorem lawturned_eq {p : List Tst} (hn : p.length ≤ 1000000) : fiduciallaw21_turned p = some (p.map turnT) := by
  unfold fiduciallaw21_turned
  rw [map_loop (step := fun s : List Tst × Int => fiduciallaw21_turned_s1 p s.1 s.2) p turnT hn (fun i hi l hl => by
    show fiduciallaw21_turned_s1 p l (i : Int) = _
    unfold fiduciallaw21_turned_s1
    rw [if_pos (by simpa using hi), ix_lt p i hi, Option.bind_some]
    show chk (l.length + 1 ≤ 1099511627776) (some (Step.next (l ++ [turnT p[i]], w64 ((i : Int) + 1)))) = _
    rw [chk_pos (by omega), w64_id (by omega) (by omega)]
    simp) (fun l => by
    show fiduciallaw21_turned_s1 p l (p.length : Int) = _
    unfold fiduciallaw21_turned_s1
    rw [if_neg (by simp)])]
  rfl

theorem turned_eq {p : List Tst} (hp : patB p = true) : descriptor_Turned p = some (p.map turnT, 0) := by
  have hn := (patB_true hp).2.1
  unfold descriptor_Turned
  rw [check21_eq (by omega), hp]
  simp only [if_true, Option.bind_some, bne_self_eq_false, Bool.false_eq_true, if_false]
  rw [map_loop (step := fun s : List Tst × Int => descriptor_Turned_s1 p s.1 s.2) p turnT (by omega) (fun i hi l hl => by
    show descriptor_Turned_s1 p l (i : Int) = _
    unfold descriptor_Turned_s1
    rw [if_pos (by simpa using hi), ix_lt p i hi, Option.bind_some]
    show chk (l.length + 1 ≤ 1099511627776) (some (Step.next (l ++ [turnT p[i]], w64 ((i : Int) + 1)))) = _
    rw [chk_pos (by omega), w64_id (by omega) (by omega)]
    simp) (fun l => by
    show descriptor_Turned_s1 p l (p.length : Int) = _
    unfold descriptor_Turned_s1
    rw [if_neg (by simp)])]
  rfl
theorem turned_bad {p : List Tst} (hn : p.length ≤ 1000000) (hp : patB p = false) : descriptor_Turned p = some ([], 1) := by
  unfold descriptor_Turned
  rw [check21_eq hn, hp]
  rfl

def tstEq (v w : Tst) : Bool := (((v.1 == w.1) && ((v.2.1 == w.2.1) && ((v.2.2.1 == w.2.2.1) && ((v.2.2.2.1 == w.2.2.2.1) && true)))) && (((v.2.2.2.2.1 == w.2.2.2.2.1) && ((v.2.2.2.2.2.1 == w.2.2.2.2.2.1) && ((v.2.2.2.2.2.2.1 == w.2.2.2.2.2.2.1) && ((v.2.2.2.2.2.2.2 == w.2.2.2.2.2.2.2) && true)))) && true))
theorem tstEq_iff (v w : Tst) : tstEq v w = true ↔ v = w := by
  obtain ⟨a, b, c, d, e, f, g, h⟩ := v
  obtain ⟨a', b', c', d', e', f', g', h'⟩ := w
  simp [tstEq]
  constructor
  · rintro ⟨⟨rfl, rfl, rfl, rfl⟩, rfl, rfl, rfl, rfl⟩
    exact ⟨rfl, rfl, rfl, rfl, rfl, rfl, rfl, rfl⟩
  · rintro ⟨rfl, rfl, rfl, rfl, rfl, rfl, rfl, rfl⟩
    exact ⟨⟨rfl, rfl, rfl, rfl⟩, rfl, rfl, rfl, rfl⟩

instance decTst : DecidableEq Tst := fun v w => decidable_of_iff (tstEq v w = true) (tstEq_iff v w)

theorem tequal (a b : List Tst) (ha : a.length ≤ 1000000) : slices_Equal_sdescriptor_Test a b = some (decide (a = b)) := by
  unfold slices_Equal_sdescriptor_Test
  by_cases hl : a.length = b.length
  · rw [if_neg (by simp [hl])]
    rcases eq_loop (step := fun s => slices_Equal_sdescriptor_Test_s1 a b s) tstEq tstEq_iff ha hl (fun _ => rfl) with ⟨h1, h2⟩ | ⟨h1, h2⟩
    · rw [h2, decide_eq_true h1]; rfl
    · rw [h2, decide_eq_false h1]; rfl
  · have hl' : ¬ ((a.length : Int) = (b.length : Int)) := by omega
    rw [decide_eq_false (fun h => hl (by rw [h])), if_pos (by simpa using hl')]

theorem turnT_val {t : Tst} (h : bxB t = true) : turnT t = (t.2.1, 1 - t.1 - t.2.2.1, t.2.2.2.1, t.2.2.1, t.2.2.2.2.2.1, 1 - t.2.2.2.2.1 - t.2.2.2.2.2.2.1, t.2.2.2.2.2.2.2, t.2.2.2.2.2.2.1) := by
  obtain ⟨⟨h1, h2, h3, h4, h5, h6, h7, h8⟩, ⟨g1, g2, g3, g4, g5, g6, g7, g8⟩⟩ := bxB_true h
  unfold turnT
  rw [w64_id (z := 1 - t.1) (by omega) (by omega), w64_id (z := 1 - t.1 - t.2.2.1) (by omega) (by omega), w64_id (z := 1 - t.2.2.2.2.1) (by omega) (by omega), w64_id (z := 1 - t.2.2.2.2.1 - t.2.2.2.2.2.2.1) (by omega) (by omega)]

theorem turnT_bx {t : Tst} (h : bxB t = true) : bxB (turnT t) = true := by
  rw [turnT_val h]
  obtain ⟨⟨h1, h2, h3, h4, h5, h6, h7, h8⟩, ⟨g1, g2, g3, g4, g5, g6, g7, g8⟩⟩ := bxB_true h
  unfold bxB
  rw [Bool.and_eq_true]
  dsimp only
  exact ⟨boxB_of ⟨by omega, by omega, by omega, by omega, by omega, by omega, by omega, by omega⟩, boxB_of ⟨by omega, by omega, by omega, by omega, by omega, by omega, by omega, by omega⟩⟩

theorem turnT_four {t : Tst} (h : bxB t = true) : turnT (turnT (turnT (turnT t))) = t := by
  have h1 := turnT_bx h
  have h2 := turnT_bx h1
  have h3 := turnT_bx h2
  rw [turnT_val h3, turnT_val h2, turnT_val h1, turnT_val h]
  obtain ⟨a, b, c, d, e, f, g, i⟩ := t
  simp only [Prod.mk.injEq, and_true, true_and]
  omega

theorem patB_map {p : List Tst} (h : patB p = true) : patB (p.map turnT) = true := by
  obtain ⟨h1, h2, h3⟩ := patB_true h
  refine patB_of (by simpa using h1) (by simpa using h2) (fun t ht => ?_)
  obtain ⟨u, hu, rfl⟩ := List.mem_map.1 ht
  exact turnT_bx (h3 u hu)

theorem map_four {p : List Tst} (h : patB p = true) : (((p.map turnT).map turnT).map turnT).map turnT = p := by
  obtain ⟨_, _, h3⟩ := patB_true h
  rw [List.map_map, List.map_map, List.map_map]
  have : ∀ l : List Tst, (∀ t ∈ l, bxB t = true) → l.map (((turnT ∘ turnT) ∘ turnT) ∘ turnT) = l := by
    intro l
    induction l with
    | nil => intro _; rfl
    | cons t l ih =>
      intro hl
      rw [List.map_cons, ih (fun u hu => hl u (by simp [hu]))]
      congr 1
      exact turnT_four (hl t (by simp))
  exact this p h3

/-! ### The turned raster -/

theorem Rc_turn (g : Nat → Nat → Int) (W X Y A B : Nat) (hX : X + A ≤ W) : Rc (fun x y => g (W - 1 - y) x) Y (W - X - A) B A = Rc g X Y A B := by
  unfold Rc
  have e1 : tot (fun j => tot (fun i => g (W - 1 - (W - X - A + j)) (Y + i)) B) A = tot (fun j => tot (fun i => g (X + (A - 1 - j)) (Y + i)) B) A := tot_congr A (fun j hj => tot_congr B (fun i _ => by
    rw [show W - 1 - (W - X - A + j) = X + (A - 1 - j) by omega]))
  rw [e1, tot_rev (fun j => tot (fun i => g (X + j) (Y + i)) B) A]
  exact (tot_swap (fun i j => g (X + i) (Y + j)) B A).symm

theorem bs_turn {W H : Nat} {m : Int} {g : Nat → Nat → Int} (_bd : Bd W H m g) {a b c d x y : Int} (hx : 0 ≤ x ∧ x < W) (hy : 0 ≤ y ∧ y < H) (hb : BoxP a b c d) (hf : fitB W H a b c d x y = true) :
    bs (fun x y => g (W - 1 - y) x) b (1 - a - c) d c y ((W : Int) - 1 - x) = bs g a b c d x y := by
  obtain ⟨h1, h2, h3, h4, h5, h6, h7, h8⟩ := hb
  obtain ⟨f1, f2, f3, f4⟩ : FitP W H a b c d x y := of_decide_eq_true hf
  unfold bs
  have := Rc_turn g W (x + a).toNat (y + b).toNat c.toNat d.toNat (by omega)
  rw [← this]
  congr 1
  omega

theorem fit_turn {W H : Nat} {a b c d x y : Int} : fitB H W b (1 - a - c) d c y ((W : Int) - 1 - x) = fitB W H a b c d x y := by
  unfold fitB
  apply decide_eq_decide.2
  unfold FitP
  constructor
  · rintro ⟨q1, q2, q3, q4⟩
    exact ⟨by omega, by omega, by omega, by omega⟩
  · rintro ⟨q1, q2, q3, q4⟩
    exact ⟨by omega, by omega, by omega, by omega⟩

theorem bs_bound {W H : Nat} {m : Int} {g : Nat → Nat → Int} (bd : Bd W H m g) {a b c d x y : Int} (hx : 0 ≤ x ∧ x < W) (hy : 0 ≤ y ∧ y < H) (hb : BoxP a b c d) (hf : fitB W H a b c d x y = true) : 0 ≤ bs g a b c d x y ∧ bs g a b c d x y ≤ 64 * 65535 := by
  obtain ⟨h1, h2, h3, h4, h5, h6, h7, h8⟩ := hb
  obtain ⟨f1, f2, f3, f4⟩ : FitP W H a b c d x y := of_decide_eq_true hf
  obtain ⟨b1, b2, b3, b4, b5, b6, b7⟩ := bd
  unfold bs Rc
  have rb : ∀ j, j < d.toNat → 0 ≤ tot (fun i => g ((x + a).toNat + i) ((y + b).toNat + j)) c.toNat ∧ tot (fun i => g ((x + a).toNat + i) ((y + b).toNat + j)) c.toNat ≤ 8 * 65535 := fun j hj => by
    have := tot_bound (f := fun i => g ((x + a).toNat + i) ((y + b).toNat + j)) (c := 65535) c.toNat (fun i hi => by
      have := b7 ((x + a).toNat + i) ((y + b).toNat + j) (by omega) (by omega)
      omega)
    have h2 : (c.toNat : Int) * 65535 ≤ 8 * 65535 := Int.mul_le_mul_of_nonneg_right (by omega) (by omega)
    omega
  have := tot_bound (f := fun j => tot (fun i => g ((x + a).toNat + i) ((y + b).toNat + j)) c.toNat) (c := 8 * 65535) d.toNat rb
  have h2 : (d.toNat : Int) * (8 * 65535) ≤ 8 * (8 * 65535) := Int.mul_le_mul_of_nonneg_right (by omega) (by omega)
  omega

theorem prod_w {s b c : Int} (hs : 0 ≤ s ∧ s ≤ 64 * 65535) (hb : 1 ≤ b ∧ b ≤ 8) (hc : 1 ≤ c ∧ c ≤ 8) : w64 ((w64 (s * b)) * c) = s * b * c := by
  have h1 : 0 ≤ s * b := Int.mul_nonneg hs.1 (by omega)
  have h2 : s * b ≤ (64 * 65535) * 8 := Int.mul_le_mul hs.2 hb.2 (by omega) (by omega)
  have h3 : 0 ≤ s * b * c := Int.mul_nonneg h1 (by omega)
  have h4 : s * b * c ≤ ((64 * 65535) * 8) * 8 := Int.mul_le_mul h2 hc.2 (by omega) (by omega)
  rw [w64_id (z := s * b) (by omega) (by omega), w64_id (by omega) (by omega)]

theorem cmpT_val {W H : Nat} {m : Int} {g : Nat → Nat → Int} (bd : Bd W H m g) {x y : Int} (hx : 0 ≤ x ∧ x < W) (hy : 0 ≤ y ∧ y < H) {t : Tst} (hb : bxB t = true) (hf : fitT W H x y t = true) :
    cmpT g x y t = decide (bs g t.1 t.2.1 t.2.2.1 t.2.2.2.1 x y * t.2.2.2.2.2.2.1 * t.2.2.2.2.2.2.2 < bs g t.2.2.2.2.1 t.2.2.2.2.2.1 t.2.2.2.2.2.2.1 t.2.2.2.2.2.2.2 x y * t.2.2.1 * t.2.2.2.1) := by
  obtain ⟨q1, q2⟩ := bxB_true hb
  unfold fitT at hf
  rw [Bool.and_eq_true] at hf
  have s1 := bs_bound bd hx hy q1 hf.1
  have s2 := bs_bound bd hx hy q2 hf.2
  obtain ⟨h1, h2, h3, h4, h5, h6, h7, h8⟩ := q1
  obtain ⟨g1, g2, g3, g4, g5, g6, g7, g8⟩ := q2
  unfold cmpT
  rw [prod_w s1 ⟨g3, g4⟩ ⟨g5, g6⟩, prod_w s2 ⟨h3, h4⟩ ⟨h5, h6⟩]

theorem fitT_turn {W H : Nat} {x y : Int} {t : Tst} (hb : bxB t = true) : fitT H W y ((W : Int) - 1 - x) (turnT t) = fitT W H x y t := by
  rw [turnT_val hb]
  unfold fitT
  simp only [fit_turn]

theorem cmpT_turn {W H : Nat} {m : Int} {g : Nat → Nat → Int} (bd : Bd W H m g) {x y : Int} (hx : 0 ≤ x ∧ x < W) (hy : 0 ≤ y ∧ y < H) {t : Tst} (hb : bxB t = true) (hf : fitT W H x y t = true) :
    cmpT (fun x y => g (W - 1 - y) x) y ((W : Int) - 1 - x) (turnT t) = cmpT g x y t := by
  have hf2 : fitT H W y ((W : Int) - 1 - x) (turnT t) = true := by rw [fitT_turn hb]; exact hf
  rw [cmpT_val bd hx hy hb hf, cmpT_val bd.turn hy ⟨by omega, by omega⟩ (turnT_bx hb) hf2, turnT_val hb]
  obtain ⟨q1, q2⟩ := bxB_true hb
  have hf' := hf
  unfold fitT at hf'
  rw [Bool.and_eq_true] at hf'
  simp only []
  rw [bs_turn bd hx hy q1 hf'.1, bs_turn bd hx hy q2 hf'.2, Int.mul_right_comm (bs g t.1 _ _ _ _ _), Int.mul_right_comm (bs g t.2.2.2.2.1 _ _ _ _ _)]

theorem word_turn {W H : Nat} {m : Int} {g : Nat → Nat → Int} (bd : Bd W H m g) {p : List Tst} (hp : patB p = true) {x y : Int} (hx : 0 ≤ x ∧ x < W) (hy : 0 ≤ y ∧ y < H) :
    wordR H W (fun x y => g (W - 1 - y) x) (p.map turnT) y ((W : Int) - 1 - x) = wordR W H g p x y := by
  obtain ⟨_, _, h3⟩ := patB_true hp
  unfold wordR
  have e1 : (p.map turnT).all (fitT H W y ((W : Int) - 1 - x)) = p.all (fitT W H x y) := by
    rw [List.all_map]
    have : ∀ l : List Tst, (∀ t ∈ l, bxB t = true) → l.all (fitT H W y ((W : Int) - 1 - x) ∘ turnT) = l.all (fitT W H x y) := by
      intro l
      induction l with
      | nil => intro _; rfl
      | cons t l ih =>
        intro hl
        rw [List.all_cons, List.all_cons, ih (fun u hu => hl u (by simp [hu]))]
        congr 1
        exact fitT_turn (hl t (by simp))
    exact this p h3
  rw [e1]
  by_cases ha : p.all (fitT W H x y) = true
  · rw [if_pos ha, if_pos ha, List.length_map]
    congr 1
    refine wordF_congr _ (fun i hi => ?_)
    have hi2 : i < (p.map turnT).length := by simpa using hi
    rw [getD_eq hi, getD_eq hi2, List.getElem_map]
    exact cmpT_turn bd hx hy (h3 _ (List.getElem_mem hi)) (List.all_eq_true.1 ha _ (List.getElem_mem hi))
  · rw [if_neg ha, if_neg ha]

theorem turns21_true (w h m : Int) (px : List Int) (p : List Tst) (x y : Int) : fiduciallaw21_DescriptorTurns w h m px p x y = some true := by
  unfold fiduciallaw21_DescriptorTurns
  rw [known21, Option.bind_some, few21]
  by_cases hf : px.length ≤ 600 ∧ p.length ≤ 70
  case neg =>
    rw [decide_eq_false hf]
    rfl
  rw [decide_eq_true hf]
  simp only [Bool.not_true, Bool.false_eq_true, if_false, Option.bind_some]
  rw [pattern_eq]
  cases hp : patB p with
  | false =>
    rw [turned_bad (by omega) hp]
    rfl
  | true =>
    have hq := patB_map hp
    have hn := (patB_true hp).2.1
    rw [turned_eq hp]
    simp only [Option.bind_some, Bool.not_true, Bool.false_eq_true, if_false, bne_self_eq_false]
    rw [lawturned_eq (p := p) (by omega), pattern_eq, hq, lawturned_eq (p := p.map turnT) (by simp; omega)]
    simp only [Option.bind_some]
    rw [tequal _ _ (by simp; omega), lawturned_eq (p := (p.map turnT).map turnT) (by simp; omega)]
    simp only [Option.bind_some, decide_true, Bool.not_true, Bool.false_eq_true, if_false]
    rw [lawturned_eq (p := ((p.map turnT).map turnT).map turnT) (by simp; omega), map_four hp]
    simp only [Option.bind_some]
    rw [tequal _ _ (by omega)]
    simp only [Option.bind_some, decide_true, Bool.not_true, Bool.false_eq_true, if_false]
    by_cases hg : Good w h m px
    · obtain ⟨W, H, g, rfl, rfl, rfl, bd⟩ := hg.grid
      rw [refcheck_good hg]
      simp only [Option.bind_some, bne_self_eq_false, Bool.false_eq_true, if_false]
      rw [inside_eq]
      by_cases hin : 0 ≤ x ∧ x < (W : Int) ∧ 0 ≤ y ∧ y < (H : Int)
      · obtain ⟨i1, i2, i3, i4⟩ := hin
        have b2 := bd.2.1
        rw [decide_eq_true (show 0 ≤ x ∧ x < (W : Int) ∧ 0 ≤ y ∧ y < (H : Int) from ⟨i1, i2, i3, i4⟩)]
        simp only [Option.bind_some, Bool.not_true, Bool.false_eq_true, if_false]
        rw [describe_good bd hp, refturn_grid bd]
        have e1 : w64 (w64 ((W : Int) - 1) - x) = (W : Int) - 1 - x := by rw [w64_id (z := (W : Int) - 1) (by omega) (by omega), w64_id (by omega) (by omega)]
        simp only [Option.bind_some]
        rw [e1, describe_good bd.turn hq, word_turn bd hp ⟨i1, i2⟩ ⟨i3, i4⟩, if_pos (show 0 ≤ x ∧ x < (W : Int) ∧ 0 ≤ y ∧ y < (H : Int) from ⟨i1, i2, i3, i4⟩), if_pos (show 0 ≤ y ∧ y < (H : Int) ∧ 0 ≤ (W : Int) - 1 - x ∧ (W : Int) - 1 - x < (W : Int) from ⟨i3, i4, by omega, by omega⟩)]
        cases (wordR W H g p x y).2 <;> simp
      · rw [decide_eq_false hin]
        rfl
    · rw [refcheck_bad hg]
      rfl

end Go.Proofs.Ytdgmeplpkehdnaa
