/-
  PLAIN: words of features, all of a raster, and of the raster turned.
-/
import Derived.Test.YtbolefkhmfbnlaaQSumTab
import Derived.Test.YtbolefkhmfbnlaaQMade
import Derived.Test.YtbolefkhmfbnlaaQRefCheck
import Derived.KernelRfl
set_option linter.unusedSimpArgs false
set_option linter.unusedVariables false
namespace Go.Proofs.Ytbolefkhmfbnlaa
open Go.E
section
variable {W H : Nat} {m : Int} {g : Nat → Nat → Int}

abbrev Tst := Int × Int × Int × Int × Int × Int × Int × Int

abbrev BoxP (a b c d : Int) : Prop := -16 ≤ a ∧ -16 ≤ b ∧ 1 ≤ c ∧ c ≤ 8 ∧ 1 ≤ d ∧ d ≤ 8 ∧ a ≤ 17 - c ∧ b ≤ 17 - d

def boxB (a b c d : Int) : Bool := decide (BoxP a b c d)

def bxB (t : Tst) : Bool := boxB t.1 t.2.1 t.2.2.1 t.2.2.2.1 && boxB t.2.2.2.2.1 t.2.2.2.2.2.1 t.2.2.2.2.2.2.1 t.2.2.2.2.2.2.2

def patB (p : List Tst) : Bool := decide (1 ≤ p.length ∧ p.length ≤ 64) && p.all bxB

theorem boxB_true {a b c d : Int} (h : boxB a b c d = true) : BoxP a b c d := of_decide_eq_true h

theorem boxB_false {a b c d : Int} (h : ¬ BoxP a b c d) : boxB a b c d = false := decide_eq_false h

theorem boxB_of {a b c d : Int} (h : BoxP a b c d) : boxB a b c d = true := decide_eq_true h

theorem patB_true {p : List Tst} (h : patB p = true) : 1 ≤ p.length ∧ p.length ≤ 64 ∧ ∀ t ∈ p, bxB t = true := by
  unfold patB at h
  rw [Bool.and_eq_true, decide_eq_true_eq, List.all_eq_true] at h
  exact ⟨h.1.1, h.1.2, h.2⟩

theorem patB_of {p : List Tst} (h1 : 1 ≤ p.length) (h2 : p.length ≤ 64) (h3 : ∀ t ∈ p, bxB t = true) : patB p = true := by
  unfold patB
  rw [Bool.and_eq_true, decide_eq_true_eq, List.all_eq_true]
  exact ⟨⟨h1, h2⟩, h3⟩

theorem box_eq (a b c d : Int) : descriptor_box a b c d = some (boxB a b c d) := by
  unfold descriptor_box
  by_cases h1 : (if d < c then d else c) < 1
  · rw [boxB_false (fun h => by obtain ⟨_, _, _, _, _, _, _, _⟩ := h; split at h1 <;> omega)]
    simp [h1]
  by_cases h2 : 8 < (if c < d then d else c)
  · rw [boxB_false (fun h => by obtain ⟨_, _, _, _, _, _, _, _⟩ := h; split at h2 <;> omega)]
    simp [h1, h2]
  by_cases h3 : (if b < a then b else a) < (-16)
  · rw [boxB_false (fun h => by obtain ⟨_, _, _, _, _, _, _, _⟩ := h; split at h3 <;> omega)]
    simp [h1, h2, h3]
  have hc : 1 ≤ c ∧ c ≤ 8 ∧ 1 ≤ d ∧ d ≤ 8 := by split at h1 <;> split at h2 <;> omega
  have ha : -16 ≤ a ∧ -16 ≤ b := by split at h3 <;> omega
  obtain ⟨q1, q2, q3, q4⟩ := hc
  obtain ⟨q5, q6⟩ := ha
  have e1 : w64 (17 - c) = 17 - c := w64_id (by omega) (by omega)
  have e2 : w64 (17 - d) = 17 - d := w64_id (by omega) (by omega)
  by_cases h7 : a ≤ 17 - c
  case neg => rw [boxB_false (fun h => h7 h.2.2.2.2.2.2.1)]; simp [h1, h2, h3, h7, e1]
  by_cases h8 : b ≤ 17 - d
  case neg => rw [boxB_false (fun h => h8 h.2.2.2.2.2.2.2)]; simp [h1, h2, h3, h7, h8, e1, e2]
  rw [boxB_of ⟨q5, q6, q1, q2, q3, q4, h7, h8⟩]
  simp [h1, h2, h3, h7, h8, e1, e2]

theorem any_tst {xs : List Tst} {f : Int → Int → Int → Int → Int → Int → Int → Int → Option Bool} {g : Tst → Bool} (hf : ∀ v, v ∈ xs → f v.1 v.2.1 v.2.2.1 v.2.2.2.1 v.2.2.2.2.1 v.2.2.2.2.2.1 v.2.2.2.2.2.2.1 v.2.2.2.2.2.2.2 = some (g v)) (hn : xs.length ≤ 1000000) :
    slices_ContainsFunc_sdescriptor_Test xs f = some (xs.any g) := by
  obtain ⟨z, hz, hq⟩ := any_loop (step := fun s => slices_IndexFunc_sdescriptor_Test_s1 xs f s) (f := fun v => f v.1 v.2.1 v.2.2.1 v.2.2.2.1 v.2.2.2.2.1 v.2.2.2.2.2.1 v.2.2.2.2.2.2.1 v.2.2.2.2.2.2.2) g hn (fun _ => rfl) hf
  unfold slices_ContainsFunc_sdescriptor_Test slices_IndexFunc_sdescriptor_Test
  rw [hz]
  rcases hq with ⟨rfl, h⟩ | ⟨i, rfl, h⟩
  · simp [h]
  · simp [h]

theorem check21_eq {p : List Tst} (hn : p.length ≤ 1000000) : descriptor_Check p = some (if patB p = true then 0 else 1) := by
  unfold descriptor_Check
  by_cases h1 : (p.length : Int) < 1
  · have : ¬ patB p = true := fun h => by have := (patB_true h).1; omega
    rw [if_neg this]
    simp [h1]
  by_cases h2 : 64 < (p.length : Int)
  · have : ¬ patB p = true := fun h => by have := (patB_true h).2.1; omega
    rw [if_neg this]
    simp [h1, h2]
  rw [any_tst (g := fun t => !bxB t) (fun v _ => by
    unfold descriptor_Check_c1 bxB
    rw [box_eq, Option.bind_some, box_eq, Option.bind_some]
    cases boxB v.1 v.2.1 v.2.2.1 v.2.2.2.1 <;> cases boxB v.2.2.2.2.1 v.2.2.2.2.2.1 v.2.2.2.2.2.2.1 v.2.2.2.2.2.2.2 <;> rfl) hn]
  have e : p.any (fun t => !bxB t) = !patB p := by
    unfold patB
    rw [decide_eq_true (show 1 ≤ p.length ∧ p.length ≤ 64 by omega), Bool.true_and, List.all_eq_not_any_not, Bool.not_not]
  rw [e]
  simp only [h1, h2, decide_false, Bool.false_eq_true, if_false, Option.bind_some]
  cases patB p <;> rfl

abbrev FitP (W H : Nat) (a b c d x y : Int) : Prop := 0 ≤ x + a ∧ x + a + c ≤ W ∧ 0 ≤ y + b ∧ y + b + d ≤ H

def fitB (W H : Nat) (a b c d x y : Int) : Bool := decide (FitP W H a b c d x y)

def fitT (W H : Nat) (x y : Int) (t : Tst) : Bool := fitB W H t.1 t.2.1 t.2.2.1 t.2.2.2.1 x y && fitB W H t.2.2.2.2.1 t.2.2.2.2.2.1 t.2.2.2.2.2.2.1 t.2.2.2.2.2.2.2 x y

def bs (g : Nat → Nat → Int) (a b c d x y : Int) : Int := Rc g (x + a).toNat (y + b).toNat c.toNat d.toNat

def cmpT (g : Nat → Nat → Int) (x y : Int) (t : Tst) : Bool :=
  decide (w64 ((w64 (bs g t.1 t.2.1 t.2.2.1 t.2.2.2.1 x y * t.2.2.2.2.2.2.1)) * t.2.2.2.2.2.2.2) < w64 ((w64 (bs g t.2.2.2.2.1 t.2.2.2.2.2.1 t.2.2.2.2.2.2.1 t.2.2.2.2.2.2.2 x y * t.2.2.1)) * t.2.2.2.1))

def orB (w : Int) (n : Nat) : Int := wu64 (((BitVec.ofInt 64 w ||| BitVec.ofInt 64 (wu64 (1 * 2 ^ (min ((n : Int)).toNat 64)))).toNat : Int))

def wordF (f : Nat → Bool) : Nat → Int
  | 0 => 0
  | n + 1 => if f n = true then orB (wordF f n) n else wordF f n

theorem wordF_congr {f f' : Nat → Bool} : ∀ n : Nat, (∀ i, i < n → f i = f' i) → wordF f n = wordF f' n
  | 0, _ => rfl
  | n + 1, h => by simp only [wordF]; rw [wordF_congr n (fun i hi => h i (by omega)), h n (by omega)]

abbrev t0 : Tst := (0, 0, 0, 0, 0, 0, 0, 0)

def wordR (W H : Nat) (g : Nat → Nat → Int) (p : List Tst) (x y : Int) : Int × Bool :=
  if p.all (fitT W H x y) = true then (wordF (fun i => cmpT g x y (p.getD i t0)) p.length, true) else (0, false)

theorem bxB_true {t : Tst} (h : bxB t = true) : BoxP t.1 t.2.1 t.2.2.1 t.2.2.2.1 ∧ BoxP t.2.2.2.2.1 t.2.2.2.2.2.1 t.2.2.2.2.2.2.1 t.2.2.2.2.2.2.2 := by
  unfold bxB at h
  rw [Bool.and_eq_true] at h
  exact ⟨boxB_true h.1, boxB_true h.2⟩

theorem imgsum_eq (bd : Bd W H m g) {a b c d x y : Int} (hx : 0 ≤ x ∧ x < W) (hy : 0 ≤ y ∧ y < H) (hb : BoxP a b c d) :
    fiducial_descriptor_image_sum W H m (grid W H g) (tabS g W H) (w64 (x + a)) (w64 (y + b)) c d = some (if fitB W H a b c d x y = true then (bs g a b c d x y, true) else (0, false)) := by
  have hbd := bd
  obtain ⟨b1, b2, b3, b4, b5, b6, b7⟩ := hbd
  obtain ⟨h1, h2, h3, h4, h5, h6, h7, h8⟩ := hb
  have e1 : w64 (x + a) = x + a := w64_id (by omega) (by omega)
  have e2 : w64 (y + b) = y + b := w64_id (by omega) (by omega)
  unfold fiducial_descriptor_image_sum
  rw [e1, e2]
  by_cases hf : FitP W H a b c d x y
  · have hfb : fitB W H a b c d x y = true := decide_eq_true hf
    obtain ⟨f1, f2, f3, f4⟩ := hf
    have := sum_good bd (x + a).toNat (y + b).toNat c.toNat d.toNat (by omega) (by omega)
    rw [show (((x + a).toNat : Nat) : Int) = x + a by omega, show (((y + b).toNat : Nat) : Int) = y + b by omega, show ((c.toNat : Nat) : Int) = c by omega, show ((d.toNat : Nat) : Int) = d by omega] at this
    rw [this, hfb]
    rfl
  · have hfb : fitB W H a b c d x y = false := decide_eq_false hf
    have := sum_unfit b2 b4 g (x := x + a) (y := y + b) (a := c) (b := d) (fun h => hf (by obtain ⟨q1, q2, q3, q4, q5, q6, q7, q8⟩ := h; exact ⟨by omega, by omega, by omega, by omega⟩))
    rw [this, hfb]
    rfl

theorem imgword_eq (bd : Bd W H m g) {p : List Tst} (hp : patB p = true) {x y : Int} (hx : 0 ≤ x ∧ x < W) (hy : 0 ≤ y ∧ y < H) : fiducial_descriptor_image_word W H m (grid W H g) (tabS g W H) p x y = some (wordR W H g p x y) := by
  obtain ⟨p1, p2, p3⟩ := patB_true hp
  unfold fiducial_descriptor_image_word wordR
  have each : ∀ (i : Nat) (hi : i < p.length) (w : Int), fiducial_descriptor_image_word_s1 W H m (grid W H g) (tabS g W H) p x y w (i : Int) =
      if fitT W H x y p[i] = true then some (.next (if cmpT g x y p[i] = true then orB w i else w, ((i + 1 : Nat) : Int))) else some (.done (.inl (0, false))) := fun i hi w => by
    have hb := bxB_true (p3 p[i] (List.getElem_mem hi))
    unfold fiducial_descriptor_image_word_s1
    rw [if_pos (by simpa using hi), ix_lt p i hi, Option.bind_some, imgsum_eq bd hx hy hb.1, Option.bind_some, imgsum_eq bd hx hy hb.2]
    unfold fitT
    cases h1 : fitB W H p[i].1 p[i].2.1 p[i].2.2.1 p[i].2.2.2.1 x y <;> cases h2 : fitB W H p[i].2.2.2.2.1 p[i].2.2.2.2.2.1 p[i].2.2.2.2.2.2.1 p[i].2.2.2.2.2.2.2 x y
    · rfl
    · rfl
    · rfl
    · simp only [if_true, Bool.not_true, Bool.false_eq_true, if_false, Option.bind_some, Bool.and_self]
      rw [w64_id (z := (i : Int) + 1) (by omega) (by omega)]
      unfold cmpT orB
      by_cases hc : w64 ((w64 (bs g p[i].1 p[i].2.1 p[i].2.2.1 p[i].2.2.2.1 x y * p[i].2.2.2.2.2.2.1)) * p[i].2.2.2.2.2.2.2) < w64 ((w64 (bs g p[i].2.2.2.2.1 p[i].2.2.2.2.2.1 p[i].2.2.2.2.2.2.1 p[i].2.2.2.2.2.2.2 x y * p[i].2.2.1)) * p[i].2.2.2.1)
      · rw [decide_eq_true hc, if_pos rfl, if_pos rfl, chk_pos (by omega)]
        simp
      · rw [decide_eq_false hc]
        simp
  rcases loop_first (step := fun s : Int × Int => fiducial_descriptor_image_word_s1 W H m (grid W H g) (tabS g W H) p x y s.1 s.2) (fun i => (wordF (fun i => cmpT g x y (p.getD i t0)) i, (i : Int))) (fun i => ∃ t, p[i]? = some t ∧ fitT W H x y t = false) (fun _ => .inl (0, false)) (.inr (wordF (fun i => cmpT g x y (p.getD i t0)) p.length)) p.length (s0 := (0, 0)) (by unfold FUEL; omega) rfl
    (fun i hi hq => by
      have hf : fitT W H x y p[i] = true := by
        cases h : fitT W H x y p[i] with
        | true => rfl
        | false => exact absurd ⟨_, List.getElem?_eq_getElem hi, h⟩ hq
      show fiducial_descriptor_image_word_s1 W H m (grid W H g) (tabS g W H) p x y _ (i : Int) = _
      rw [each i hi, hf, if_pos rfl]
      simp only [wordF, getD_eq hi])
    (fun i hi hq _ => by
      obtain ⟨t, ht, hf⟩ := hq
      rw [List.getElem?_eq_getElem hi] at ht
      cases ht
      show fiducial_descriptor_image_word_s1 W H m (grid W H g) (tabS g W H) p x y _ (i : Int) = _
      rw [each i hi, hf]
      rfl)
    (by
      show fiducial_descriptor_image_word_s1 W H m (grid W H g) (tabS g W H) p x y _ (p.length : Int) = _
      unfold fiducial_descriptor_image_word_s1
      rw [if_neg (by simp)]) with ⟨ha, hl⟩ | ⟨i, hi, ⟨t, ht, hf⟩, _, hl⟩
  · rw [hl]
    have : p.all (fitT W H x y) = true := List.all_eq_true.2 fun t ht => by
      obtain ⟨j, hj⟩ := List.getElem?_of_mem ht
      cases h : fitT W H x y t with
      | true => rfl
      | false => exact absurd ⟨t, hj, h⟩ (ha j (List.getElem?_eq_some_iff.1 hj).1)
    rw [if_pos this]
    rfl
  · rw [hl]
    have : ¬ p.all (fitT W H x y) = true := fun h => by
      rw [List.all_eq_true.1 h t (List.mem_of_getElem? ht)] at hf; cases hf
    rw [if_neg this]
    rfl

theorem opened_good {W H : Nat} {m : Int} {g : Nat → Nat → Int} (bd : Bd W H m g) {p : List Tst} (hn : p.length ≤ 1000000) : descriptor_opened W H m (grid W H g) p = some ((W : Int), (H : Int), m, grid W H g, tabS g W H, if patB p = true then 0 else 1) := by
  unfold descriptor_opened descriptor_open
  rw [integral_good bd, check21_eq hn]
  rfl

def turnT (t : Tst) : Tst := (t.2.1, w64 ((w64 (1 - t.1)) - t.2.2.1), t.2.2.2.1, t.2.2.1, t.2.2.2.2.2.1, w64 ((w64 (1 - t.2.2.2.2.1)) - t.2.2.2.2.2.2.1), t.2.2.2.2.2.2.2, t.2.2.2.2.2.2.1)

theorem turned_eq {p : List Tst} (hp : patB p = true) : descriptor_Turned p = some (p.map turnT, 0) := by
  have hn := (patB_true hp).2.1
  unfold descriptor_Turned
  rw [check21_eq (by omega), hp]
  simp only [if_true, Option.bind_some, bne_self_eq_false, Bool.false_eq_true, if_false]
  rw [map_loop (step := fun s : List Tst × Int => descriptor_Turned_s1 p s.1 s.2) p turnT (by omega) (fun i hi l hl => by
    show descriptor_Turned_s1 p l (i : Int) = _
    unfold descriptor_Turned_s1
    rw [if_pos (by simpa using hi), ix_lt p i hi, Option.bind_some]
    show chk (l.length + 1 ≤ 1099511627776) (some (Step.next (l ++ [turnT p[i]], w64 ((i : Int) + 1)))) = _
    rw [chk_pos (by omega), w64_id (by omega) (by omega)]
    simp) (fun l => by
    show descriptor_Turned_s1 p l (p.length : Int) = _
    unfold descriptor_Turned_s1
    rw [if_neg (by simp)])]
  rfl

theorem turnT_val {t : Tst} (h : bxB t = true) : turnT t = (t.2.1, 1 - t.1 - t.2.2.1, t.2.2.2.1, t.2.2.1, t.2.2.2.2.2.1, 1 - t.2.2.2.2.1 - t.2.2.2.2.2.2.1, t.2.2.2.2.2.2.2, t.2.2.2.2.2.2.1) := by
  obtain ⟨⟨h1, h2, h3, h4, h5, h6, h7, h8⟩, ⟨g1, g2, g3, g4, g5, g6, g7, g8⟩⟩ := bxB_true h
  unfold turnT
  rw [w64_id (z := 1 - t.1) (by omega) (by omega), w64_id (z := 1 - t.1 - t.2.2.1) (by omega) (by omega), w64_id (z := 1 - t.2.2.2.2.1) (by omega) (by omega), w64_id (z := 1 - t.2.2.2.2.1 - t.2.2.2.2.2.2.1) (by omega) (by omega)]

theorem turnT_bx {t : Tst} (h : bxB t = true) : bxB (turnT t) = true := by
  rw [turnT_val h]
  obtain ⟨⟨h1, h2, h3, h4, h5, h6, h7, h8⟩, ⟨g1, g2, g3, g4, g5, g6, g7, g8⟩⟩ := bxB_true h
  unfold bxB
  rw [Bool.and_eq_true]
  dsimp only
  exact ⟨boxB_of ⟨by omega, by omega, by omega, by omega, by omega, by omega, by omega, by omega⟩, boxB_of ⟨by omega, by omega, by omega, by omega, by omega, by omega, by omega, by omega⟩⟩

theorem patB_map {p : List Tst} (h : patB p = true) : patB (p.map turnT) = true := by
  obtain ⟨h1, h2, h3⟩ := patB_true h
  refine patB_of (by simpa using h1) (by simpa using h2) (fun t ht => ?_)
  obtain ⟨u, hu, rfl⟩ := List.mem_map.1 ht
  exact turnT_bx (h3 u hu)

theorem Rc_turn (g : Nat → Nat → Int) (W X Y A B : Nat) (hX : X + A ≤ W) : Rc (fun x y => g (W - 1 - y) x) Y (W - X - A) B A = Rc g X Y A B := by
  unfold Rc
  have e1 : tot (fun j => tot (fun i => g (W - 1 - (W - X - A + j)) (Y + i)) B) A = tot (fun j => tot (fun i => g (X + (A - 1 - j)) (Y + i)) B) A := tot_congr A (fun j hj => tot_congr B (fun i _ => by
    rw [show W - 1 - (W - X - A + j) = X + (A - 1 - j) by omega]))
  rw [e1, tot_rev (fun j => tot (fun i => g (X + j) (Y + i)) B) A]
  exact (tot_swap (fun i j => g (X + i) (Y + j)) B A).symm

theorem bs_turn {W H : Nat} {m : Int} {g : Nat → Nat → Int} (_bd : Bd W H m g) {a b c d x y : Int} (hx : 0 ≤ x ∧ x < W) (hy : 0 ≤ y ∧ y < H) (hb : BoxP a b c d) (hf : fitB W H a b c d x y = true) :
    bs (fun x y => g (W - 1 - y) x) b (1 - a - c) d c y ((W : Int) - 1 - x) = bs g a b c d x y := by
  obtain ⟨h1, h2, h3, h4, h5, h6, h7, h8⟩ := hb
  obtain ⟨f1, f2, f3, f4⟩ : FitP W H a b c d x y := of_decide_eq_true hf
  unfold bs
  have := Rc_turn g W (x + a).toNat (y + b).toNat c.toNat d.toNat (by omega)
  rw [← this]
  congr 1
  omega

theorem fit_turn {W H : Nat} {a b c d x y : Int} : fitB H W b (1 - a - c) d c y ((W : Int) - 1 - x) = fitB W H a b c d x y := by
  unfold fitB
  apply decide_eq_decide.2
  unfold FitP
  constructor
  · rintro ⟨q1, q2, q3, q4⟩
    exact ⟨by omega, by omega, by omega, by omega⟩
  · rintro ⟨q1, q2, q3, q4⟩
    exact ⟨by omega, by omega, by omega, by omega⟩

theorem bs_bound {W H : Nat} {m : Int} {g : Nat → Nat → Int} (bd : Bd W H m g) {a b c d x y : Int} (hx : 0 ≤ x ∧ x < W) (hy : 0 ≤ y ∧ y < H) (hb : BoxP a b c d) (hf : fitB W H a b c d x y = true) : 0 ≤ bs g a b c d x y ∧ bs g a b c d x y ≤ 64 * 65535 := by
  obtain ⟨h1, h2, h3, h4, h5, h6, h7, h8⟩ := hb
  obtain ⟨f1, f2, f3, f4⟩ : FitP W H a b c d x y := of_decide_eq_true hf
  obtain ⟨b1, b2, b3, b4, b5, b6, b7⟩ := bd
  unfold bs Rc
  have rb : ∀ j, j < d.toNat → 0 ≤ tot (fun i => g ((x + a).toNat + i) ((y + b).toNat + j)) c.toNat ∧ tot (fun i => g ((x + a).toNat + i) ((y + b).toNat + j)) c.toNat ≤ 8 * 65535 := fun j hj => by
    have := tot_bound (f := fun i => g ((x + a).toNat + i) ((y + b).toNat + j)) (c := 65535) c.toNat (fun i hi => by
      have := b7 ((x + a).toNat + i) ((y + b).toNat + j) (by omega) (by omega)
      omega)
    have h2 : (c.toNat : Int) * 65535 ≤ 8 * 65535 := Int.mul_le_mul_of_nonneg_right (by omega) (by omega)
    omega
  have := tot_bound (f := fun j => tot (fun i => g ((x + a).toNat + i) ((y + b).toNat + j)) c.toNat) (c := 8 * 65535) d.toNat rb
  have h2 : (d.toNat : Int) * (8 * 65535) ≤ 8 * (8 * 65535) := Int.mul_le_mul_of_nonneg_right (by omega) (by omega)
  omega

theorem prod_w {s b c : Int} (hs : 0 ≤ s ∧ s ≤ 64 * 65535) (hb : 1 ≤ b ∧ b ≤ 8) (hc : 1 ≤ c ∧ c ≤ 8) : w64 ((w64 (s * b)) * c) = s * b * c := by
  have h1 : 0 ≤ s * b := Int.mul_nonneg hs.1 (by omega)
  have h2 : s * b ≤ (64 * 65535) * 8 := Int.mul_le_mul hs.2 hb.2 (by omega) (by omega)
  have h3 : 0 ≤ s * b * c := Int.mul_nonneg h1 (by omega)
  have h4 : s * b * c ≤ ((64 * 65535) * 8) * 8 := Int.mul_le_mul h2 hc.2 (by omega) (by omega)
  rw [w64_id (z := s * b) (by omega) (by omega), w64_id (by omega) (by omega)]

theorem cmpT_val {W H : Nat} {m : Int} {g : Nat → Nat → Int} (bd : Bd W H m g) {x y : Int} (hx : 0 ≤ x ∧ x < W) (hy : 0 ≤ y ∧ y < H) {t : Tst} (hb : bxB t = true) (hf : fitT W H x y t = true) :
    cmpT g x y t = decide (bs g t.1 t.2.1 t.2.2.1 t.2.2.2.1 x y * t.2.2.2.2.2.2.1 * t.2.2.2.2.2.2.2 < bs g t.2.2.2.2.1 t.2.2.2.2.2.1 t.2.2.2.2.2.2.1 t.2.2.2.2.2.2.2 x y * t.2.2.1 * t.2.2.2.1) := by
  obtain ⟨q1, q2⟩ := bxB_true hb
  unfold fitT at hf
  rw [Bool.and_eq_true] at hf
  have s1 := bs_bound bd hx hy q1 hf.1
  have s2 := bs_bound bd hx hy q2 hf.2
  obtain ⟨h1, h2, h3, h4, h5, h6, h7, h8⟩ := q1
  obtain ⟨g1, g2, g3, g4, g5, g6, g7, g8⟩ := q2
  unfold cmpT
  rw [prod_w s1 ⟨g3, g4⟩ ⟨g5, g6⟩, prod_w s2 ⟨h3, h4⟩ ⟨h5, h6⟩]

theorem fitT_turn {W H : Nat} {x y : Int} {t : Tst} (hb : bxB t = true) : fitT H W y ((W : Int) - 1 - x) (turnT t) = fitT W H x y t := by
  rw [turnT_val hb]
  unfold fitT
  simp only [fit_turn]

theorem cmpT_turn {W H : Nat} {m : Int} {g : Nat → Nat → Int} (bd : Bd W H m g) {x y : Int} (hx : 0 ≤ x ∧ x < W) (hy : 0 ≤ y ∧ y < H) {t : Tst} (hb : bxB t = true) (hf : fitT W H x y t = true) :
    cmpT (fun x y => g (W - 1 - y) x) y ((W : Int) - 1 - x) (turnT t) = cmpT g x y t := by
  have hf2 : fitT H W y ((W : Int) - 1 - x) (turnT t) = true := by rw [fitT_turn hb]; exact hf
  rw [cmpT_val bd hx hy hb hf, cmpT_val bd.turn hy ⟨by omega, by omega⟩ (turnT_bx hb) hf2, turnT_val hb]
  obtain ⟨q1, q2⟩ := bxB_true hb
  have hf' := hf
  unfold fitT at hf'
  rw [Bool.and_eq_true] at hf'
  simp only []
  rw [bs_turn bd hx hy q1 hf'.1, bs_turn bd hx hy q2 hf'.2, Int.mul_right_comm (bs g t.1 _ _ _ _ _), Int.mul_right_comm (bs g t.2.2.2.2.1 _ _ _ _ _)]

theorem word_turn {W H : Nat} {m : Int} {g : Nat → Nat → Int} (bd : Bd W H m g) {p : List Tst} (hp : patB p = true) {x y : Int} (hx : 0 ≤ x ∧ x < W) (hy : 0 ≤ y ∧ y < H) :
    wordR H W (fun x y => g (W - 1 - y) x) (p.map turnT) y ((W : Int) - 1 - x) = wordR W H g p x y := by
  obtain ⟨_, _, h3⟩ := patB_true hp
  unfold wordR
  have e1 : (p.map turnT).all (fitT H W y ((W : Int) - 1 - x)) = p.all (fitT W H x y) := by
    rw [List.all_map]
    have : ∀ l : List Tst, (∀ t ∈ l, bxB t = true) → l.all (fitT H W y ((W : Int) - 1 - x) ∘ turnT) = l.all (fitT W H x y) := by
      intro l
      induction l with
      | nil => intro _; rfl
      | cons t l ih =>
        intro hl
        rw [List.all_cons, List.all_cons, ih (fun u hu => hl u (by simp [hu]))]
        congr 1
        exact fitT_turn (hl t (by simp))
    exact this p h3
  rw [e1]
  by_cases ha : p.all (fitT W H x y) = true
  · rw [if_pos ha, if_pos ha, List.length_map]
    congr 1
    refine wordF_congr _ (fun i hi => ?_)
    have hi2 : i < (p.map turnT).length := by simpa using hi
    rw [getD_eq hi, getD_eq hi2, List.getElem_map]
    exact cmpT_turn bd hx hy (h3 _ (List.getElem_mem hi)) (List.all_eq_true.1 ha _ (List.getElem_mem hi))
  · rw [if_neg ha, if_neg ha]

abbrev AllS := List (Int × Int) × List Int

def updW (w : Int × Bool) (x y : Int) (s : AllS) : AllS := if w.2 = true then (s.1 ++ [(x, y)], s.2 ++ [w.1]) else s

def rowW (R : Int → Int → Int × Bool) (y : Int) : Nat → AllS → AllS
  | 0, s => s
  | x + 1, s => updW (R x y) x y (rowW R y x s)

def rowsW (R : Int → Int → Int × Bool) (W : Nat) : Nat → AllS
  | 0 => ([], [])
  | y + 1 => rowW R y W (rowsW R W y)

theorem rowW_len (R : Int → Int → Int × Bool) (y : Int) (s : AllS) : ∀ x : Nat, (rowW R y x s).1.length ≤ s.1.length + x ∧ (rowW R y x s).2.length ≤ s.2.length + x
  | 0 => ⟨Nat.le_refl _, Nat.le_refl _⟩
  | x + 1 => by
    have ih := rowW_len R y s x
    simp only [rowW, updW]
    split
    · simp; omega
    · omega

theorem rowsW_len (R : Int → Int → Int × Bool) (W : Nat) : ∀ y : Nat, (rowsW R W y).1.length ≤ y * W ∧ (rowsW R W y).2.length ≤ y * W
  | 0 => ⟨Nat.zero_le _, Nat.zero_le _⟩
  | y + 1 => by
    have ih := rowsW_len R W y
    have := rowW_len R y (rowsW R W y) W
    simp only [rowsW]
    rw [Nat.add_mul]
    omega

theorem all_loop {W H : Nat} (hW : W ≤ 64) (hH : H ≤ 64) {R : Int → Int → Int × Bool} {step2 : Int → AllS × Int → Option (Step (List (Int × Int) × List Int × Int) AllS)} {f : Int → Int → Option (Int × Bool)} (hf : ∀ x y : Nat, x < W → y < H → f x y = some (R x y))
    {s2 : Int → (List (Int × Int) × List Int × Int) → Option (Step (List (Int × Int) × List Int × Int) AllS)} {s1 : (List (Int × Int) × List Int × Int) → Option (Step (List (Int × Int) × List Int × Int) AllS)}
    (h2 : ∀ (y : Int) (a : List (Int × Int)) (b : List Int) (x : Int), s2 y (a, b, x) = if decide (x < (W : Int)) = true then (f x y).bind fun q => ((if q.2 = true then chk (a.length + 1 ≤ 1099511627776) (chk (b.length + 1 ≤ 1099511627776) (some (a ++ [(x, y)], b ++ [q.1]))) else some (a, b))).bind fun r => some (.next (r.1, r.2, w64 (x + 1))) else some (.done (a, b)))
    (h1 : ∀ (a : List (Int × Int)) (b : List Int) (y : Int), s1 (a, b, y) = if decide (y < (H : Int)) = true then (loopM FUEL (s2 y) (a, b, 0)).bind fun r => some (.next (r.1, r.2, w64 (y + 1))) else some (.done (a, b))) :
    loopM FUEL s1 ([], [], 0) = some (rowsW R W H) := by
  refine loop_go (fun y => ((rowsW R W y).1, (rowsW R W y).2, (y : Int))) H (by unfold FUEL; omega) rfl (fun y hy => ?_) (by rw [h1, if_neg (by simp)])
  have inner : loopM FUEL (s2 (y : Int)) ((rowsW R W y).1, (rowsW R W y).2, 0) = some (rowW R y W (rowsW R W y)) := by
    refine loop_go (fun x => ((rowW R y x (rowsW R W y)).1, (rowW R y x (rowsW R W y)).2, (x : Int))) W (by unfold FUEL; omega) rfl (fun x hx => ?_) (by rw [h2, if_neg (by simp)])
    have l1 := rowW_len R y (rowsW R W y) x
    have l2 := rowsW_len R W y
    have l3 : y * W ≤ 64 * 64 := Nat.mul_le_mul (by omega) hW
    rw [h2, if_pos (by simpa using hx), hf x y hx hy, Option.bind_some]
    cases hq : (R x y).2 with
    | true =>
      rw [if_pos rfl, chk_pos (by omega), chk_pos (by omega), Option.bind_some, w64_id (by omega) (by omega)]
      simp [rowW, updW, hq]
    | false =>
      rw [if_neg (by decide), Option.bind_some, w64_id (by omega) (by omega)]
      simp [rowW, updW, hq]
  rw [h1, if_pos (by simpa using hy), inner, Option.bind_some, w64_id (by omega) (by omega)]
  simp [rowsW]

theorem all_good {W H : Nat} {m : Int} {g : Nat → Nat → Int} (bd : Bd W H m g) {p : List Tst} (hp : patB p = true) :
    descriptor_All W H m (grid W H g) p = some ((rowsW (wordR W H g p) W H).1, (rowsW (wordR W H g p) W H).2, 0) := by
  have hn := (patB_true hp).2.1
  unfold descriptor_All
  rw [opened_good bd (by omega), hp, Option.bind_some]
  simp only [if_true, bne_self_eq_false, Bool.false_eq_true, if_false]
  rw [all_loop bd.2.1 bd.2.2.2.1 (R := wordR W H g p) (f := fun x y => fiducial_descriptor_image_word W H m (grid W H g) (tabS g W H) p x y) (step2 := fun _ _ => none)
    (fun x y hx hy => imgword_eq bd hp ⟨by omega, by omega⟩ ⟨by omega, by omega⟩) (s2 := fun y s => descriptor_All_s2 W p W H m (grid W H g) (tabS g W H) y s.1 s.2.1 s.2.2) (fun _ _ _ _ => rfl) (fun _ _ _ => rfl)]
  rfl

theorem uequal (a b : List Int) (ha : a.length ≤ 1000000) : slices_Equal_suint64 a b = some (decide (a = b)) := by
  unfold slices_Equal_suint64
  by_cases hl : a.length = b.length
  · rw [if_neg (by simp [hl])]
    rcases eq_loop (step := fun s => slices_Equal_suint64_s1 a b s) (fun v w => v == w) (fun v w => by simp) ha hl (fun _ => rfl) with ⟨h1, h2⟩ | ⟨h1, h2⟩
    · rw [h2, decide_eq_true h1]; rfl
    · rw [h2, decide_eq_false h1]; rfl
  · have hl' : ¬ ((a.length : Int) = (b.length : Int)) := by omega
    rw [decide_eq_false (fun h => hl (by rw [h])), if_pos (by simpa using hl')]

theorem turn_grid {W H : Nat} {m : Int} {g : Nat → Nat → Int} (hb : Bd W H m g) : raster_Turn W H m (grid W H g) = some ((H : Int), (W : Int), m, grid H W (fun x y => g (W - 1 - y) x), 0) := by
  have hg := check_good hb.good
  obtain ⟨h1, h2, h3, h4, h5, h6, h7⟩ := hb
  unfold raster_Turn
  rw [hg]
  have := made_grid (W := H) (H := W) h4 h2 m (f := fun z7 z8 => raster_Turn_c1 z7 z8 W H m (grid W H g)) (g := fun x y => g (W - 1 - y) x) (fun x y hx hy => by
    unfold raster_Turn_c1
    have e1 : w64 ((W : Int) - 1) = (W : Int) - 1 := w64_id (by omega) (by omega)
    rw [e1, w64_id (by omega) (by omega), at_grid h2 h4 g H m _ _ (W - 1 - y) x (by omega) hx (by omega) rfl]
    rfl)
  simp [this]

end
end Go.Proofs.Ytbolefkhmfbnlaa
