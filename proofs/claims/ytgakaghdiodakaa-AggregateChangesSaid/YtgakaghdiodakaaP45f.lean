/-
  PLAIN, chapter 45: what changes of the costs do; Changes.
-/
import Derived.Test.YtgakaghdiodakaaP45e
set_option linter.unusedSimpArgs false
set_option linter.unusedVariables false
namespace Go.E

/-! ### A number added to one pixel -/

def ad (c : Nat → Nat → Int) (i : Nat) (a : Int) : Nat → Nat → Int := fun y d => if y = i then c y d + a else c y d
theorem Rt_ad {p q : Int} (c : Nat → Nat → Int) (W i : Nat) (a : Int) : ∀ n y d, Rt p q (ad c i a) W n y d = Rt p q c W n y d + (if y ≤ i ∧ i ≤ y + n then a else 0)
  | 0, y, d => by
    simp only [Rt, ad]
    by_cases h : y = i
    · rw [if_pos h, if_pos (by omega)]
    · rw [if_neg h, if_neg (by omega)]; omega
  | n + 1, y, d => by
    simp only [Rt]
    have h1 : tr p q W (Rt p q (ad c i a) W n (y + 1)) d = tr p q W (Rt p q c W n (y + 1)) d + (if y + 1 ≤ i ∧ i ≤ y + 1 + n then a else 0) := mn_congr (fun z _ _ => by
      have := Rt_ad (p := p) (q := q) c W i a n (y + 1) z
      show Rt p q (ad c i a) W n (y + 1) z + _ = Rt p q c W n (y + 1) z + _ + _
      rw [this]
      omega)
    rw [h1]
    unfold ad
    by_cases h : y = i
    · rw [if_pos h, if_neg (by omega), if_pos (by omega)]; omega
    · rw [if_neg h]
      by_cases h2 : y + 1 ≤ i ∧ i ≤ y + 1 + n
      · rw [if_pos h2, if_pos (by omega)]; omega
      · rw [if_neg h2, if_neg (by omega)]; omega
theorem RT_ad {p q : Int} (c : Nat → Nat → Int) {W H i : Nat} (hi : i < H) (a : Int) (y d : Nat) (hy : y < H) : RT p q (ad c i a) W H y d = RT p q c W H y d + (if y ≤ i then a else 0) := by
  unfold RT
  rw [Rt_ad]
  by_cases h : y ≤ i
  · rw [if_pos h, if_pos (by omega)]
  · rw [if_neg h, if_neg (by omega)]
theorem lb_ad {p q : Int} (c : Nat → Nat → Int) {W H i : Nat} (hi : i < H) (a : Int) : ∀ y, y < H → lb p q (ad c i a) W H y = lb p q c W H y
  | 0, h => by
    simp only [lb]
    exact am_congr (fun z _ _ => RT_ad c hi a 0 z h)
  | y + 1, h => by
    simp only [lb]
    rw [lb_ad c hi a y (by omega)]
    exact am_congr (d := if y + 1 ≤ i then a else 0) (fun z _ _ => by
      have := RT_ad (p := p) (q := q) c (W := W) hi a (y + 1) z h
      show RT p q (ad c i a) W H (y + 1) z + _ = RT p q c W H (y + 1) z + _ + _
      rw [this]
      omega)
theorem me_ad {p q : Int} (c : Nat → Nat → Int) {W H i : Nat} (hi : i < H) (a : Int) : me p q (ad c i a) W H = me p q c W H + a := by
  unfold me
  rw [lb_ad c hi a 0 (by omega), RT_ad c hi a 0 _ (by omega), if_pos (by omega)]

/-! ### The line turned round -/

theorem me_rev {p q : Int} (c : Nat → Nat → Int) {W H : Nat} (hW : 0 < W) (hH : 0 < H) : me p q (fun y => c (H - 1 - y)) W H = me p q c W H := by
  rw [← last_me hW hH]
  have e : Fw p q (fun y => c (H - 1 - y)) W (H - 1) = RT p q c W H 0 := funext fun d => by
    rw [Fw_rev hW (H - 1) (by omega) d, Nat.sub_self]
  rw [e]
  exact (am_val _ _ _).symm

/-! ### Greater penalties -/

theorem vp_mono {p q p' q' : Int} (h1 : p ≤ p') (h2 : q ≤ q') (a b : Nat) : vp p q a b ≤ vp p' q' a b := by
  unfold vp
  split
  · omega
  · split <;> omega
theorem tr_mono {p q p' q' : Int} (h1 : p ≤ p') (h2 : q ≤ q') {W : Nat} (hW : 0 < W) {f g : Nat → Int} (h : ∀ e, e < W → f e ≤ g e) (d : Nat) : tr p q W f d ≤ tr p' q' W g d := by
  obtain ⟨e, h3, h4⟩ := tr_ex (p := p') (q := q') hW g d
  have h5 := tr_le (p := p) (q := q) f d h3
  have h6 := vp_mono h1 h2 d e
  have h7 := h e h3
  omega
theorem Rt_mono {p q p' q' : Int} (h1 : p ≤ p') (h2 : q ≤ q') {W : Nat} (hW : 0 < W) (c : Nat → Nat → Int) : ∀ n y d, Rt p q c W n y d ≤ Rt p' q' c W n y d
  | 0, y, d => Int.le_refl _
  | n + 1, y, d => by
    simp only [Rt]
    have := tr_mono h1 h2 hW (f := Rt p q c W n (y + 1)) (g := Rt p' q' c W n (y + 1)) (fun e _ => Rt_mono h1 h2 hW c n (y + 1) e) d
    omega
theorem me_mono {p q p' q' : Int} (h1 : p ≤ p') (h2 : q ≤ q') {W : Nat} (hW : 0 < W) (c : Nat → Nat → Int) (H : Nat) : me p q c W H ≤ me p' q' c W H := by
  have h3 := me_le p q c (H := H) (lb_lt p' q' c hW H 0)
  have h4 : me p' q' c W H = RT p' q' c W H 0 (lb p' q' c W H 0) := rfl
  have h5 := Rt_mono h1 h2 hW c (H - 1 - 0) 0 (lb p' q' c W H 0)
  have h6 : RT p q c W H 0 (lb p' q' c W H 0) ≤ RT p' q' c W H 0 (lb p' q' c W H 0) := h5
  omega
end Go.E

namespace Go.Proofs.Ytgakaghdiodakaa
open Go.E

theorem checked_ok {p q : Int} (hp : PB p q) {W H : Nat} (hW0 : 0 < W) (hH0 : 0 < H) (hW : W ≤ 64) (hH : H ≤ 64) {c : Nat → Nat → Int} (hc : CB W c) : aggregate_checked (tbl W H c) p q = some 0 := by
  have h : aggregate_Check (tbl W H c) = some 0 := by
    unfold aggregate_Check
    rw [tbl_len, if_neg (by simp only [decide_eq_true_eq]; omega), if_neg (by simp only [decide_eq_true_eq]; omega), tbl_ix0 W c hH0]
    simp only [Option.bind_some, row_len]
    rw [if_neg (by simp only [decide_eq_true_eq]; omega), Option.bind_some, if_neg (by simp only [decide_eq_true_eq]; omega)]
    have : loopM FUEL (fun s : Int => aggregate_Check_s1 (tbl W H c) s) 0 = some (.inr ()) := by
      refine loop_go (fun i => (i : Int)) H (by unfold FUEL; omega) rfl (fun y hy => ?_) ?_
      · show aggregate_Check_s1 (tbl W H c) (y : Int) = _
        unfold aggregate_Check_s1
        rw [tbl_len, if_pos (by simp only [decide_eq_true_eq]; omega), tbl_ix W H c rfl hy, Option.bind_some, tbl_ix0 W c hH0, Option.bind_some, row_len, row_len, if_neg (by simp)]
        have e := minmax (r := row W (c y)) (fun h => by have := row_len W (c y); rw [h] at this; simp at this; omega) (by rw [row_len]; omega) 0 1048576
        have e2 : ((row W (c y)).any fun z => decide (z < 0) || decide (1048576 < z)) = false := by
          rw [List.any_eq_false]
          intro z hz
          obtain ⟨x, hx, rfl⟩ := List.mem_map.1 hz
          have := hc y x (List.mem_range.1 hx)
          simp only [Bool.or_eq_true, decide_eq_true_eq]
          omega
        rw [e, e2, Option.bind_some, if_neg (by decide), w64_id (by omega) (by omega)]
        rfl
      · show aggregate_Check_s1 (tbl W H c) (H : Int) = _
        unfold aggregate_Check_s1
        rw [tbl_len, if_neg (by simp)]
    rw [this]
    rfl
  unfold aggregate_checked
  rw [h, Option.bind_some, if_neg (by decide)]
  rcases pen_eq p q with ⟨_, e, _⟩ | ⟨hn, _⟩
  · rw [e]; rfl
  · exact absurd hp hn

theorem tbl_set {W H i : Nat} (c : Nat → Nat → Int) (a : Int) : (tbl W H c).set i (row W (fun x => c i x + a)) = tbl W H (ad c i a) := by
  apply List.ext_getElem?
  intro y
  rw [List.getElem?_set]
  by_cases hy : y < H
  · rw [tbl_len, tbl_get _ _ _ hy, tbl_get _ _ _ hy]
    by_cases h : i = y
    · subst h
      rw [if_pos rfl, if_pos hy]
      exact congrArg some (row_congr fun x _ => by unfold ad; rw [if_pos rfl])
    · rw [if_neg h]
      exact congrArg some (row_congr fun x _ => by unfold ad; rw [if_neg (fun h2 => h h2.symm)])
  · rw [tbl_len]
    have h1 : (tbl W H c)[y]? = none := List.getElem?_eq_none (by rw [tbl_len]; omega)
    have h2 : (tbl W H (ad c i a))[y]? = none := List.getElem?_eq_none (by rw [tbl_len]; omega)
    rw [h1, h2]
    split
    · rw [if_neg (by omega)]
    · rfl

theorem changes_true (t : List (List Int)) (p q p' q' a0 a1 : Int) (h0 : 0 ≤ a0 ∧ a0 < 256) (h1 : 0 ≤ a1 ∧ a1 < 256) : fiduciallaw45_AggregateChanges t p q p' q' a0 a1 = some true := by
  unfold fiduciallaw45_AggregateChanges
  rw [known45, Option.bind_some, if_neg (by decide), few_eq, Option.bind_some]
  cases hf : few t with
  | false => rfl
  | true =>
    rw [if_neg (by decide)]
    rcases lined_cases hf p q with ⟨W, H, c, rfl, w1, w2, y1, y2, hc, hp, g1, g2⟩ | ⟨k, hk, g1, g2⟩
    · rw [g2, Option.bind_some, if_neg (by decide)]
      rcases pen_eq p' q' with ⟨hp', _, _⟩ | ⟨hp', e1, e2⟩
      · rcases lined_cases hf p' q' with ⟨_, _, _, _, _, _, _, _, _, _, _, g4⟩ | ⟨k, hk, g3, g4⟩
        · rw [g4, Option.bind_some, Option.bind_some, if_neg (by decide), line_ok hp w1 y1 (by omega) (by omega) hc g1, clones_eq _ (by rw [tbl_len]; omega)]
          simp only [Option.bind_some]
          rw [tbl_len, chk_pos (by omega), w64_id (z := a0) (by omega) (by omega), w64_id (z := a1) (by omega) (by omega)]
          obtain ⟨n0, rfl⟩ : ∃ n : Nat, a0 = n := ⟨a0.toNat, by omega⟩
          have hi : n0 % H < H := Nat.mod_lt _ y1
          rw [show Int.tmod (n0 : Int) (H : Int) = ((n0 % H : Nat) : Int) from rfl, chk_pos (by omega), tbl_ix W H c rfl hi, Option.bind_some]
          have hl := loop_first (step := fun s : List Int × Int => fiduciallaw45_AggregateChanges_s1 (tbl W H c) (n0 : Int) a1 (tbl W H c) (row W (c (n0 % H))) s.1 s.2) (s0 := (([] : List Int), 0)) (fun x => (row x (fun x => c (n0 % H) x + a1), (x : Int))) (fun x => 1048576 < c (n0 % H) x + a1) (fun _ => .inl true) (.inr (row W (fun x => c (n0 % H) x + a1))) W (by unfold FUEL; omega) rfl (fun x hx hn => by
            show fiduciallaw45_AggregateChanges_s1 (tbl W H c) (n0 : Int) a1 (tbl W H c) (row W (c (n0 % H))) (row x (fun x => c (n0 % H) x + a1)) (x : Int) = _
            have hb := hc (n0 % H) x hx
            unfold fiduciallaw45_AggregateChanges_s1
            rw [row_len, if_pos (by simp only [decide_eq_true_eq]; omega), row_ix W _ rfl hx, Option.bind_some, w64_id (z := a1) (by omega) (by omega), w64_id (z := c (n0 % H) x + a1) (by omega) (by omega), if_neg (by simp only [decide_eq_true_eq]; exact hn), w64_id (z := (n0 : Int)) (by omega) (by omega), tbl_len, show Int.tmod (n0 : Int) (H : Int) = ((n0 % H : Nat) : Int) from rfl, chk_pos (by omega), row_len, chk_pos (by omega), chk_pos (by omega), w64_id (z := (x : Int) + 1) (by omega) (by omega)]
            show some (Step.next (_, _)) = some (Step.next (row (x + 1) (fun x => c (n0 % H) x + a1), ((x + 1 : Nat) : Int)))
            rw [row_succ]
            rfl) (fun x hx hn _ => by
            show fiduciallaw45_AggregateChanges_s1 (tbl W H c) (n0 : Int) a1 (tbl W H c) (row W (c (n0 % H))) (row x (fun x => c (n0 % H) x + a1)) (x : Int) = _
            have hb := hc (n0 % H) x hx
            unfold fiduciallaw45_AggregateChanges_s1
            rw [row_len, if_pos (by simp only [decide_eq_true_eq]; omega), row_ix W _ rfl hx, Option.bind_some, w64_id (z := a1) (by omega) (by omega), w64_id (z := c (n0 % H) x + a1) (by omega) (by omega), if_pos (by simp only [decide_eq_true_eq]; exact hn)]) (by
            show fiduciallaw45_AggregateChanges_s1 (tbl W H c) (n0 : Int) a1 (tbl W H c) (row W (c (n0 % H))) (row W (fun x => c (n0 % H) x + a1)) (W : Int) = _
            unfold fiduciallaw45_AggregateChanges_s1
            rw [row_len, if_neg (by simp)])
          rcases hl with ⟨hall, hl⟩ | ⟨x, _, _, _, hl⟩
          · rw [hl]
            simp only [Option.bind_some]
            rw [show (((n0 % H : Nat) : Int)).toNat = n0 % H by omega, tbl_set]
            have hc' : CB W (ad c (n0 % H) a1) := fun y x hx => by
              have e1 := hc y x hx
              have e2 := hall x hx
              unfold ad
              split
              · rename_i h; subst h; omega
              · exact e1
            rw [line_ok hp w1 y1 (by omega) (by omega) hc' (checked_ok hp w1 y1 (by omega) (by omega) hc')]
            simp only [Option.bind_some]
            have hrv := rev_gen (step := fun s : List (List Int) × Int × Int => fiduciallaw45_AggregateChanges_s2 s.1 s.2.1 s.2.2) y1 (by omega) (fun y => row W (c y)) (fun l s t => rfl)
            have e : tbl W H c = lrow H (fun y => row W (c y)) := rfl
            have e' : lrow H (fun y => row W (c (H - 1 - y))) = tbl W H (fun y => c (H - 1 - y)) := rfl
            rw [← e, e'] at hrv
            have hc2 : CB W (fun y => c (H - 1 - y)) := fun y x hx => hc _ x hx
            try simp only [tbl_len]
            rw [hrv]
            simp only [Option.bind_some]
            rw [line_ok hp w1 y1 (by omega) (by omega) hc2 (checked_ok hp w1 y1 (by omega) (by omega) hc2)]
            simp only [Option.bind_some]
            rw [line_ok hp' w1 y1 (by omega) (by omega) hc (checked_ok hp' w1 y1 (by omega) (by omega) hc)]
            simp only [Option.bind_some]
            have hlb : lbL p q (ad c (n0 % H) a1) W H H = lbL p q c W H H := row_congr fun y hy => by rw [lb_ad c hi a1 y hy]
            have hmb := me_bound hp (H := H) w1 (by omega) hc
            rw [hlb, me_ad c hi, me_rev c w1 y1, w64_id (z := me p q c W H + a1) (by omega) (by omega), equal_self _ (by unfold lbL; rw [row_len]; omega)]
            simp only [Option.bind_some]
            by_cases c1 : p' < p
            · simp [c1]
            · by_cases c2 : q' < q
              · simp [c1, c2]
              · have := me_mono (p := p) (q := q) (p' := p') (q' := q') (by omega) (by omega) w1 c H
                simp [c1, c2, this]
          · rw [hl]
            rfl
        · rw [g4, Option.bind_some, Option.bind_some, if_pos (by simpa using hk)]
      · have : fiduciallaw45_lined (tbl W H c) p' q' = some 2 := by
          rcases check_few hf with ⟨_, _, _, _, _, _, _, _, _, _, e3⟩ | ⟨e3, _⟩
          · unfold fiduciallaw45_lined
            rw [e3, Option.bind_some, if_neg (by decide), e2]
            rfl
          · exfalso
            have h2 : aggregate_checked (tbl W H c) p q = some 1 := by
              unfold aggregate_checked
              rw [e3]
              rfl
            rw [g1] at h2
            cases h2
        rw [this]
        rfl
    · rw [g2, Option.bind_some, if_pos (by simpa using hk)]
      rfl
end Go.Proofs.Ytgakaghdiodakaa
