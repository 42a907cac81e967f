/-
  PLAIN, chapter 50: smaller costs.
-/
import Derived.Test.YtomlpofoaokmdaaP50g
set_option linter.unusedSimpArgs false
set_option linter.unusedVariables false
namespace Go.Proofs.Ytomlpofoaokmdaa
open Go.E

/-- A row whose first x entries are turned. -/
def mixf (f g : Nat → Int) (x : Nat) : Nat → Int := fun z => if z < x then g z else f z
theorem mixf_set {W : Nat} (f g : Nat → Int) {x : Nat} (hx : x < W) : (row W (mixf f g x)).set x (g x) = row W (mixf f g (x + 1)) := by
  apply List.ext_getElem?
  intro z
  rw [List.getElem?_set]
  by_cases hz : z < W
  · rw [row_get _ _ hz, row_get _ _ hz, row_len]
    by_cases hq : x = z
    · subst hq
      rw [if_pos rfl, if_pos hx]
      unfold mixf
      rw [if_pos (by omega)]
    · rw [if_neg hq]
      unfold mixf
      by_cases h1 : z < x
      · rw [if_pos h1, if_pos (by omega)]
      · rw [if_neg h1, if_neg (by omega)]
  · rw [if_neg (by omega), List.getElem?_eq_none (by rw [row_len]; omega), List.getElem?_eq_none (by rw [row_len]; omega)]
theorem mixf_same {W : Nat} (f g : Nat → Int) {x : Nat} (h : g x = f x) : row W (mixf f g x) = row W (mixf f g (x + 1)) := row_congr fun z hz => by
  unfold mixf
  by_cases h1 : z < x
  · rw [if_pos h1, if_pos (by omega)]
  · rw [if_neg h1]
    by_cases h2 : z = x
    · subst h2; rw [if_pos (by omega), h]
    · rw [if_neg (by omega)]
theorem mixf_at (f g : Nat → Int) (x : Nat) : mixf f g x x = f x := by unfold mixf; rw [if_neg (by omega)]

theorem setrow {W : Nat} (hW : W ≤ 1000) {f g : Nat → Int} {step : List Int × Int → Option (Step (List Int × Int) (List Int))} (h : ∀ x : Nat, x < W → step (row W (mixf f g x), (x : Int)) = some (.next (row W (mixf f g (x + 1)), ((x + 1 : Nat) : Int)))) (hd : ∀ l, step (l, (W : Int)) = some (.done l)) :
    loopM FUEL step (row W f, 0) = some (row W g) := by
  refine loop_go (fun i => (row W (mixf f g i), (i : Int))) W (by unfold FUEL; omega) ?_ (fun i hi => h i hi) ?_
  · show (row W f, (0 : Int)) = (row W (mixf f g 0), ((0 : Nat) : Int))
    rw [show row W f = row W (mixf f g 0) from row_congr fun z _ => by unfold mixf; rw [if_neg (by omega)]]
    rfl
  · rw [hd, show row W (mixf f g W) = row W g from row_congr fun z hz => by unfold mixf; rw [if_pos hz]]

/-- The costs that the law makes smaller. -/
def lessC (c : Nat → Nat → Int) (t : List (List Int)) : Nat → Nat → Int := fun y x =>
  if y < t.length ∧ x < (t.getD y []).length ∧ 0 ≤ pP t y x then (if pP t y x < c y x then pP t y x else c y x) else c y x

theorem lessC_le (c : Nat → Nat → Int) (t : List (List Int)) (y x : Nat) : lessC c t y x ≤ c y x := by
  unfold lessC
  split
  · split <;> omega
  · omega
theorem lessC_CB {W : Nat} {c : Nat → Nat → Int} (h : CB W c) (t : List (List Int)) : CB W (lessC c t) := fun y x hx => by
  have h1 := lessC_le c t y x
  have h2 := h y x hx
  refine ⟨?_, by omega⟩
  unfold lessC
  split
  · split <;> omega
  · omega

theorem monoT {W H : Nat} (hW0 : 0 < W) (hW : W ≤ 64) (hH : H ≤ 64) (c : Nat → Nat → Int) (t : List (List Int)) : loopM FUEL (fun s : List (List Int) × Int => fiduciallaw50_SeamMonotone_s1 (tbl W H c) t s.1 s.2) ([], 0) = some (tbl W H (lessC c t)) := by
  refine loop_go (fun i => (tbl W i (lessC c t), (i : Int))) H (by unfold FUEL; omega) rfl (fun i hi => ?_) ?_
  · show fiduciallaw50_SeamMonotone_s1 (tbl W H c) t (tbl W i (lessC c t)) (i : Int) = _
    unfold fiduciallaw50_SeamMonotone_s1
    rw [tbl_len, if_pos (by simpa using hi), tbl_ix W H c rfl hi, Option.bind_some, clone_eq _ (by rw [row_len]; omega), Option.bind_some]
    have : loopM FUEL (fun s : List Int × Int => fiduciallaw50_SeamMonotone_s2 t (i : Int) (row W (c i)) s.1 s.2) (row W (c i), 0) = some (row W (lessC c t i)) := by
      refine setrow (by omega) (fun x hx => ?_) (fun l => ?_)
      · show fiduciallaw50_SeamMonotone_s2 t (i : Int) (row W (c i)) (row W (mixf (c i) (lessC c t i) x)) (x : Int) = _
        unfold fiduciallaw50_SeamMonotone_s2
        rw [row_len, if_pos (by simpa using hx), w64_id (by omega) (by omega)]
        by_cases h1 : i < t.length
        · have e0 : ix t (i : Int) = some (t.getD i []) := ix_getD rfl h1 []
          rw [if_pos (by simpa using h1), e0]
          simp only [Option.bind_some]
          by_cases h2 : x < (t.getD i []).length
          · have e1 : ix (t.getD i []) (x : Int) = some (pP t i x) := ix_getD rfl h2 0
            rw [if_pos (by simp only [decide_eq_true_eq]; omega), e1]
            simp only [Option.bind_some]
            by_cases h3 : 0 ≤ pP t i x
            · rw [if_pos (by simpa using h3), row_ix W _ rfl hx, mixf_at]
              simp only [Option.bind_some]
              rw [chk_pos (by rw [row_len]; omega), Option.bind_some]
              have e2 : (if pP t i x < c i x then pP t i x else c i x) = lessC c t i x := by
                unfold lessC
                rw [if_pos (show i < t.length ∧ x < (t.getD i []).length ∧ 0 ≤ pP t i x from ⟨h1, h2, h3⟩)]
              rw [e2, show ((x : Int)).toNat = x by omega, mixf_set _ _ hx]
              rfl
            · rw [if_neg (by simpa using h3), Option.bind_some, mixf_same _ _ (x := x) (by unfold lessC; rw [if_neg (fun h => h3 h.2.2)])]
              rfl
          · rw [if_neg (by simp only [decide_eq_true_eq]; omega)]
            simp only [Option.bind_some]
            rw [if_neg (by decide), Option.bind_some, mixf_same _ _ (x := x) (by unfold lessC; rw [if_neg (fun h => h2 h.2.1)])]
            rfl
        · rw [if_neg (by simpa using h1)]
          simp only [Option.bind_some]
          rw [if_neg (by decide), Option.bind_some, mixf_same _ _ (x := x) (by unfold lessC; rw [if_neg (fun h => h1 h.1)])]
          rfl
      · show fiduciallaw50_SeamMonotone_s2 t (i : Int) (row W (c i)) l (W : Int) = _
        unfold fiduciallaw50_SeamMonotone_s2
        rw [row_len, if_neg (by simp)]
    rw [this, Option.bind_some, tbl_len, chk_pos (by omega), w64_id (by omega) (by omega)]
    show some (Step.next (_, _)) = some (Step.next (tbl W (i + 1) (lessC c t), ((i + 1 : Nat) : Int)))
    rw [tbl_succ W i]
    rfl
  · show fiduciallaw50_SeamMonotone_s1 (tbl W H c) t (tbl W H (lessC c t)) (H : Int) = _
    unfold fiduciallaw50_SeamMonotone_s1
    rw [tbl_len, if_neg (by simp)]

theorem check_cb {W H : Nat} (hW0 : 0 < W) (hH0 : 0 < H) (hW : W ≤ 64) (hH : H ≤ 64) {c : Nat → Nat → Int} (h : CB W c) : seam_Check (tbl W H c) = some 0 := by
  rcases check_tab hW0 hH0 hW hH c with ⟨e, _⟩ | ⟨_, y, x, h1, h2, h3⟩
  · exact e
  · exact absurd (h y x h2) h3

theorem monotone_true (t p : List (List Int)) : fiduciallaw50_SeamMonotone t p = some true := by
  unfold fiduciallaw50_SeamMonotone
  rw [known_true, Option.bind_some, if_neg (by decide), few_eq, Option.bind_some]
  cases hf : few t with
  | false => rfl
  | true =>
    rw [if_neg (by decide), few_eq, Option.bind_some]
    cases hf2 : few p with
    | false => rfl
    | true =>
      rw [if_neg (by decide), checked_eq]
      rcases check_few hf with ⟨W, H, c, rfl, h1, h2, h3, h4, hcb, hc⟩ | ⟨k, hk, hc⟩
      · have hcb2 := lessC_CB hcb p
        rw [hc, Option.bind_some, Option.bind_some, if_neg (by decide), monoT h1 (by omega) (by omega), Option.bind_some, find_ok h1 h3 (by omega) (by omega) hcb.bnd hc, find_ok h1 h3 (by omega) (by omega) hcb2.bnd (check_cb h1 h3 (by omega) (by omega) hcb2)]
        simp only [Option.bind_some]
        rw [if_pos (by decide), if_pos (by decide)]
        have a1 := lt_le (lessC c p) h3 (col_seam c h1 H)
        have a2 := ss_le (c := lessC c p) (d := c) (r := col c W H) H (fun y _ => lessC_le c p y _)
        rw [col_total c h1 h3] at a2
        rw [decide_eq_true (by omega)]
      · rw [hc, Option.bind_some, Option.bind_some, if_pos (by simpa using hk)]
end Go.Proofs.Ytomlpofoaokmdaa
