/-
  PLAIN, chapter 21: boxes and patterns.
-/
import Derived.Test.YtdgmeplpkehdnaaP1
import Derived.Test.YtdgmeplpkehdnaaM
import Derived.KernelRfl
set_option linter.unusedSimpArgs false
namespace Go.Proofs.Ytdgmeplpkehdnaa
open Go.E

theorem known21 : fiduciallaw21_known = some true := by kernel_rfl

abbrev Tst := Int × Int × Int × Int × Int × Int × Int × Int
abbrev BoxP (a b c d : Int) : Prop := -16 ≤ a ∧ -16 ≤ b ∧ 1 ≤ c ∧ c ≤ 8 ∧ 1 ≤ d ∧ d ≤ 8 ∧ a ≤ 17 - c ∧ b ≤ 17 - d
def boxB (a b c d : Int) : Bool := decide (BoxP a b c d)
def bxB (t : Tst) : Bool := boxB t.1 t.2.1 t.2.2.1 t.2.2.2.1 && boxB t.2.2.2.2.1 t.2.2.2.2.2.1 t.2.2.2.2.2.2.1 t.2.2.2.2.2.2.2
def patB (p : List Tst) : Bool := decide (1 ≤ p.length ∧ p.length ≤ 64) && p.all bxB

theorem boxB_true {a b c d : Int} (h : boxB a b c d = true) : BoxP a b c d := of_decide_eq_true h
theorem boxB_false {a b c d : Int} (h : ¬ BoxP a b c d) : boxB a b c d = false := decide_eq_false h
theorem boxB_of {a b c d : Int} (h : BoxP a b c d) : boxB a b c d = true := decide_eq_true h
theorem patB_true {p : List Tst} (h : patB p = true) : 1 ≤ p.length ∧ p.length ≤ 64 ∧ ∀ t ∈ p, bxB t = true := by
  unfold patB at h
  rw [Bool.and_eq_true, decide_eq_true_eq, List.all_eq_true] at h
  exact ⟨h.1.1, h.1.2, h.2⟩
theorem patB_of {p : List Tst} (h1 : 1 ≤ p.length) (h2 : p.length ≤ 64) (h3 : ∀ t ∈ p, bxB t = true) : patB p = true := by
  unfold patB
  rw [Bool.and_eq_true, decide_eq_true_eq, List.all_eq_true]
  exact ⟨⟨h1, h2⟩, h3⟩

theorem lawbox_eq (a b c d : Int) : fiduciallaw21_box a b c d = some (boxB a b c d) := by
  unfold fiduciallaw21_box
  by_cases h1 : (-16) ≤ a
  case neg => rw [boxB_false (fun h => h1 h.1)]; simp [h1]
  by_cases h2 : (-16) ≤ b
  case neg => rw [boxB_false (fun h => h2 h.2.1)]; simp [h1, h2]
  by_cases h3 : 1 ≤ c
  case neg => rw [boxB_false (fun h => h3 h.2.2.1)]; simp [h1, h2, h3]
  by_cases h4 : c ≤ 8
  case neg => rw [boxB_false (fun h => h4 h.2.2.2.1)]; simp [h1, h2, h3, h4]
  by_cases h5 : 1 ≤ d
  case neg => rw [boxB_false (fun h => h5 h.2.2.2.2.1)]; simp [h1, h2, h3, h4, h5]
  by_cases h6 : d ≤ 8
  case neg => rw [boxB_false (fun h => h6 h.2.2.2.2.2.1)]; simp [h1, h2, h3, h4, h5, h6]
  have e1 : w64 (17 - c) = 17 - c := w64_id (by omega) (by omega)
  have e2 : w64 (17 - d) = 17 - d := w64_id (by omega) (by omega)
  by_cases h7 : a ≤ 17 - c
  case neg => rw [boxB_false (fun h => h7 h.2.2.2.2.2.2.1)]; simp [h1, h2, h3, h4, h5, h6, h7, e1]
  by_cases h8 : b ≤ 17 - d
  case neg => rw [boxB_false (fun h => h8 h.2.2.2.2.2.2.2)]; simp [h1, h2, h3, h4, h5, h6, h7, h8, e1, e2]
  rw [boxB_of ⟨h1, h2, h3, h4, h5, h6, h7, h8⟩]
  simp [h1, h2, h3, h4, h5, h6, h7, h8, e1, e2]

theorem box_eq (a b c d : Int) : descriptor_box a b c d = some (boxB a b c d) := by
  unfold descriptor_box
  by_cases h1 : (if d < c then d else c) < 1
  · rw [boxB_false (fun h => by obtain ⟨_, _, _, _, _, _, _, _⟩ := h; split at h1 <;> omega)]
    simp [h1]
  by_cases h2 : 8 < (if c < d then d else c)
  · rw [boxB_false (fun h => by obtain ⟨_, _, _, _, _, _, _, _⟩ := h; split at h2 <;> omega)]
    simp [h1, h2]
  by_cases h3 : (if b < a then b else a) < (-16)
  · rw [boxB_false (fun h => by obtain ⟨_, _, _, _, _, _, _, _⟩ := h; split at h3 <;> omega)]
    simp [h1, h2, h3]
  have hc : 1 ≤ c ∧ c ≤ 8 ∧ 1 ≤ d ∧ d ≤ 8 := by split at h1 <;> split at h2 <;> omega
  have ha : -16 ≤ a ∧ -16 ≤ b := by split at h3 <;> omega
  obtain ⟨q1, q2, q3, q4⟩ := hc
  obtain ⟨q5, q6⟩ := ha
  have e1 : w64 (17 - c) = 17 - c := w64_id (by omega) (by omega)
  have e2 : w64 (17 - d) = 17 - d := w64_id (by omega) (by omega)
  by_cases h7 : a ≤ 17 - c
  case neg => rw [boxB_false (fun h => h7 h.2.2.2.2.2.2.1)]; simp [h1, h2, h3, h7, e1]
  by_cases h8 : b ≤ 17 - d
  case neg => rw [boxB_false (fun h => h8 h.2.2.2.2.2.2.2)]; simp [h1, h2, h3, h7, h8, e1, e2]
  rw [boxB_of ⟨q5, q6, q1, q2, q3, q4, h7, h8⟩]
  simp [h1, h2, h3, h7, h8, e1, e2]

theorem any_tst {xs : List Tst} {f : Int → Int → Int → Int → Int → Int → Int → Int → Option Bool} {g : Tst → Bool} (hf : ∀ v, v ∈ xs → f v.1 v.2.1 v.2.2.1 v.2.2.2.1 v.2.2.2.2.1 v.2.2.2.2.2.1 v.2.2.2.2.2.2.1 v.2.2.2.2.2.2.2 = some (g v)) (hn : xs.length ≤ 1000000) :
    slices_ContainsFunc_sdescriptor_Test xs f = some (xs.any g) := by
  obtain ⟨z, hz, hq⟩ := any_loop (step := fun s => slices_IndexFunc_sdescriptor_Test_s1 xs f s) (f := fun v => f v.1 v.2.1 v.2.2.1 v.2.2.2.1 v.2.2.2.2.1 v.2.2.2.2.2.1 v.2.2.2.2.2.2.1 v.2.2.2.2.2.2.2) g hn (fun _ => rfl) hf
  unfold slices_ContainsFunc_sdescriptor_Test slices_IndexFunc_sdescriptor_Test
  rw [hz]
  rcases hq with ⟨rfl, h⟩ | ⟨i, rfl, h⟩
  · simp [h]
  · simp [h]

theorem check21_eq {p : List Tst} (hn : p.length ≤ 1000000) : descriptor_Check p = some (if patB p = true then 0 else 1) := by
  unfold descriptor_Check
  by_cases h1 : (p.length : Int) < 1
  · have : ¬ patB p = true := fun h => by have := (patB_true h).1; omega
    rw [if_neg this]
    simp [h1]
  by_cases h2 : 64 < (p.length : Int)
  · have : ¬ patB p = true := fun h => by have := (patB_true h).2.1; omega
    rw [if_neg this]
    simp [h1, h2]
  rw [any_tst (g := fun t => !bxB t) (fun v _ => by
    unfold descriptor_Check_c1 bxB
    rw [box_eq, Option.bind_some, box_eq, Option.bind_some]
    cases boxB v.1 v.2.1 v.2.2.1 v.2.2.2.1 <;> cases boxB v.2.2.2.2.1 v.2.2.2.2.2.1 v.2.2.2.2.2.2.1 v.2.2.2.2.2.2.2 <;> rfl) hn]
  have e : p.any (fun t => !bxB t) = !patB p := by
    unfold patB
    rw [decide_eq_true (show 1 ≤ p.length ∧ p.length ≤ 64 by omega), Bool.true_and, List.all_eq_not_any_not, Bool.not_not]
  rw [e]
  simp only [h1, h2, decide_false, Bool.false_eq_true, if_false, Option.bind_some]
  cases patB p <;> rfl

theorem pattern_eq {p : List Tst} : fiduciallaw21_pattern p = some (patB p) := by
  unfold fiduciallaw21_pattern
  by_cases h1 : (p.length : Int) < 1
  · have : patB p = false := by
      cases h : patB p with
      | false => rfl
      | true => have := (patB_true h).1; omega
    simp only [h1, decide_true, if_true, Option.bind_some, this]
  by_cases h2 : 64 < (p.length : Int)
  · have : patB p = false := by
      cases h : patB p with
      | false => rfl
      | true => have := (patB_true h).2.1; omega
    simp only [h1, h2, decide_true, decide_false, Bool.false_eq_true, if_false, if_true, Option.bind_some, this]
  simp only [h1, h2, decide_false, Bool.false_eq_true, if_false, Option.bind_some]
  have hb : ∀ v : Tst, ((fiduciallaw21_box v.1 v.2.1 v.2.2.1 v.2.2.2.1).bind fun y5 => (if (!y5) = true then some true else (fiduciallaw21_box v.2.2.2.2.1 v.2.2.2.2.2.1 v.2.2.2.2.2.2.1 v.2.2.2.2.2.2.2).bind fun y6 => some (!y6))) = some (!bxB v) := fun v => by
    unfold bxB
    rw [lawbox_eq, Option.bind_some, lawbox_eq, Option.bind_some]
    cases boxB v.1 v.2.1 v.2.2.1 v.2.2.2.1 <;> cases boxB v.2.2.2.2.1 v.2.2.2.2.2.1 v.2.2.2.2.2.2.1 v.2.2.2.2.2.2.2 <;> rfl
  rcases loop_first (step := fun s => fiduciallaw21_pattern_s1 p s) (fun i => (i : Int)) (fun i => ∃ t, p[i]? = some t ∧ bxB t = false) (fun _ => .inl false) (.inr ()) p.length (s0 := 0) (by unfold FUEL; omega) rfl
    (fun i hi hp => by
      have hbx : bxB p[i] = true := by
        cases h : bxB p[i] with
        | true => rfl
        | false => exact absurd ⟨_, List.getElem?_eq_getElem hi, h⟩ hp
      unfold fiduciallaw21_pattern_s1
      rw [if_pos (by simpa using hi), ix_lt p i hi, Option.bind_some, hb, Option.bind_some, hbx, if_neg (by decide), w64_id (by omega) (by omega)]
      simp)
    (fun i hi hp _ => by
      obtain ⟨t, ht, hbx⟩ := hp
      rw [List.getElem?_eq_getElem hi] at ht
      cases ht
      unfold fiduciallaw21_pattern_s1
      rw [if_pos (by simpa using hi), ix_lt p i hi, Option.bind_some, hb, Option.bind_some, hbx]
      rfl)
    (by unfold fiduciallaw21_pattern_s1; rw [if_neg (by simp)]) with ⟨ha, hl⟩ | ⟨i, hi, ⟨t, ht, hbx⟩, _, hl⟩
  · rw [hl]
    have hp : patB p = true := patB_of (by omega) (by omega) (fun t ht => by
      obtain ⟨j, hj⟩ := List.getElem?_of_mem ht
      cases h : bxB t with
      | true => rfl
      | false => exact absurd ⟨t, hj, h⟩ (ha j (List.getElem?_eq_some_iff.1 hj).1))
    simp only [Option.bind_some, hp]
  · rw [hl]
    have hp : patB p = false := by
      cases h : patB p with
      | false => rfl
      | true => rw [(patB_true h).2.2 t (List.mem_of_getElem? ht)] at hbx; cases hbx
    simp only [Option.bind_some, hp]

end Go.Proofs.Ytdgmeplpkehdnaa
