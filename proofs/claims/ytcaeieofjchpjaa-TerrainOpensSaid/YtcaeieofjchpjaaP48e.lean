/-
  PLAIN, chapter 48: Ground.
-/
import Derived.Test.YtcaeieofjchpjaaP48d
set_option linter.unusedSimpArgs false
set_option linter.unusedVariables false
namespace Go.Proofs.Ytcaeieofjchpjaa
open Go.E

/-! ### Lists turned entry by entry -/

def lmix {α : Type} (f g : Nat → α) (x : Nat) : Nat → α := fun z => if z < x then g z else f z
theorem lmix_set {α : Type} {W : Nat} (f g : Nat → α) {x : Nat} (hx : x < W) : (lrow W (lmix f g x)).set x (g x) = lrow W (lmix f g (x + 1)) := by
  apply List.ext_getElem?
  intro z
  rw [List.getElem?_set]
  by_cases hz : z < W
  · rw [lrow_get _ _ hz, lrow_get _ _ hz, lrow_len]
    by_cases hq : x = z
    · subst hq
      rw [if_pos rfl, if_pos hx]
      unfold lmix
      rw [if_pos (by omega)]
    · rw [if_neg hq]
      unfold lmix
      by_cases h1 : z < x
      · rw [if_pos h1, if_pos (by omega)]
      · rw [if_neg h1, if_neg (by omega)]
  · rw [if_neg (by omega), List.getElem?_eq_none (by rw [lrow_len]; omega), List.getElem?_eq_none (by rw [lrow_len]; omega)]
theorem lmix_same {α : Type} {W : Nat} (f g : Nat → α) {x : Nat} (h : g x = f x) : lrow W (lmix f g x) = lrow W (lmix f g (x + 1)) := lrow_congr fun z hz => by
  unfold lmix
  by_cases h1 : z < x
  · rw [if_pos h1, if_pos (by omega)]
  · rw [if_neg h1]
    by_cases h2 : z = x
    · subst h2; rw [if_pos (by omega), h]
    · rw [if_neg (by omega)]
theorem lmix_at {α : Type} (f g : Nat → α) (x : Nat) : lmix f g x x = f x := by unfold lmix; rw [if_neg (by omega)]
theorem lsetrow {α : Type} {W : Nat} (hW : W ≤ 4096) {f g : Nat → α} {step : List α × Int → Option (Step (List α × Int) (List α))} (h : ∀ x : Nat, x < W → step (lrow W (lmix f g x), (x : Int)) = some (.next (lrow W (lmix f g (x + 1)), ((x + 1 : Nat) : Int)))) (hd : ∀ l : List α, l.length = W → step (l, (W : Int)) = some (.done l)) :
    loopM FUEL step (lrow W f, 0) = some (lrow W g) := by
  refine loop_go (fun i => (lrow W (lmix f g i), (i : Int))) W (by unfold FUEL; omega) ?_ (fun i hi => h i hi) ?_
  · show (lrow W f, (0 : Int)) = (lrow W (lmix f g 0), ((0 : Nat) : Int))
    rw [show lrow W f = lrow W (lmix f g 0) from lrow_congr fun z _ => by unfold lmix; rw [if_neg (by omega)]]
    rfl
  · rw [hd _ (lrow_len _ _), show lrow W (lmix f g W) = lrow W g from lrow_congr fun z hz => by unfold lmix; rw [if_pos hz]]

/-! ### Heights stay in their range -/

def BD (N : Nat) (f : Nat → Int) : Prop := ∀ k, k < N → f k = -2147483648 ∨ (-1048576 ≤ f k ∧ f k ≤ 1048576)
theorem fold_mem {op : Int → Int → Int} (hs : ∀ a b, op a b = a ∨ op a b = b) : ∀ (l : List Int) (a : Int), l.foldl op a = a ∨ l.foldl op a ∈ l
  | [], a => .inl rfl
  | x :: l, a => by
    simp only [List.foldl_cons]
    rcases fold_mem hs l (op a x) with h | h
    · rw [h]
      rcases hs a x with h2 | h2
      · exact .inl h2
      · rw [h2]; exact .inr (List.mem_cons_self ..)
    · exact .inr (List.mem_cons_of_mem _ h)
theorem around_mem {f : Nat → Int} {W H k r : Nat} (hW : 0 < W) (hk : k < H * W) {v : Int} (hv : v ∈ around f W H k r) : ∃ m, m < H * W ∧ v = f m := by
  have hy : k / W < H := Nat.div_lt_of_lt_mul (by rw [Nat.mul_comm]; exact hk)
  have hx : k % W < W := Nat.mod_lt _ hW
  have c1 := cnt_ok (r := r) hy
  have c2 := cnt_ok (r := r) hx
  obtain ⟨u, hu, hv⟩ := List.mem_flatMap.1 hv
  obtain ⟨t, ht, rfl⟩ := List.mem_map.1 hv
  have hu := List.mem_range.1 hu
  have ht := List.mem_range.1 ht
  exact ⟨_, cell_in (by omega) (by omega), rfl⟩
theorem flt_spec {op : Int → Int → Int} (hs : ∀ a b, op a b = a ∨ op a b = b) {f : Nat → Int} {W H r k : Nat} (hW : 0 < W) (hk : k < H * W) : (f k = -2147483648 ∧ flt op f W H r k = -2147483648) ∨ (f k ≠ -2147483648 ∧ ∃ m, m < H * W ∧ f m ≠ -2147483648 ∧ flt op f W H r k = f m) := by
  unfold flt
  by_cases h : f k = -2147483648
  · exact .inl ⟨h, by rw [if_pos h]⟩
  · refine .inr ⟨h, ?_⟩
    rw [if_neg h]
    rcases fold_mem hs ((around f W H k r).filter nz) (f k) with h2 | h2
    · exact ⟨k, hk, h, h2⟩
    · obtain ⟨h3, h4⟩ := List.mem_filter.1 h2
      obtain ⟨m, hm, e⟩ := around_mem hW hk h3
      rw [e] at h4
      exact ⟨m, hm, by simpa [nz] using h4, e⟩
theorem imin_sel (a b : Int) : imin a b = a ∨ imin a b = b := by unfold imin; split <;> simp
theorem imax_sel (a b : Int) : imax a b = a ∨ imax a b = b := by unfold imax; split <;> simp
theorem flt_bd {op : Int → Int → Int} (hs : ∀ a b, op a b = a ∨ op a b = b) {f : Nat → Int} {W H r : Nat} (hW : 0 < W) (hb : BD (H * W) f) : BD (H * W) (flt op f W H r) := fun k hk => by
  rcases flt_spec (r := r) hs hW hk with ⟨_, h⟩ | ⟨_, m, hm, _, h⟩
  · exact .inl h
  · rw [h]; exact hb m hm
theorem flt_none {op : Int → Int → Int} (hs : ∀ a b, op a b = a ∨ op a b = b) {f : Nat → Int} {W H r k : Nat} (hW : 0 < W) (hk : k < H * W) : flt op f W H r k = -2147483648 ↔ f k = -2147483648 := by
  rcases flt_spec (r := r) hs hW hk with ⟨h1, h⟩ | ⟨h1, m, hm, h2, h⟩
  · exact ⟨fun _ => h1, fun _ => h⟩
  · rw [h]; exact ⟨fun h3 => absurd h3 h2, fun h3 => absurd h3 h1⟩
theorem opn_bd {f : Nat → Int} {W H r : Nat} (hW : 0 < W) (hb : BD (H * W) f) : BD (H * W) (opn f W H r) := flt_bd imax_sel hW (flt_bd imin_sel hW hb)
theorem opn_none {f : Nat → Int} {W H r k : Nat} (hW : 0 < W) (hk : k < H * W) : opn f W H r k = -2147483648 ↔ f k = -2147483648 := (flt_none imax_sel hW hk).trans (flt_none imin_sel hW hk)

/-! ### The stages -/

def gF (f : Nat → Int) (W H : Nat) (rs : Nat → Nat) : Nat → Nat → Int
  | 0 => f
  | i + 1 => opn (gF f W H rs i) W H (rs i)
def gB (f : Nat → Int) (W H : Nat) (rs : Nat → Nat) (ls : Nat → Int) : Nat → Nat → Bool
  | 0 => fun k => nz (f k)
  | i + 1 => fun k => gB f W H rs ls i k && decide (gF f W H rs i k - gF f W H rs (i + 1) k ≤ ls i)
theorem gF_bd {f : Nat → Int} {W H : Nat} (hW : 0 < W) (rs : Nat → Nat) (hb : BD (H * W) f) : ∀ i, BD (H * W) (gF f W H rs i)
  | 0 => hb
  | i + 1 => opn_bd hW (gF_bd hW rs hb i)
theorem gF_none {f : Nat → Int} {W H : Nat} (hW : 0 < W) (rs : Nat → Nat) {k : Nat} (hk : k < H * W) : ∀ i, gF f W H rs i k = -2147483648 ↔ f k = -2147483648
  | 0 => Iff.rfl
  | i + 1 => (opn_none hW hk).trans (gF_none hW rs hk i)
theorem gB_nz {f : Nat → Int} {W H : Nat} {rs : Nat → Nat} {ls : Nat → Int} {k : Nat} : ∀ i, gB f W H rs ls i k = true → nz (f k) = true
  | 0, h => h
  | i + 1, h => gB_nz i (by simp only [gB, Bool.and_eq_true] at h; exact h.1)

theorem s5both {N : Nat} (hN : N ≤ 4096) {F O : Nat → Int} {B : Nat → Bool} {lim : Int} (hF : BD N F) (hO : BD N O) (hn : ∀ k, k < N → (O k = -2147483648 ↔ F k = -2147483648)) (hB : ∀ k, k < N → B k = true → F k ≠ -2147483648) (hl : 0 ≤ lim ∧ lim ≤ 1048576) {p2 : List Int} {i : Int} (hp : ix p2 i = some lim) (l7 : List Bool) (h7 : l7.length = N) :
    loopM FUEL (fun s : List Bool × Int => terrain_Ground_s5 p2 i (row N F) (row N O) s.1 s.2) (lrow N B, 0) = some (lrow N (fun k => B k && decide (F k - O k ≤ lim))) ∧ loopM FUEL (fun s : List Bool × Int => fiduciallaw48_ground_s5 p2 l7 i (row N F) (row N O) s.1 s.2) (lrow N B, 0) = some (lrow N (fun k => B k && decide (F k - O k ≤ lim))) := by
  constructor
  · refine lsetrow hN (fun x hx => ?_) (fun l hl => ?_)
    · show terrain_Ground_s5 p2 i (row N F) (row N O) (lrow N (lmix B (fun k => B k && decide (F k - O k ≤ lim)) x)) (x : Int) = _
      have hf := hF x hx
      have ho := hO x hx
      have hnx := hn x hx
      have hbx := hB x hx
      unfold terrain_Ground_s5
      rw [row_len, if_pos (by simpa using hx), row_ix _ _ rfl hx, Option.bind_some, row_ix _ _ rfl hx, hp, lrow_len, w64_id (z := (x : Int) + 1) (by omega) (by omega)]
      simp only [Option.bind_some]
      by_cases hv : F x = -2147483648
      · have hb0 : B x = false := by cases hq : B x with
          | false => rfl
          | true => exact absurd hv (hbx hq)
        rw [if_neg (by simpa using hv), Option.bind_some, if_neg (by decide), Option.bind_some, lmix_same _ _ (x := x) (by simp [hb0])]
        rfl
      · have hov : O x ≠ -2147483648 := fun h => hv (hnx.1 h)
        rw [if_pos (by simpa using hv), w64_id (z := O x + lim) (by omega) (by omega), Option.bind_some]
        by_cases hlt : O x + lim < F x
        · have e : (fun k => B k && decide (F k - O k ≤ lim)) x = false := by
            show (B x && decide (F x - O x ≤ lim)) = false
            rw [decide_eq_false (by omega), Bool.and_false]
          rw [if_pos (decide_eq_true hlt), chk_pos (by omega), Option.bind_some, show ((x : Int)).toNat = x by omega, ← e, lmix_set _ (fun k => B k && decide (F k - O k ≤ lim)) hx]
          rfl
        · rw [if_neg (by simpa using hlt), Option.bind_some, lmix_same _ _ (x := x) (by
            show (B x && decide (F x - O x ≤ lim)) = B x
            rw [decide_eq_true (by omega), Bool.and_true])]
          rfl
    · show terrain_Ground_s5 p2 i (row N F) (row N O) l (N : Int) = _
      unfold terrain_Ground_s5
      rw [row_len, if_neg (by simp)]
  · refine lsetrow hN (fun x hx => ?_) (fun l hl => ?_)
    · show fiduciallaw48_ground_s5 p2 l7 i (row N F) (row N O) (lrow N (lmix B (fun k => B k && decide (F k - O k ≤ lim)) x)) (x : Int) = _
      have hf := hF x hx
      have ho := hO x hx
      have hnx := hn x hx
      have hbx := hB x hx
      unfold fiduciallaw48_ground_s5
      rw [h7, if_pos (by simpa using hx), lrow_ix _ _ rfl hx, lmix_at, Option.bind_some, lrow_len, w64_id (z := (x : Int) + 1) (by omega) (by omega), show ((x : Int)).toNat = x by omega]
      cases hq : B x
      · have e : (fun k => B k && decide (F k - O k ≤ lim)) x = false := by
          show (B x && decide (F x - O x ≤ lim)) = false
          rw [hq, Bool.false_and]
        rw [if_neg (by decide), chk_pos (by omega), Option.bind_some, ← e, lmix_set _ (fun k => B k && decide (F k - O k ≤ lim)) hx]
        rfl
      · have hv := hbx hq
        have hov : O x ≠ -2147483648 := fun h => hv (hnx.1 h)
        have e : (fun k => B k && decide (F k - O k ≤ lim)) x = decide (F x - O x ≤ lim) := by
          show (B x && decide (F x - O x ≤ lim)) = _
          rw [hq, Bool.true_and]
        rw [if_pos rfl, row_ix _ _ rfl hx, Option.bind_some, row_ix _ _ rfl hx, Option.bind_some, hp, Option.bind_some, chk_pos (by omega), Option.bind_some, w64_id (z := F x - O x) (by omega) (by omega), ← e, lmix_set _ (fun k => B k && decide (F k - O k ≤ lim)) hx]
        rfl
    · show fiduciallaw48_ground_s5 p2 l7 i (row N F) (row N O) l (N : Int) = _
      unfold fiduciallaw48_ground_s5
      rw [h7, if_neg (by simp)]

theorem equal_bool (xs : List Bool) (h : xs.length ≤ 1000000) : slices_Equal_sbool xs xs = some true := by
  unfold slices_Equal_sbool
  rw [if_neg (by simp)]
  rcases eq_loop (step := fun s => slices_Equal_sbool_s1 xs xs s) (fun a b => a == b) (fun a b => by simp) h rfl (fun s => rfl) with ⟨_, e⟩ | ⟨hn, _⟩
  · rw [e]; rfl
  · exact absurd rfl hn

theorem s3both {N : Nat} (hN : N ≤ 4096) (f : Nat → Int) :
    loopM FUEL (fun s : List Bool × Int => terrain_Ground_s3 (row N f) s.1 s.2) (List.replicate N false, 0) = some (lrow N (fun k => nz (f k))) ∧ loopM FUEL (fun s : List Bool × Int => fiduciallaw48_ground_s3 (row N f) s.1 s.2) ([], 0) = some (lrow N (fun k => nz (f k))) := by
  constructor
  · have e : List.replicate N false = lrow N (fun _ => false) := by
      apply List.ext_getElem?
      intro j
      by_cases hj : j < N
      · rw [lrow_get _ _ hj, List.getElem?_replicate, if_pos hj]
      · rw [List.getElem?_eq_none (by simp; omega), List.getElem?_eq_none (by rw [lrow_len]; omega)]
    rw [e]
    refine lsetrow hN (fun x hx => ?_) (fun l hl => ?_)
    · show terrain_Ground_s3 (row N f) (lrow N (lmix (fun _ => false) (fun k => nz (f k)) x)) (x : Int) = _
      unfold terrain_Ground_s3
      rw [row_len, if_pos (by simpa using hx), row_ix _ _ rfl hx, Option.bind_some, lrow_len, chk_pos (by omega), show ((x : Int)).toNat = x by omega, w64_id (by omega) (by omega)]
      show some (Step.next ((lrow N (lmix (fun _ => false) (fun k => nz (f k)) x)).set x ((fun k => nz (f k)) x), _)) = _
      rw [lmix_set _ (fun k => nz (f k)) hx]
      rfl
    · show terrain_Ground_s3 (row N f) l (N : Int) = _
      unfold terrain_Ground_s3
      rw [row_len, if_neg (by simp)]
  · refine loop_go (fun i => (lrow i (fun k => nz (f k)), (i : Int))) N (by unfold FUEL; omega) rfl (fun i hi => ?_) ?_
    · show fiduciallaw48_ground_s3 (row N f) (lrow i (fun k => nz (f k))) (i : Int) = _
      unfold fiduciallaw48_ground_s3
      rw [row_len, if_pos (by simpa using hi), row_ix _ _ rfl hi, Option.bind_some, lrow_len, chk_pos (by omega), w64_id (by omega) (by omega)]
      have e : lrow (i + 1) (fun k => nz (f k)) = lrow i (fun k => nz (f k)) ++ [nz (f i)] := by simp [lrow, List.range_succ]
      show _ = some (Step.next (lrow (i + 1) (fun k => nz (f k)), _))
      rw [e]
      rfl
    · show fiduciallaw48_ground_s3 (row N f) (lrow N (fun k => nz (f k))) (N : Int) = _
      unfold fiduciallaw48_ground_s3
      rw [row_len, if_neg (by simp)]

def badr (rs ls : List Int) (i : Nat) : Bool := decide (rs.getD i 0 < 1) || decide (8 < rs.getD i 0) || decide (ls.getD i 0 < 0) || decide (1048576 < ls.getD i 0)
theorem s1both {rs ls : List Int} (h : rs.length = ls.length) (hn : rs.length ≤ 8) :
    (loopM FUEL (fun s : Int => terrain_Ground_s1 rs ls s) 0 = some (.inl ([], 2)) ∧ loopM FUEL (fun s : Int => fiduciallaw48_ground_s1 rs ls s) 0 = some (.inl ([], 2))) ∨ ((∀ i, i < rs.length → badr rs ls i = false) ∧ loopM FUEL (fun s : Int => terrain_Ground_s1 rs ls s) 0 = some (.inr ()) ∧ loopM FUEL (fun s : Int => fiduciallaw48_ground_s1 rs ls s) 0 = some (.inr ())) := by
  have hst : ∀ i, i < rs.length → terrain_Ground_s1 rs ls (i : Int) = (if badr rs ls i = true then some (.done (.inl ([], 2))) else some (.next ((i + 1 : Nat) : Int))) ∧ fiduciallaw48_ground_s1 rs ls (i : Int) = (if badr rs ls i = true then some (.done (.inl ([], 2))) else some (.next ((i + 1 : Nat) : Int))) := fun i hi => by
    have e : (if decide (rs.getD i 0 < 1) = true then some true else if decide (8 < rs.getD i 0) = true then some true else if decide (ls.getD i 0 < 0) = true then some true else some (decide (1048576 < ls.getD i 0))) = some (badr rs ls i) := by
      unfold badr
      by_cases h1 : rs.getD i 0 < 1
      · rw [if_pos (decide_eq_true h1), decide_eq_true h1]; rfl
      · rw [if_neg (by simpa only [decide_eq_true_eq] using h1), decide_eq_false h1]
        by_cases h2 : 8 < rs.getD i 0
        · rw [if_pos (decide_eq_true h2), decide_eq_true h2]; rfl
        · rw [if_neg (by simpa only [decide_eq_true_eq] using h2), decide_eq_false h2]
          by_cases h3 : ls.getD i 0 < 0
          · rw [if_pos (decide_eq_true h3), decide_eq_true h3]; rfl
          · rw [if_neg (by simpa only [decide_eq_true_eq] using h3), decide_eq_false h3]; rfl
    constructor
    · unfold terrain_Ground_s1
      rw [if_pos (by simp only [decide_eq_true_eq]; omega), ix_getD (i := i) (d := 0) rfl hi, ix_getD (i := i) (xs := ls) (d := 0) rfl (by omega), w64_id (z := (i : Int) + 1) (by omega) (by omega)]
      simp only [Option.bind_some]
      rw [e, Option.bind_some]
      rfl
    · unfold fiduciallaw48_ground_s1
      rw [if_pos (by simp only [decide_eq_true_eq]; omega), ix_getD (i := i) (d := 0) rfl hi, ix_getD (i := i) (xs := ls) (d := 0) rfl (by omega), w64_id (z := (i : Int) + 1) (by omega) (by omega)]
      simp only [Option.bind_some]
      rw [e, Option.bind_some]
      rfl
  rcases first_of (fun i => badr rs ls i = true) rs.length with ha | ⟨i, hi, hb, hj⟩
  · right
    refine ⟨fun i hi => by simpa using ha i hi, ?_, ?_⟩
    · exact loop_go (fun i => (i : Int)) (s0 := 0) rs.length (by unfold FUEL; omega) rfl (fun i hi => by rw [(hst i hi).1, if_neg (ha i hi)]) (by unfold terrain_Ground_s1; rw [if_neg (by simp)])
    · exact loop_go (fun i => (i : Int)) (s0 := 0) rs.length (by unfold FUEL; omega) rfl (fun i hi => by rw [(hst i hi).2, if_neg (ha i hi)]) (by unfold fiduciallaw48_ground_s1; rw [if_neg (by simp)])
  · left
    refine ⟨?_, ?_⟩
    · exact loop_go (fun i => (i : Int)) (s0 := 0) i (by unfold FUEL; omega) rfl (fun j h => by rw [(hst j (by omega)).1, if_neg (hj j h)]) (by rw [(hst i hi).1, if_pos hb])
    · exact loop_go (fun i => (i : Int)) (s0 := 0) i (by unfold FUEL; omega) rfl (fun j h => by rw [(hst j (by omega)).2, if_neg (hj j h)]) (by rw [(hst i hi).2, if_pos hb])

theorem s2cases {rs : List Int} (h1 : 1 ≤ rs.length) (hn : rs.length ≤ 8) : loopM FUEL (fun s : Int => terrain_Ground_s2 rs s) 1 = some (.inl ([], 5)) ∨ loopM FUEL (fun s : Int => terrain_Ground_s2 rs s) 1 = some (.inr ()) := by
  rcases loop_first (step := fun s : Int => terrain_Ground_s2 rs s) (fun i => ((i + 1 : Nat) : Int)) (fun i => rs.getD (i + 1) 0 ≤ rs.getD i 0) (fun _ => .inl ([], 5)) (.inr ()) (rs.length - 1) (s0 := 1) (by unfold FUEL; omega) rfl
    (fun i hi hp => by
      unfold terrain_Ground_s2
      rw [if_pos (by simp only [decide_eq_true_eq]; omega), ix_getD (i := i + 1) (d := 0) rfl (by omega), Option.bind_some, w64_id (z := ((i + 1 : Nat) : Int) - 1) (by omega) (by omega), ix_getD (i := i) (d := 0) (by omega) (by omega), Option.bind_some, if_neg (by simpa using hp), w64_id (by omega) (by omega)]
      rfl)
    (fun i hi hp _ => by
      unfold terrain_Ground_s2
      rw [if_pos (by simp only [decide_eq_true_eq]; omega), ix_getD (i := i + 1) (d := 0) rfl (by omega), Option.bind_some, w64_id (z := ((i + 1 : Nat) : Int) - 1) (by omega) (by omega), ix_getD (i := i) (d := 0) (by omega) (by omega), Option.bind_some, if_pos (by simpa using hp)])
    (by
      show terrain_Ground_s2 rs ((rs.length - 1 + 1 : Nat) : Int) = _
      unfold terrain_Ground_s2
      rw [if_neg (by simp only [decide_eq_true_eq]; omega)]) with ⟨_, h⟩ | ⟨_, _, _, _, h⟩
  · exact .inr h
  · exact .inl h

theorem ground_both {a b c : Int} {W H : Nat} (hW0 : 0 < W) (hW : W ≤ 64) (hH : H ≤ 64) {f : Nat → Int} (hb : BD (H * W) f) {rs ls : List Int} (hc1 : terrain_Check a b c W H (row (H * W) f) = some 0) (hc2 : fiduciallaw48_checked a b c W H (row (H * W) f) = some 0) :
    ∃ (l : List Bool) (k : Int), l.length ≤ 1000000 ∧ terrain_Ground a b c W H (row (H * W) f) rs ls = some (l, k) ∧ fiduciallaw48_ground a b c W H (row (H * W) f) rs ls = some (l, k) := by
  have hN : H * W ≤ 4096 := Nat.le_trans (Nat.mul_le_mul hH hW) (by decide)
  unfold terrain_Ground fiduciallaw48_ground
  rw [hc1, hc2, Option.bind_some, Option.bind_some, if_neg (show ¬ ((0 : Int) != 0) = true by decide), if_neg (show ¬ ((0 : Int) != 0) = true by decide)]
  by_cases hl : rs.length = ls.length
  · rw [if_neg (show ¬ ((rs.length : Int) != (ls.length : Int)) = true by simp [hl]), if_neg (show ¬ ((rs.length : Int) != (ls.length : Int)) = true by simp [hl])]
    by_cases hk : rs.length < 1 ∨ 8 < rs.length
    · have e : (if decide ((rs.length : Int) < 1) = true then some true else some (decide (8 < (rs.length : Int)))) = some true := by
        by_cases h0 : rs.length < 1
        · rw [if_pos (by simp only [decide_eq_true_eq]; omega)]
        · rw [if_neg (by simp only [decide_eq_true_eq]; omega), decide_eq_true (by omega)]
      rw [e]
      exact ⟨[], 2, by simp, rfl, rfl⟩
    · have e : (if decide ((rs.length : Int) < 1) = true then some true else some (decide (8 < (rs.length : Int)))) = some false := by
        rw [if_neg (by simp only [decide_eq_true_eq]; omega), decide_eq_false (by omega)]
      rw [e]
      simp only [Option.bind_some]
      rw [if_neg (by decide), if_neg (by decide)]
      rcases s1both hl (by omega) with ⟨h1, h2⟩ | ⟨hg, h1, h2⟩
      · rw [h1, h2]
        exact ⟨[], 2, by simp, rfl, rfl⟩
      · rw [h1, h2]
        simp only [Option.bind_some]
        have es2 : (fun s : Int => fiduciallaw48_ground_s2 rs s) = (fun s : Int => terrain_Ground_s2 rs s) := rfl
        rw [es2]
        rcases s2cases (rs := rs) (by omega) (by omega) with h3 | h3
        · rw [h3]
          exact ⟨[], 5, by simp, rfl, rfl⟩
        · rw [h3]
          simp only [Option.bind_some]
          obtain ⟨q1, q2⟩ := s3both hN f
          rw [row_len, chk_pos (by omega), show (((H * W : Nat) : Int)).toNat = H * W by omega, q1, q2]
          simp only [Option.bind_some]
          have hr : ∀ i, i < rs.length → ∃ R : Nat, rs.getD i 0 = R ∧ R ≤ 8 ∧ R = (rs.getD i 0).toNat := fun i hi => by
            have := hg i hi
            unfold badr at this
            simp only [Bool.or_eq_false_iff, decide_eq_false_iff_not] at this
            exact ⟨(rs.getD i 0).toNat, by omega, by omega, rfl⟩
          have hlm : ∀ i, i < rs.length → 0 ≤ ls.getD i 0 ∧ ls.getD i 0 ≤ 1048576 := fun i hi => by
            have := hg i hi
            unfold badr at this
            simp only [Bool.or_eq_false_iff, decide_eq_false_iff_not] at this
            omega
          have hF := gF_bd hW0 (fun i => (rs.getD i 0).toNat) hb
          have hs5 : ∀ i, i < rs.length → _ := fun i hi => s5both hN (F := gF f W H (fun i => (rs.getD i 0).toNat) i) (O := gF f W H (fun i => (rs.getD i 0).toNat) (i + 1)) (B := gB f W H (fun i => (rs.getD i 0).toNat) (fun i => ls.getD i 0) i) (hF i) (hF (i + 1)) (fun k hk => (gF_none hW0 _ hk (i + 1)).trans (gF_none hW0 _ hk i).symm) (fun k hk hB h => by
              have h1 := gB_nz i hB
              have h2 := (gF_none hW0 (fun i => (rs.getD i 0).toNat) hk i).1 h
              rw [h2] at h1
              exact absurd h1 (by decide)) (hlm i hi) (p2 := ls) (i := (i : Int)) (ix_getD rfl (by omega) 0) (lrow (H * W) (fun k => nz (f k))) (lrow_len _ _)
          have key1 : loopM FUEL (fun s : List Bool × Int × Int × Int × Int × Int × Int × List Int => terrain_Ground_s4 rs ls s.1 s.2.1 s.2.2.1 s.2.2.2.1 s.2.2.2.2.1 s.2.2.2.2.2.1 s.2.2.2.2.2.2.1 s.2.2.2.2.2.2.2) (lrow (H * W) (fun k => nz (f k)), 0, a, b, c, (W : Int), (H : Int), row (H * W) f) = some (lrow (H * W) (gB f W H (fun i => (rs.getD i 0).toNat) (fun i => ls.getD i 0) rs.length), a, b, c, (W : Int), (H : Int), row (H * W) (gF f W H (fun i => (rs.getD i 0).toNat) rs.length)) := by
            refine loop_go (fun i => (lrow (H * W) (gB f W H (fun i => (rs.getD i 0).toNat) (fun i => ls.getD i 0) i), (i : Int), a, b, c, (W : Int), (H : Int), row (H * W) (gF f W H (fun i => (rs.getD i 0).toNat) i))) rs.length (by unfold FUEL; omega) rfl (fun i hi => ?_) ?_
            · show terrain_Ground_s4 rs ls (lrow (H * W) (gB f W H (fun i => (rs.getD i 0).toNat) (fun i => ls.getD i 0) i)) (i : Int) a b c (W : Int) (H : Int) (row (H * W) (gF f W H (fun i => (rs.getD i 0).toNat) i)) = _
              obtain ⟨R, e1, e2, e3⟩ := hr i hi
              unfold terrain_Ground_s4
              rw [if_pos (by simpa using hi), ix_getD (i := i) (d := 0) rfl hi, Option.bind_some, e1, opened1 hW0 hW hH _ e2]
              simp only [Option.bind_some]
              have hg5 := (hs5 i hi).1
              have eo : gF f W H (fun i => (rs.getD i 0).toNat) (i + 1) = opn (gF f W H (fun i => (rs.getD i 0).toNat) i) W H R := by
                simp only [gF]
                rw [← e3]
              rw [eo] at hg5
              rw [hg5, Option.bind_some, w64_id (by omega) (by omega)]
              show _ = some (Step.next (lrow (H * W) (gB f W H (fun i => (rs.getD i 0).toNat) (fun i => ls.getD i 0) (i + 1)), _, _, _, _, _, _, row (H * W) (gF f W H (fun i => (rs.getD i 0).toNat) (i + 1))))
              simp only [gB]
              rw [eo]
              rfl
            · show terrain_Ground_s4 rs ls _ (rs.length : Int) a b c (W : Int) (H : Int) _ = _
              unfold terrain_Ground_s4
              rw [if_neg (by simp)]
          have key2 : loopM FUEL (fun s : List Bool × Int × Int × Int × Int × Int × Int × List Int => fiduciallaw48_ground_s4 rs ls (lrow (H * W) (fun k => nz (f k))) s.1 s.2.1 s.2.2.1 s.2.2.2.1 s.2.2.2.2.1 s.2.2.2.2.2.1 s.2.2.2.2.2.2.1 s.2.2.2.2.2.2.2) (lrow (H * W) (fun k => nz (f k)), 0, a, b, c, (W : Int), (H : Int), row (H * W) f) = some (lrow (H * W) (gB f W H (fun i => (rs.getD i 0).toNat) (fun i => ls.getD i 0) rs.length), a, b, c, (W : Int), (H : Int), row (H * W) (gF f W H (fun i => (rs.getD i 0).toNat) rs.length)) := by
            refine loop_go (fun i => (lrow (H * W) (gB f W H (fun i => (rs.getD i 0).toNat) (fun i => ls.getD i 0) i), (i : Int), a, b, c, (W : Int), (H : Int), row (H * W) (gF f W H (fun i => (rs.getD i 0).toNat) i))) rs.length (by unfold FUEL; omega) rfl (fun i hi => ?_) ?_
            · show fiduciallaw48_ground_s4 rs ls (lrow (H * W) (fun k => nz (f k))) (lrow (H * W) (gB f W H (fun i => (rs.getD i 0).toNat) (fun i => ls.getD i 0) i)) (i : Int) a b c (W : Int) (H : Int) (row (H * W) (gF f W H (fun i => (rs.getD i 0).toNat) i)) = _
              obtain ⟨R, e1, e2, e3⟩ := hr i hi
              unfold fiduciallaw48_ground_s4
              rw [if_pos (by simpa using hi), ix_getD (i := i) (d := 0) rfl hi, Option.bind_some, e1, opened2 hW0 hW hH _ e2]
              simp only [Option.bind_some]
              have hg5 := (hs5 i hi).2
              have eo : gF f W H (fun i => (rs.getD i 0).toNat) (i + 1) = opn (gF f W H (fun i => (rs.getD i 0).toNat) i) W H R := by
                simp only [gF]
                rw [← e3]
              rw [eo] at hg5
              rw [hg5, Option.bind_some, w64_id (by omega) (by omega)]
              show _ = some (Step.next (lrow (H * W) (gB f W H (fun i => (rs.getD i 0).toNat) (fun i => ls.getD i 0) (i + 1)), _, _, _, _, _, _, row (H * W) (gF f W H (fun i => (rs.getD i 0).toNat) (i + 1))))
              simp only [gB]
              rw [eo]
              rfl
            · show fiduciallaw48_ground_s4 rs ls (lrow (H * W) (fun k => nz (f k))) _ (rs.length : Int) a b c (W : Int) (H : Int) _ = _
              unfold fiduciallaw48_ground_s4
              rw [if_neg (by simp)]
          rw [key1, key2]
          exact ⟨_, _, by rw [lrow_len]; omega, rfl, rfl⟩
  · rw [if_pos (by simp only [bne_iff_ne, ne_eq]; omega), if_pos (by simp only [bne_iff_ne, ne_eq]; omega)]
    exact ⟨[], 4, by simp, rfl, rfl⟩

theorem ground_true (a0 a1 a2 a3 a4 : Int) (z rs ls : List Int) : fiduciallaw48_TerrainGround a0 a1 a2 a3 a4 z rs ls = some true := by
  unfold fiduciallaw48_TerrainGround
  rw [known48, Option.bind_some, if_neg (by decide), few_eq, Option.bind_some]
  by_cases hl : z.length ≤ 150
  · rw [decide_eq_true (by omega : (z.length : Int) ≤ 150), if_neg (by decide)]
    by_cases h1 : 10 < rs.length
    · rw [if_pos (by simp; omega)]; rfl
    rw [if_neg (by simp; omega), Option.bind_some]
    by_cases h2 : 10 < ls.length
    · rw [if_pos (by simp; omega)]
    rw [if_neg (by simp; omega)]
    have hA := check_eq a0 a1 a2 a3 a4 z (by omega)
    have hA2 := checked_eq a0 a1 a2 a3 a4 z (by omega)
    have key : ∃ (l : List Bool) (k : Int), l.length ≤ 1000000 ∧ terrain_Ground a0 a1 a2 a3 a4 z rs ls = some (l, k) ∧ fiduciallaw48_ground a0 a1 a2 a3 a4 z rs ls = some (l, k) := by
      rcases code_cases a0 a1 a2 a3 a4 z with ⟨cA, W, H, v⟩ | cA
      · have hz := zr z
        have hbd : BD (H * W) (fun i => z.getD i 0) := fun k hk => v.at_ (by rw [v.len]; exact hk)
        rw [v.len] at hz
        rw [cA] at hA hA2
        have hW0 : 0 < W := by have := v.w2; omega
        obtain rfl := v.ew
        obtain rfl := v.eh
        have h6 := v.w64
        have h7 := v.h64
        rw [hz] at hA hA2 ⊢
        exact ground_both hW0 h6 h7 hbd hA hA2
      · refine ⟨[], code a0 a1 a2 a3 a4 z, by simp, ?_, ?_⟩
        · unfold terrain_Ground
          rw [hA, Option.bind_some, if_pos (by simpa using cA)]
        · unfold fiduciallaw48_ground
          rw [hA2, Option.bind_some, if_pos (by simpa using cA)]
    obtain ⟨l, k, hk, k1, k2⟩ := key
    rw [k1, k2]
    simp only [Option.bind_some]
    rw [if_pos (by simp), equal_bool l hk]
    rfl
  · rw [decide_eq_false (by omega : ¬ (z.length : Int) ≤ 150)]; rfl
end Go.Proofs.Ytcaeieofjchpjaa
