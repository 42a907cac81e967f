/-
  PLAIN, the top: TopSeams.
-/
import Derived.Test.YtbolefkhmfbnlaaPTopc
set_option linter.unusedSimpArgs false
set_option linter.unusedVariables false
namespace Go.Proofs.Ytbolefkhmfbnlaa
open Go.E

theorem bM_true : fiducialtop_bMirrored = some true := by kernel_rfl

theorem equal_self (xs : List Int) (h : xs.length ≤ 1000000) : slices_Equal_sint xs xs = some true := by
  unfold slices_Equal_sint
  rw [if_neg (by simp)]
  rcases eq_loop (step := fun s => slices_Equal_sint_s1 xs xs s) (fun a b => a == b) (fun a b => by simp) h rfl (fun s => rfl) with ⟨_, e⟩ | ⟨hn, _⟩
  · rw [e]; rfl
  · exact absurd rfl hn
theorem requal_self (w h m : Int) (xs : List Int) (hx : xs.length ≤ 1000000) : raster_Equal w h m xs w h m xs = some true := by
  unfold raster_Equal
  rw [if_pos (by simp), if_pos (by simp), if_pos (by simp), equal_self xs hx]
  rfl

theorem dif_CB {ga gb : Nat → Int} (ba : B16 ga) (bb : B16 gb) (W : Nat) : CB W (dif ga gb W) := fun y x _ => by
  have h1 := ba (y * W + x)
  have h2 := bb (y * W + x)
  unfold dif
  split <;> omega

theorem same_loop {N : Nat} (hN : N ≤ 4096) {f g h : Nat → Int} (hh : ∀ j, j < N → f j = g j → h j = f j) : loopM FUEL (fun s : Int => fiducialtop_TopSeams_s1 (row N f) (row N g) (row N h) s) 0 = some (.inr ()) := by
  refine loop_go (fun i => (i : Int)) (s0 := 0) N (by unfold FUEL; omega) rfl (fun i hi => ?_) ?_
  · unfold fiducialtop_TopSeams_s1
    rw [row_len, if_pos (by simpa using hi), row_ix _ _ rfl hi, Option.bind_some, row_ix _ _ rfl hi, Option.bind_some, row_ix _ _ rfl hi, w64_id (by omega) (by omega)]
    simp only [Option.bind_some]
    by_cases q : f i = g i
    · rw [if_pos (by simpa using q)]
      simp only [Option.bind_some]
      rw [if_neg (by simp [hh i hi q])]
      rfl
    · rw [if_neg (by simpa using q)]
      rfl
  · unfold fiducialtop_TopSeams_s1
    rw [row_len, if_neg (by simp)]

theorem turn_loop {W H : Nat} (hW : W ≤ 64) (hH : H ≤ 64) {c : Nat → Nat} (hc : ∀ y, c y < W) : loopM FUEL (fun s : List Int × Int => fiducialtop_TopSeams_s2 (W : Int) (row H (fun y => (c y : Int))) s.1 s.2) ([], 0) = some (row H (fun y => ((W - c y : Nat) : Int))) := by
  refine loop_go (fun i => (row i (fun y => ((W - c y : Nat) : Int)), (i : Int))) H (by unfold FUEL; omega) rfl (fun i hi => ?_) ?_
  · show fiducialtop_TopSeams_s2 (W : Int) (row H (fun y => (c y : Int))) (row i (fun y => ((W - c y : Nat) : Int))) (i : Int) = _
    have := hc i
    unfold fiducialtop_TopSeams_s2
    rw [row_len, if_pos (by simpa using hi), row_ix _ _ rfl hi, Option.bind_some, row_len, chk_pos (by omega), w64_id (z := (W : Int) - (c i : Int)) (by omega) (by omega), w64_id (by omega) (by omega), show (W : Int) - (c i : Int) = ((W - c i : Nat) : Int) by omega]
    show _ = some (Step.next (row (i + 1) (fun y => ((W - c y : Nat) : Int)), _))
    rw [row_succ]
    rfl
  · show fiducialtop_TopSeams_s2 (W : Int) (row H (fun y => (c y : Int))) (row H (fun y => ((W - c y : Nat) : Int))) (H : Int) = _
    unfold fiducialtop_TopSeams_s2
    rw [row_len, if_neg (by simp)]

theorem cg_row {H : Nat} {f : Nat → Int} {y : Nat} (hy : y < H) : cg (row H f) y = f y := by
  unfold cg
  rw [List.getD_eq_getElem?_getD, row_get _ _ hy]; rfl

theorem mirror_mos {W H : Nat} (hW0 : 0 < W) (ga gb : Nat → Int) (c : Nat → Nat) (hc : ∀ y, c y < W) : row (H * W) (mosF (mir gb W) (mir ga W) (row H (fun y => ((W - c y : Nat) : Int))) W) = row (H * W) (mir (mosF ga gb (row H (fun y => (c y : Int))) W) W) := row_congr fun j hj => by
  have hy : j / W < H := Nat.div_lt_of_lt_mul (by rw [Nat.mul_comm]; exact hj)
  have hx : j % W < W := Nat.mod_lt _ hW0
  have hcy := hc (j / W)
  obtain ⟨d1, d2⟩ := divmodW (W := W) (j := j / W) (i := W - 1 - j % W) (by omega)
  show mosF (mir gb W) (mir ga W) (row H (fun y => ((W - c y : Nat) : Int))) W j = mosF ga gb (row H (fun y => (c y : Int))) W (j / W * W + (W - 1 - j % W))
  unfold mosF
  rw [d1, d2, cg_row hy, cg_row hy]
  generalize hcc : c (j / W) = k at hcy
  generalize hxx : j % W = x at hx
  by_cases h : x < W - k
  · rw [if_pos (by omega), if_neg (by omega)]
    unfold mir
    rw [hxx]
  · rw [if_neg (by omega), if_pos (by omega)]
    unfold mir
    rw [hxx]
end Go.Proofs.Ytbolefkhmfbnlaa
