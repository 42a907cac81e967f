/-
  PLAIN, chapter 48: the laws Opens, Local and Blocks.
-/
import Derived.Test.YtcaeieofjchpjaaP48g
set_option linter.unusedSimpArgs false
set_option linter.unusedVariables false
namespace Go.Proofs.Ytcaeieofjchpjaa
open Go.E

theorem u8_w64 {p : Int} (hp : 0 ≤ p ∧ p < 256) : w64 p = p := w64_id (by omega) (by omega)
theorem u8_tmod {p : Int} (hp : 0 ≤ p ∧ p < 256) (n : Nat) (hn : 0 < n) : ∃ q : Nat, Int.tmod (w64 p) (n : Int) = (q : Int) ∧ q < n := by
  obtain ⟨a, rfl⟩ : ∃ a : Nat, p = a := ⟨p.toNat, by omega⟩
  rw [u8_w64 hp]
  exact ⟨a % n, rfl, Nat.mod_lt _ hn⟩

theorem BD.code {x0 y0 s w h : Int} {z : List Int} {N : Nat} {f : Nat → Int} (hc : code x0 y0 s w h z = 0) (hl : z.length = N) (hb : BD N f) : code x0 y0 s w h (row N f) = 0 :=
  code_same hc (by rw [row_len, hl]) (fun v hv => by
    unfold row at hv
    obtain ⟨k, hk, rfl⟩ := List.mem_map.1 hv
    exact hb k (List.mem_range.1 hk))

section
variable {a0 a1 a2 : Int} {W H : Nat} {f : Nat → Int} {R : Nat}
theorem filt_checked (hN : H * W ≤ 4096) (hc : code a0 a1 a2 W H (row (H * W) f) = 0) (hR : R ≤ 8) : terrain_checked a0 a1 a2 W H (row (H * W) f) R = some 0 := by
  unfold terrain_checked
  rw [check_eq _ _ _ _ _ _ (by rw [row_len]; omega), hc, Option.bind_some, if_neg (by decide), if_neg (by simp), decide_eq_false (by omega)]; rfl
theorem erode_val (hW0 : 0 < W) (hW : W ≤ 64) (hH : H ≤ 64) (hN : H * W ≤ 4096) (hc : code a0 a1 a2 W H (row (H * W) f) = 0) (hR : R ≤ 8) : terrain_Erode a0 a1 a2 W H (row (H * W) f) R = some (a0, a1, a2, (W : Int), (H : Int), row (H * W) (flt imin f W H R), 0) := by
  unfold terrain_Erode
  rw [filt_checked hN hc hR, Option.bind_some, if_neg (by decide), filt1 (op := imin) (p2 := fun a b => terrain_least a b) (fun _ _ => rfl) hW0 hW hH f hR]
  rfl
theorem dilate_val (hW0 : 0 < W) (hW : W ≤ 64) (hH : H ≤ 64) (hN : H * W ≤ 4096) (hc : code a0 a1 a2 W H (row (H * W) f) = 0) (hR : R ≤ 8) : terrain_Dilate a0 a1 a2 W H (row (H * W) f) R = some (a0, a1, a2, (W : Int), (H : Int), row (H * W) (flt imax f W H R), 0) := by
  unfold terrain_Dilate
  rw [filt_checked hN hc hR, Option.bind_some, if_neg (by decide), filt1 (op := imax) (p2 := fun a b => terrain_greatest a b) (fun _ _ => rfl) hW0 hW hH f hR]
  rfl
theorem open_val (hW0 : 0 < W) (hW : W ≤ 64) (hH : H ≤ 64) (hN : H * W ≤ 4096) (hc : code a0 a1 a2 W H (row (H * W) f) = 0) (hR : R ≤ 8) : terrain_Open a0 a1 a2 W H (row (H * W) f) R = some (a0, a1, a2, (W : Int), (H : Int), row (H * W) (opn f W H R), 0) := by
  unfold terrain_Open
  rw [filt_checked hN hc hR, Option.bind_some, if_neg (by decide), opened1 hW0 hW hH f hR]
  rfl
end

/-! ### Opens -/

def upf (f : Nat → Int) (more : List Int) (k : Nat) : Int := if f k = -2147483648 then -2147483648 else if k < more.length then (if 1048576 < f k + more.getD k 0 then 1048576 else f k + more.getD k 0) else f k

theorem upf_facts {N : Nat} {f : Nat → Int} {more : List Int} (hb : BD N f) (hm : ∀ v ∈ more, 0 ≤ v ∧ v < 256) : BD N (upf f more) ∧ (∀ k, k < N → (f k = -2147483648 ↔ upf f more k = -2147483648)) ∧ (∀ k, k < N → f k ≠ -2147483648 → f k ≤ upf f more k) := by
  have key : ∀ k, k < N → (f k = -2147483648 ∧ upf f more k = -2147483648) ∨ (f k ≠ -2147483648 ∧ f k ≤ upf f more k ∧ -1048576 ≤ upf f more k ∧ upf f more k ≤ 1048576) := fun k hk => by
    unfold upf
    by_cases hf : f k = -2147483648
    · rw [if_pos hf]; exact .inl ⟨hf, rfl⟩
    · right
      rw [if_neg hf]
      have hb' := hb k hk
      refine ⟨hf, ?_⟩
      by_cases hl : k < more.length
      · have hv := hm _ (List.getElem_mem hl)
        rw [if_pos hl, getD_eq hl]
        split <;> omega
      · rw [if_neg hl]; omega
  refine ⟨fun k hk => ?_, fun k hk => ?_, fun k hk hf => ?_⟩
  · rcases key k hk with h | h
    · exact .inl h.2
    · exact .inr ⟨h.2.2.1, h.2.2.2⟩
  · rcases key k hk with h | h
    · exact ⟨fun _ => h.2, fun _ => h.1⟩
    · exact ⟨fun hf => absurd hf h.1, fun hf => by omega⟩
  · rcases key k hk with h | h
    · exact absurd h.1 hf
    · exact h.2.1
theorem ngt_bd {N : Nat} {f : Nat → Int} (hb : BD N f) : BD N (ngt f) := fun k hk => by
  unfold ngt
  have := hb k hk
  split <;> omega

theorem opens_true (a0 a1 a2 a3 a4 : Int) (z : List Int) (p1 : Int) (more : List Int) (hp1 : 0 ≤ p1 ∧ p1 < 256) (hm : ∀ v ∈ more, 0 ≤ v ∧ v < 256) : fiduciallaw48_TerrainOpens a0 a1 a2 a3 a4 z p1 more = some true := by
  unfold fiduciallaw48_TerrainOpens
  rw [known48, Option.bind_some, if_neg (by decide), few_eq, Option.bind_some]
  by_cases hl : z.length ≤ 150
  rotate_left
  · rw [decide_eq_false (by omega : ¬ (z.length : Int) ≤ 150)]; rfl
  rw [decide_eq_true (by omega : (z.length : Int) ≤ 150), if_neg (by decide), checked_eq a0 a1 a2 a3 a4 z (by omega), Option.bind_some]
  rcases code_cases a0 a1 a2 a3 a4 z with ⟨cA, W, H, v⟩ | cA
  rotate_left
  · rw [show (code a0 a1 a2 a3 a4 z != 0) = true by simpa using cA]; rfl
  rw [cA, Option.bind_some, if_neg (by decide)]
  have hz := zr z
  have hbd : BD (H * W) (fun i => z.getD i 0) := fun k hk => v.at_ (by rw [v.len]; exact hk)
  have hzl := v.len
  rw [v.len] at hz
  have hW0 : 0 < W := by have := v.w2; omega
  have hN := v.n
  have h6 := v.w64
  have h7 := v.h64
  obtain rfl := v.ew
  obtain rfl := v.eh
  generalize hf : (fun i => z.getD i 0) = f at hz hbd
  have hN150 : H * W ≤ 150 := by omega
  subst hz
  obtain ⟨R, hR, hR9⟩ := u8_tmod hp1 9 (by decide)
  have hR' : Int.tmod (w64 p1) 9 = (R : Int) := hR
  obtain ⟨u1, u2, u3⟩ := upf_facts hbd hm
  have n1 := ngt_bd hbd
  have cO : code a0 a1 a2 W H (row (H * W) (opn f W H R)) = 0 := BD.code cA hzl (opn_bd hW0 hbd)
  have cU : code a0 a1 a2 W H (row (H * W) (upf f more)) = 0 := BD.code cA hzl u1
  have cN : code a0 a1 a2 W H (row (H * W) (ngt f)) = 0 := BD.code cA hzl n1
  have e1 := open_val hW0 h6 h7 hN cA (by omega : R ≤ 8)
  have e2 := open_val hW0 h6 h7 hN cO (by omega : R ≤ 8)
  have e3 := open_val hW0 h6 h7 hN cU (by omega : R ≤ 8)
  have e4 := erode_val hW0 h6 h7 hN cA (by omega : R ≤ 8)
  have e5 := dilate_val hW0 h6 h7 hN cN (by omega : R ≤ 8)
  have hoo : row (H * W) (opn (opn f W H R) W H R) = row (H * W) (opn f W H R) := row_congr fun k hk => opn_twice hW0 hk
  rw [hoo] at e2
  have hloop : loopM FUEL (fun s : List Int × List Int × Int => fiduciallaw48_TerrainOpens_s1 (row (H * W) f) more s.1 s.2.1 s.2.2) (row (H * W) f, row (H * W) f, 0) = some (row (H * W) (upf f more), row (H * W) (ngt f)) := by
    refine loop_go (fun i => (row (H * W) (mixf f (upf f more) i), row (H * W) (mixf f (ngt f) i), (i : Int))) (H * W) (by unfold FUEL; omega) ?_ (fun k hk => ?_) ?_
    · have z1 : ∀ g : Nat → Int, row (H * W) (mixf f g 0) = row (H * W) f := fun g => row_congr fun z _ => by unfold mixf; rw [if_neg (by omega)]
      rw [z1, z1]; rfl
    · show fiduciallaw48_TerrainOpens_s1 _ _ _ _ _ = _
      unfold fiduciallaw48_TerrainOpens_s1
      dsimp only
      rw [row_len, if_pos (by simp only [decide_eq_true_eq]; omega), row_ix _ _ rfl hk, Option.bind_some, w64_id (z := (k : Int) + 1) (by omega) (by omega)]
      by_cases hv : f k = -2147483648
      · rw [if_neg (by simpa using hv), Option.bind_some, mixf_same _ _ (x := k) (by unfold upf; rw [if_pos hv, hv]), mixf_same _ _ (x := k) (by unfold ngt; rw [if_pos hv, hv])]
        rfl
      · have hb := hbd k hk
        have en : w64 (0 - f k) = ngt f k := by unfold ngt; rw [if_neg hv, w64_id (by omega) (by omega)]; omega
        have hkt : ((k : Int)).toNat = k := by omega
        rw [if_pos (by simpa using hv), row_len, chk_pos (by omega), en, hkt, mixf_set _ _ hk]
        by_cases hml : k < more.length
        · have hmv := hm _ (List.getElem_mem hml)
          have em : w64 more[k] = more[k] := w64_id (by omega) (by omega)
          have es : w64 (f k + more[k]) = f k + more[k] := w64_id (by omega) (by omega)
          have eu : (if 1048576 < f k + more[k] then 1048576 else f k + more[k]) = upf f more k := by unfold upf; rw [if_neg hv, if_pos hml, getD_eq hml]
          rw [if_pos (by simp only [decide_eq_true_eq]; omega), ix_lt more k hml, Option.bind_some, row_len, chk_pos (by omega), em, es, eu, mixf_set _ _ hk]
          rfl
        · rw [if_neg (by simp only [decide_eq_true_eq]; omega), Option.bind_some, mixf_same f (upf f more) (x := k) (by unfold upf; rw [if_neg hv, if_neg hml])]
          rfl
    · show fiduciallaw48_TerrainOpens_s1 _ _ _ _ _ = _
      unfold fiduciallaw48_TerrainOpens_s1
      dsimp only
      rw [row_len, if_neg (by simp)]
      have z2 : ∀ g : Nat → Int, row (H * W) (mixf f g (H * W)) = row (H * W) g := fun g => row_congr fun z hz => by unfold mixf; rw [if_pos hz]
      rw [z2, z2]
  simp only [clone_eq (row (H * W) f) (by rw [row_len]; omega), hloop, hR', e1, e2, e3, e4, e5, Option.bind_some, row_len]
  rw [if_neg (by decide), same_self _ _ _ _ _ _ (by rw [row_len]; omega)]
  simp only [Option.bind_some, Bool.not_true, Bool.false_eq_true, if_false, bne_self_eq_false]
  rw [loop_go (s0 := 0) (step := fun s => fiduciallaw48_TerrainOpens_s2 (row (H * W) f) (row (H * W) (opn f W H R)) (row (H * W) (opn (upf f more) W H R)) (row (H * W) (flt imin f W H R)) (row (H * W) (flt imax (ngt f) W H R)) s) (fun i => (i : Int)) (H * W) (by unfold FUEL; omega) rfl (x := .inr ()) (fun k hk => by
    unfold fiduciallaw48_TerrainOpens_s2
    rw [row_len, if_pos (by simp only [decide_eq_true_eq]; omega), row_ix _ f rfl hk, Option.bind_some, row_ix _ (opn f W H R) rfl hk, row_ix _ (opn (upf f more) W H R) rfl hk, row_ix _ (flt imin f W H R) rfl hk, row_ix _ (flt imax (ngt f) W H R) rfl hk, w64_id (z := (k : Int) + 1) (by omega) (by omega)]
    simp only [Option.bind_some]
    by_cases hv : f k = -2147483648
    · have hg : ngt f k = -2147483648 := by unfold ngt; rw [if_pos hv]
      rw [if_pos (by simpa using hv), (opn_none hW0 hk).2 hv, (flt_none imin_sel hW0 hk).2 hv, (flt_none imax_sel hW0 hk).2 hg]
      rfl
    · have h1 := opn_le (r := R) hW0 hk hv
      have h2 := opn_mono (r := R) hW0 hk u2 u3 hv
      have h3 := ero_neg (r := R) hW0 hbd hk hv
      have hd := flt_bd imax_sel (r := R) hW0 n1 k hk
      have hdn : flt imax (ngt f) W H R k ≠ -2147483648 := fun h => by
        have := (flt_none imax_sel hW0 hk).1 h
        unfold ngt at this
        rw [if_neg hv] at this
        have := hbd k hk
        omega
      have e : w64 (0 - flt imax (ngt f) W H R k) = flt imin f W H R k := by rw [w64_id (by omega) (by omega), h3]; omega
      rw [if_neg (by simpa using hv), if_neg (by simp only [decide_eq_true_eq]; omega), if_neg (by simp only [decide_eq_true_eq]; omega), e]
      simp only [bne_self_eq_false, Option.bind_some, Bool.false_eq_true, if_false]
      rfl) (by
    unfold fiduciallaw48_TerrainOpens_s2
    rw [row_len, if_neg (by simp)])]
  rfl

/-! ### Local -/

instance ndDec (W k m d : Nat) : Decidable (ND W k m d) := inferInstanceAs (Decidable (_ ∧ _ ∧ _ ∧ _))

def mx (a b : Int) : Int := if a < b then b else a
theorem mx_gt {a b c d t : Int} : t < mx (mx (mx a b) c) d ↔ t < a ∨ t < b ∨ t < c ∨ t < d := by
  unfold mx
  split <;> split <;> (try split) <;> (try split) <;> omega

theorem nd_iff {W k m : Nat} : ¬ ND W k m 6 ↔ ((6 : Int) < ((k % W : Nat) : Int) - ((m % W : Nat) : Int) ∨ (6 : Int) < -(((k % W : Nat) : Int) - ((m % W : Nat) : Int)) ∨ (6 : Int) < ((k / W : Nat) : Int) - ((m / W : Nat) : Int) ∨ (6 : Int) < -(((k / W : Nat) : Int) - ((m / W : Nat) : Int))) := by
  unfold ND
  generalize k % W = a
  generalize m % W = b
  generalize k / W = c
  generalize m / W = d
  omega

theorem gB_local {W H : Nat} {f g : Nat → Int} (hW : 0 < W) {k : Nat} (hk : k < H * W) (h : Agr W H f g k 6) (rs : Nat → Nat) (ls : Nat → Int) (h0 : rs 0 = 1) (h1 : rs 1 = 2) : gB f W H rs ls 2 k = gB g W H rs ls 2 k := by
  have q1 : Agr W H (gF f W H rs 1) (gF g W H rs 1) k 4 := by
    show Agr W H (opn f W H (rs 0)) (opn g W H (rs 0)) k 4
    rw [h0]
    exact opn_agr hW h
  have q2 : Agr W H (gF f W H rs 2) (gF g W H rs 2) k 0 := by
    show Agr W H (opn (gF f W H rs 1) W H (rs 1)) (opn (gF g W H rs 1) W H (rs 1)) k 0
    rw [h1]
    exact opn_agr hW q1
  show ((nz (f k) && decide (f k - gF f W H rs 1 k ≤ ls 0)) && decide (gF f W H rs 1 k - gF f W H rs 2 k ≤ ls 1)) = ((nz (g k) && decide (g k - gF g W H rs 1 k ≤ ls 0)) && decide (gF g W H rs 1 k - gF g W H rs 2 k ≤ ls 1))
  rw [h.self hk, q1.self hk, q2.self hk]

theorem local_true (a0 a1 a2 a3 a4 : Int) (z : List Int) (p1 : Int) (other : List Int) (hp1 : 0 ≤ p1 ∧ p1 < 256) : fiduciallaw48_TerrainLocal a0 a1 a2 a3 a4 z p1 other = some true := by
  unfold fiduciallaw48_TerrainLocal
  rw [known48, Option.bind_some, if_neg (by decide), few_eq, Option.bind_some]
  by_cases hl : z.length ≤ 150
  rotate_left
  · rw [decide_eq_false (by omega : ¬ (z.length : Int) ≤ 150)]; rfl
  rw [decide_eq_true (by omega : (z.length : Int) ≤ 150), if_neg (by decide), checked_eq a0 a1 a2 a3 a4 z (by omega), Option.bind_some]
  rcases code_cases a0 a1 a2 a3 a4 z with ⟨cA, W, H, v⟩ | cA
  rotate_left
  · rw [if_pos (by simpa using cA)]; rfl
  rw [cA, if_neg (by decide)]
  by_cases ho : (150 : Int) < other.length
  · rw [decide_eq_true ho]; rfl
  rw [decide_eq_false ho, Option.bind_some, if_neg (by decide)]
  have hz := zr z
  have hbd : BD (H * W) (fun i => z.getD i 0) := fun k hk => v.at_ (by rw [v.len]; exact hk)
  have hzl := v.len
  rw [v.len] at hz
  have hW0 : 0 < W := by have := v.w2; omega
  have hH0 : 0 < H := by have := v.h2; omega
  have hN := v.n
  have h6 := v.w64
  have h7 := v.h64
  obtain rfl := v.ew
  obtain rfl := v.eh
  generalize hf : (fun i => z.getD i 0) = f at hz hbd
  have hN150 : H * W ≤ 150 := by omega
  have hN0 : 0 < H * W := Nat.mul_pos hH0 hW0
  subst hz
  obtain ⟨k, hk, hkl⟩ := u8_tmod hp1 (H * W) hN0
  rw [row_len]
  have hk' : Int.tmod (w64 p1) ((H * W : Nat) : Int) = (k : Int) := hk
  obtain ⟨ky, kx, ed, em⟩ := yx hW0 hkl hN
  rw [chk_pos (by omega)]
  -- the changed grid
  have hg : ∃ g : Nat → Int, (∀ m, m < H * W → ND W k m 6 → f m = g m) ∧ BD (H * W) g ∧ loopM FUEL (fun s : List Int × Int => fiduciallaw48_TerrainLocal_s1 W (row (H * W) f) p1 other (row (H * W) f) s.1 s.2) (row (H * W) f, 0) = some (row (H * W) g) := by
    refine ⟨fun m => if decide (¬ ND W k m 6 ∧ m < other.length) = true then Int.tmod (other.getD m 0) 1000 else f m, fun m hm hn => ?_, fun m hm => ?_, ?_⟩
    · dsimp only
      rw [if_neg (by simp [hn])]
    · dsimp only
      split
      · right
        have h1 := Int.tmod_lt_of_pos (other.getD m 0) (by decide : (0 : Int) < 1000)
        have h2 := Int.lt_tmod_of_pos (other.getD m 0) (by decide : (0 : Int) < 1000)
        omega
      · exact hbd m hm
    · refine setrow4 hN (fun m hm => ?_) (fun l => ?_)
      · show fiduciallaw48_TerrainLocal_s1 _ _ _ _ _ _ _ = _
        unfold fiduciallaw48_TerrainLocal_s1
        dsimp only
        obtain ⟨my, mxx, md, mm⟩ := yx hW0 hm hN
        rw [row_len, if_pos (by simp only [decide_eq_true_eq]; omega), chk_pos (by omega), chk_pos (by omega), chk_pos (by omega), chk_pos (by omega)]
        simp only [hk', ed, em, md, mm]
        have ea : w64 (((k % W : Nat) : Int) - ((m % W : Nat) : Int)) = ((k % W : Nat) : Int) - ((m % W : Nat) : Int) := w64_id (by omega) (by omega)
        have eb : w64 (((k / W : Nat) : Int) - ((m / W : Nat) : Int)) = ((k / W : Nat) : Int) - ((m / W : Nat) : Int) := by
          generalize k / W = a at *
          generalize m / W = b at *
          exact w64_id (by omega) (by omega)
        have ec : w64 (0 - (((k % W : Nat) : Int) - ((m % W : Nat) : Int))) = -(((k % W : Nat) : Int) - ((m % W : Nat) : Int)) := by rw [w64_id (by omega) (by omega)]; omega
        have ee : w64 (0 - (((k / W : Nat) : Int) - ((m / W : Nat) : Int))) = -(((k / W : Nat) : Int) - ((m / W : Nat) : Int)) := by
          generalize k / W = a at *
          generalize m / W = b at *
          rw [w64_id (by omega) (by omega)]; omega
        rw [ea, eb, ec, ee]
        have key : (if decide (6 < mx (mx (mx (((k % W : Nat) : Int) - ((m % W : Nat) : Int)) (-(((k % W : Nat) : Int) - ((m % W : Nat) : Int)))) (((k / W : Nat) : Int) - ((m / W : Nat) : Int))) (-(((k / W : Nat) : Int) - ((m / W : Nat) : Int)))) = true then some (decide ((m : Int) < (other.length : Int))) else some false) = some (decide (¬ ND W k m 6 ∧ m < other.length)) := by
          by_cases hn : ND W k m 6
          · rw [if_neg (by rw [decide_eq_true_eq, mx_gt, ← nd_iff]; exact fun h => h hn), decide_eq_false (fun h => h.1 hn)]
          · rw [if_pos (by rw [decide_eq_true_eq, mx_gt, ← nd_iff]; exact hn)]
            congr 1
            by_cases hl : m < other.length
            · rw [decide_eq_true (by omega), decide_eq_true ⟨hn, hl⟩]
            · rw [decide_eq_false (by omega), decide_eq_false (fun h => hl h.2)]
        unfold mx at key
        rw [key, Option.bind_some, w64_id (z := (m : Int) + 1) (by omega) (by omega)]
        by_cases hc : ¬ ND W k m 6 ∧ m < other.length
        · rw [decide_eq_true hc, if_pos rfl, ix_getD (i := m) rfl hc.2 0, Option.bind_some, row_len, chk_pos (by omega), Option.bind_some, show ((m : Int)).toNat = m by omega]
          have e : Int.tmod (other.getD m 0) 1000 = (fun m => if decide (¬ ND W k m 6 ∧ m < other.length) = true then Int.tmod (other.getD m 0) 1000 else f m) m := by
            dsimp only; rw [if_pos (decide_eq_true hc)]
          rw [e, mixf_set _ _ hm]
          rfl
        · rw [decide_eq_false hc, if_neg (by decide), Option.bind_some, mixf_same _ _ (x := m) (if_neg (by rw [decide_eq_true_eq]; exact hc))]
          rfl
      · show fiduciallaw48_TerrainLocal_s1 _ _ _ _ _ _ _ = _
        unfold fiduciallaw48_TerrainLocal_s1
        dsimp only
        rw [row_len, if_neg (by simp)]
  obtain ⟨g, g1, g2, g3⟩ := hg
  have cG : code a0 a1 a2 W H (row (H * W) g) = 0 := BD.code cA hzl g2
  have cf : terrain_Check a0 a1 a2 W H (row (H * W) f) = some 0 := by rw [check_eq _ _ _ _ _ _ (by rw [row_len]; omega), cA]
  have cg : terrain_Check a0 a1 a2 W H (row (H * W) g) = some 0 := by rw [check_eq _ _ _ _ _ _ (by rw [row_len]; omega), cG]
  have hgood : ∀ i, i < ([1, 2] : List Int).length → badr [1, 2] [4, 9] i = false := fun i hi => by
    rcases (show i = 0 ∨ i = 1 by simp at hi; omega) with rfl | rfl <;> decide
  have hinc : ∀ i, i + 1 < ([1, 2] : List Int).length → ([1, 2] : List Int).getD i 0 < ([1, 2] : List Int).getD (i + 1) 0 := fun i hi => by
    obtain rfl : i = 0 := by simp at hi; omega
    decide
  have v1 := ground_val hW0 h6 h7 hbd (rs := [1, 2]) (ls := [4, 9]) cf rfl (by decide) (by decide) hgood hinc
  have v2 := ground_val hW0 h6 h7 g2 (rs := [1, 2]) (ls := [4, 9]) cg rfl (by decide) (by decide) hgood hinc
  simp only [clone_eq (row (H * W) f) (by rw [row_len]; omega), g3, v1, v2, hk', Option.bind_some, lrow_len]
  rw [if_pos (by decide), if_pos (by decide), if_pos (by simp), if_pos (by simp), lrow_ix _ _ rfl hkl, Option.bind_some, lrow_ix _ _ rfl hkl, Option.bind_some]
  have := gB_local hW0 hkl g1 (fun i => (([1, 2] : List Int).getD i 0).toNat) (fun i => ([4, 9] : List Int).getD i 0) rfl rfl
  show some (gB f W H _ _ 2 k == gB g W H _ _ 2 k) = some true
  rw [this]
  simp

/-! ### Blocks -/

theorem rep_row (n : Nat) (v : Int) : List.replicate n v = row n (fun _ => v) := by
  unfold row
  apply List.ext_getElem?
  intro i
  by_cases hi : i < n
  · simp [hi, List.getElem?_replicate]
  · rw [List.getElem?_eq_none (by simp; omega), List.getElem?_eq_none (by simp; omega)]
theorem code20 : code 0 0 10 ((20 : Nat) : Int) ((20 : Nat) : Int) (row (20 * 20) (fun _ => 0)) = 0 := by
  unfold code
  have hg : geo 0 0 10 ((20 : Nat) : Int) ((20 : Nat) : Int) = true := by decide
  have ha : (row (20 * 20) (fun _ => 0)).any badz = false := by
    rw [List.any_eq_false]
    intro v hv
    unfold row at hv
    obtain ⟨k, _, rfl⟩ := List.mem_map.1 hv
    decide
  rw [if_pos hg, row_len, if_pos (by decide), ha]
  rfl
def inB (l w t h k : Nat) : Bool := decide (l ≤ k % 20 ∧ k % 20 < l + w ∧ t ≤ k / 20 ∧ k / 20 < t + h)
theorem inB_eq {l w t h k : Nat} (hl : l + w ≤ 19) (ht : t + h ≤ 19) (hk : k < 400) : fiduciallaw48_TerrainBlocks_c1 (k : Int) (l : Int) (w : Int) (t : Int) (h : Int) = some (inB l w t h k) := by
  unfold fiduciallaw48_TerrainBlocks_c1
  have e1 : Int.tmod (k : Int) 20 = ((k % 20 : Nat) : Int) := rfl
  have e2 : w64 (Int.tdiv (k : Int) 20) = ((k / 20 : Nat) : Int) := by rw [Int.tdiv_eq_ediv_of_nonneg (by omega), w64_id (by omega) (by omega)]; omega
  have e3 : w64 ((l : Int) + (w : Int)) = ((l + w : Nat) : Int) := by rw [w64_id (by omega) (by omega)]; rfl
  have e4 : w64 ((t : Int) + (h : Int)) = ((t + h : Nat) : Int) := by rw [w64_id (by omega) (by omega)]; rfl
  rw [e1, e2, e3, e4]
  unfold inB
  by_cases h1 : l ≤ k % 20
  · rw [if_pos (decide_eq_true (by omega))]
    by_cases h2 : k % 20 < l + w
    · rw [if_pos (decide_eq_true (by omega))]
      by_cases h3 : t ≤ k / 20
      · rw [if_pos (decide_eq_true (by omega))]
        by_cases h4 : k / 20 < t + h
        · rw [decide_eq_true (by omega), decide_eq_true ⟨h1, h2, h3, h4⟩]
        · rw [decide_eq_false (by omega), decide_eq_false (fun q => h4 q.2.2.2)]
      · rw [if_neg (by rw [decide_eq_true_eq]; omega), decide_eq_false (fun q => h3 q.2.2.1)]
    · rw [if_neg (by rw [decide_eq_true_eq]; omega), decide_eq_false (fun q => h2 q.2.1)]
  · rw [if_neg (by rw [decide_eq_true_eq]; omega), decide_eq_false (fun q => h1 q.1)]

def blk (l w t h : Nat) (z rise : Int) (k : Nat) : Int := if inB l w t h k = true then z + rise else z

theorem blk_opn {l w t h R : Nat} {z rise : Int} (hl1 : 1 ≤ l) (hl : l + w ≤ 19) (hw : w ≤ 2 * R) (hz : -32768 ≤ z ∧ z < 32768) (hr : 0 < rise ∧ rise ≤ 600) {k : Nat} (hk : k < 20 * 20) : opn (blk l w t h z rise) 20 20 R k = z := by
  have hge : ∀ m, z ≤ blk l w t h z rise m ∧ blk l w t h z rise m ≠ -2147483648 := fun m => by unfold blk; split <;> omega
  have hero : ∀ m, m < 20 * 20 → flt imin (blk l w t h z rise) 20 20 R m = z := fun m hm => by
    apply Int.le_antisymm
    · obtain ⟨c, c1, c2, c3, c4⟩ : ∃ c, c < 20 ∧ (c < l ∨ l + w ≤ c) ∧ m % 20 ≤ c + R ∧ c ≤ m % 20 + R := by
        by_cases h1 : m % 20 < l
        · exact ⟨m % 20, by omega, .inl h1, by omega, by omega⟩
        · by_cases h2 : l + w ≤ m % 20
          · exact ⟨m % 20, by omega, .inr h2, by omega, by omega⟩
          · by_cases h3 : m % 20 ≤ l - 1 + R
            · exact ⟨l - 1, by omega, .inl (by omega), by omega, by omega⟩
            · exact ⟨l + w, by omega, .inr (by omega), by omega, by omega⟩
      obtain ⟨e1, e2⟩ := cell_mod (W := 20) (j := m / 20) c1
      have hy : m / 20 < 20 := by omega
      have hn : m / 20 * 20 + c < 20 * 20 := by omega
      have := ero_le (f := blk l w t h z rise) (W := 20) (H := 20) (r := R) (by decide) hm (hge m).2 hn ⟨by rw [e1]; exact c3, by rw [e1]; exact c4, by rw [e2]; omega, by rw [e2]; omega⟩ (hge _).2
      have hb : blk l w t h z rise (m / 20 * 20 + c) = z := by
        unfold blk inB
        rw [e1, if_neg (by rw [decide_eq_true_eq]; omega)]
      rw [hb] at this
      exact this
    · obtain ⟨n, n1, n2, n3, n4⟩ := flt_at (f := blk l w t h z rise) (W := 20) (H := 20) (r := R) imin_sel (by decide) hm (hge m).2
      rw [n4]
      exact (hge n).1
  obtain ⟨n, n1, n2, n3, n4⟩ := flt_at (f := flt imin (blk l w t h z rise) 20 20 R) (W := 20) (H := 20) (r := R) imax_sel (by decide) hk (by rw [hero k hk]; omega)
  show flt imax (flt imin (blk l w t h z rise) 20 20 R) 20 20 R k = z
  rw [n4, hero n n1]

theorem blocks_true (p0 p1 p2 p3 p4 p5 z lim : Int) (h0 : 0 ≤ p0 ∧ p0 < 256) (h1 : 0 ≤ p1 ∧ p1 < 256) (h2 : 0 ≤ p2 ∧ p2 < 256) (h3 : 0 ≤ p3 ∧ p3 < 256) (h4 : 0 ≤ p4 ∧ p4 < 256) (h5 : 0 ≤ p5 ∧ p5 < 256) (hz : -32768 ≤ z ∧ z < 32768) (hlim : 0 ≤ lim ∧ lim < 256) :
    fiduciallaw48_TerrainBlocks p0 p1 p2 p3 p4 p5 z lim = some true := by
  unfold fiduciallaw48_TerrainBlocks
  rw [known48, Option.bind_some, if_neg (by decide)]
  obtain ⟨r, hr, hr3⟩ := u8_tmod h5 3 (by decide)
  have hr' : Int.tmod (w64 p5) 3 = (r : Int) := hr
  have eR : w64 (1 + (r : Int)) = ((r + 1 : Nat) : Int) := by rw [w64_id (by omega) (by omega)]; omega
  have e2R : w64 (2 * ((r + 1 : Nat) : Int)) = ((2 * (r + 1) : Nat) : Int) := by rw [w64_id (by omega) (by omega)]; omega
  obtain ⟨w, hw, hw2⟩ := u8_tmod h2 (2 * (r + 1)) (by omega)
  have hw' : Int.tmod (w64 p2) ((2 * (r + 1) : Nat) : Int) = (w : Int) := hw
  have ew : w64 (1 + (w : Int)) = ((w + 1 : Nat) : Int) := by rw [w64_id (by omega) (by omega)]; omega
  obtain ⟨h, hh, hh2⟩ := u8_tmod h3 12 (by decide)
  have hh' : Int.tmod (w64 p3) 12 = (h : Int) := hh
  have eh : w64 (1 + (h : Int)) = ((h + 1 : Nat) : Int) := by rw [w64_id (by omega) (by omega)]; omega
  have ew1 : w64 (20 - ((w + 1 : Nat) : Int)) = ((19 - w : Nat) : Int) := by rw [w64_id (by omega) (by omega)]; omega
  have ew2 : w64 (((19 - w : Nat) : Int) - 1) = ((18 - w : Nat) : Int) := by rw [w64_id (by omega) (by omega)]; omega
  have eh1 : w64 (20 - ((h + 1 : Nat) : Int)) = ((19 - h : Nat) : Int) := by rw [w64_id (by omega) (by omega)]; omega
  have eh2 : w64 (((19 - h : Nat) : Int) - 1) = ((18 - h : Nat) : Int) := by rw [w64_id (by omega) (by omega)]; omega
  obtain ⟨l, hl, hl2⟩ := u8_tmod h0 (18 - w) (by omega)
  have hl' : Int.tmod (w64 p0) ((18 - w : Nat) : Int) = (l : Int) := hl
  have el : w64 (1 + (l : Int)) = ((l + 1 : Nat) : Int) := by rw [w64_id (by omega) (by omega)]; omega
  obtain ⟨t, ht, ht2⟩ := u8_tmod h1 (18 - h) (by omega)
  have ht' : Int.tmod (w64 p1) ((18 - h : Nat) : Int) = (t : Int) := ht
  have et : w64 (1 + (t : Int)) = ((t + 1 : Nat) : Int) := by rw [w64_id (by omega) (by omega)]; omega
  have ez : w64 z = z := w64_id (by omega) (by omega)
  have elim : w64 lim = lim := u8_w64 hlim
  have ep4 : w64 p4 = p4 := u8_w64 h4
  have er1 : w64 (lim + 1) = lim + 1 := w64_id (by omega) (by omega)
  have er2 : w64 (lim + 1 + p4) = lim + 1 + p4 := w64_id (by omega) (by omega)
  have er3 : w64 (z + (lim + 1 + p4)) = z + (lim + 1 + p4) := w64_id (by omega) (by omega)
  simp only [hr', eR, e2R, hw', ew, hh', eh]
  rw [chk_pos (by omega)]
  simp only [Option.bind_some, ew1, ew2, eh1, eh2, hl', ht', el, et]
  rw [chk_pos (by omega), chk_pos (by omega)]
  simp only [Option.bind_some]
  rw [chk_pos (by decide)]
  have hrep : List.replicate 400 (0 : Int) = row 400 (fun _ => 0) := rep_row 400 0
  have hloop : loopM FUEL (fun s : List Int × Int => fiduciallaw48_TerrainBlocks_s1 p4 z lim ((w + 1 : Nat) : Int) ((h + 1 : Nat) : Int) ((l + 1 : Nat) : Int) ((t + 1 : Nat) : Int) s.1 s.2) (List.replicate 400 0, 0) = some (row 400 (blk (l + 1) (w + 1) (t + 1) (h + 1) z (lim + 1 + p4))) := by
    rw [hrep]
    refine setrow4 (by decide) (fun m hm => ?_) (fun q => ?_)
    · show fiduciallaw48_TerrainBlocks_s1 _ _ _ _ _ _ _ _ _ = _
      unfold fiduciallaw48_TerrainBlocks_s1
      dsimp only
      rw [List.length_replicate, if_pos (by simp only [decide_eq_true_eq]; omega), row_len, chk_pos (by omega), inB_eq (by omega) (by omega) hm, Option.bind_some, show ((m : Int)).toNat = m by omega, ez, elim, ep4, er1, er2, w64_id (z := (m : Int) + 1) (by omega) (by omega)]
      cases hb : inB (l + 1) (w + 1) (t + 1) (h + 1) m with
      | true =>
        have hget : ((row 400 (mixf (fun _ => 0) (blk (l + 1) (w + 1) (t + 1) (h + 1) z (lim + 1 + p4)) m)).set m z)[m]? = some z := List.getElem?_set_self (by rw [row_len]; exact hm)
        have e : z + (lim + 1 + p4) = blk (l + 1) (w + 1) (t + 1) (h + 1) z (lim + 1 + p4) m := by unfold blk; rw [if_pos hb]
        rw [if_pos rfl, ix_get rfl hget, Option.bind_some, List.length_set, row_len, chk_pos (by omega), List.set_set, er3, Option.bind_some, e, mixf_set _ _ hm]
        rfl
      | false =>
        have e : z = blk (l + 1) (w + 1) (t + 1) (h + 1) z (lim + 1 + p4) m := by unfold blk; rw [if_neg (by rw [hb]; decide)]
        have e2 : (row 400 (mixf (fun _ => 0) (blk (l + 1) (w + 1) (t + 1) (h + 1) z (lim + 1 + p4)) m)).set m z = row 400 (mixf (fun _ => 0) (blk (l + 1) (w + 1) (t + 1) (h + 1) z (lim + 1 + p4)) (m + 1)) := by
          have := mixf_set (fun _ => 0) (blk (l + 1) (w + 1) (t + 1) (h + 1) z (lim + 1 + p4)) hm
          rw [← e] at this
          exact this
        rw [if_neg (by decide), Option.bind_some, e2]
        rfl
    · show fiduciallaw48_TerrainBlocks_s1 _ _ _ _ _ _ _ _ _ = _
      unfold fiduciallaw48_TerrainBlocks_s1
      dsimp only
      rw [List.length_replicate, if_neg (by simp)]
  rw [hloop, Option.bind_some, elim]
  have hbd : BD (20 * 20) (blk (l + 1) (w + 1) (t + 1) (h + 1) z (lim + 1 + p4)) := fun k _ => by
    right
    unfold blk
    split <;> omega
  have hck : terrain_Check 0 0 10 ((20 : Nat) : Int) ((20 : Nat) : Int) (row (20 * 20) (blk (l + 1) (w + 1) (t + 1) (h + 1) z (lim + 1 + p4))) = some 0 := by
    rw [check_eq _ _ _ _ _ _ (by rw [row_len]; decide)]
    exact congrArg some (BD.code (N := 20 * 20) code20 (row_len _ _) hbd)
  have hgv := ground_val (a := 0) (b := 0) (c := 10) (W := 20) (H := 20) (by decide) (by decide) (by decide) hbd (rs := [((r + 1 : Nat) : Int)]) (ls := [lim]) hck rfl (Nat.le_refl 1) (by show 1 ≤ 8; decide) (fun i hi => by
    obtain rfl : i = 0 := by simpa using hi
    unfold badr
    simp only [List.getD_cons_zero, Bool.or_eq_false_iff, decide_eq_false_iff_not]
    omega) (fun i hi => by simp at hi)
  have hgv' : terrain_Ground 0 0 10 20 20 (row 400 (blk (l + 1) (w + 1) (t + 1) (h + 1) z (lim + 1 + p4))) [((r + 1 : Nat) : Int)] [lim] = _ := hgv
  rw [hgv', Option.bind_some]
  dsimp only
  rw [if_neg (by decide), lrow_len, Option.bind_some, if_neg (by decide)]
  have hval : ∀ k, k < 20 * 20 → gB (blk (l + 1) (w + 1) (t + 1) (h + 1) z (lim + 1 + p4)) 20 20 (fun i => (([((r + 1 : Nat) : Int)] : List Int).getD i 0).toNat) (fun i => ([lim] : List Int).getD i 0) ([((r + 1 : Nat) : Int)] : List Int).length k = !(inB (l + 1) (w + 1) (t + 1) (h + 1) k) := fun k hk => by
    have ho := blk_opn (l := l + 1) (w := w + 1) (t := t + 1) (h := h + 1) (R := r + 1) (z := z) (rise := lim + 1 + p4) (by omega) (by omega) (by omega) hz (by omega) hk
    show (nz (blk (l + 1) (w + 1) (t + 1) (h + 1) z (lim + 1 + p4) k) && decide (blk (l + 1) (w + 1) (t + 1) (h + 1) z (lim + 1 + p4) k - opn (blk (l + 1) (w + 1) (t + 1) (h + 1) z (lim + 1 + p4)) 20 20 ((r + 1 : Nat) : Int).toNat k ≤ lim)) = _
    rw [show (((r + 1 : Nat) : Int)).toNat = r + 1 by omega, ho]
    have hn : nz (blk (l + 1) (w + 1) (t + 1) (h + 1) z (lim + 1 + p4) k) = true := nz_iff.2 (by unfold blk; split <;> omega)
    rw [hn, Bool.true_and]
    unfold blk
    cases hb : inB (l + 1) (w + 1) (t + 1) (h + 1) k with
    | true => rw [if_pos rfl]; exact decide_eq_false (by omega)
    | false => rw [if_neg (by decide)]; exact decide_eq_true (by omega)
  rw [loop_go (s0 := 0) (step := fun s => fiduciallaw48_TerrainBlocks_s2 ((w + 1 : Nat) : Int) ((h + 1 : Nat) : Int) ((l + 1 : Nat) : Int) ((t + 1 : Nat) : Int) (lrow (20 * 20) (gB (blk (l + 1) (w + 1) (t + 1) (h + 1) z (lim + 1 + p4)) 20 20 (fun i => (([((r + 1 : Nat) : Int)] : List Int).getD i 0).toNat) (fun i => ([lim] : List Int).getD i 0) ([((r + 1 : Nat) : Int)] : List Int).length)) s) (fun i => (i : Int)) 400 (by unfold FUEL; omega) rfl (x := .inr ()) (fun k hk => by
    unfold fiduciallaw48_TerrainBlocks_s2
    rw [lrow_len, if_pos (by simp only [decide_eq_true_eq]; omega), lrow_ix _ _ rfl hk, Option.bind_some, inB_eq (by omega) (by omega) hk, Option.bind_some, hval k hk, if_neg (by cases inB (l + 1) (w + 1) (t + 1) (h + 1) k <;> decide), w64_id (by omega) (by omega)]
    rfl) (by
    unfold fiduciallaw48_TerrainBlocks_s2
    rw [lrow_len, if_neg (by decide)])]
  rfl

end Go.Proofs.Ytcaeieofjchpjaa
