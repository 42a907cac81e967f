import Derived.Test.YtomlpofoaokmdaaEng0
import GoSem.Core.View
set_option linter.unusedVariables false
namespace Go.Proofs.Ytomlpofoaokmdaa
open Go.E

/-! slices_IndexFunc_sint -/
def slices_IndexFunc_sint_s1 (p0 : List Int) (p1 : Int → Option Bool) (s_1 : Int) : Option (Step Int (Int ⊕ Unit)) :=
  (if (decide (s_1 < (p0.length : Int))) = true then (ix p0 s_1).bind fun v_2 => (p1 v_2).bind fun y_3 => (if y_3 = true then some (.done (.inl s_1)) else some (.next (w64 (s_1 + 1)))) else some (.done (.inr ())))
def slices_IndexFunc_sint (p0 : List Int) (p1 : Int → Option Bool) : Option Int :=
  (loopM FUEL (fun (s : Int) => slices_IndexFunc_sint_s1 p0 p1 s) 0).bind fun | .inl r => some r | .inr _ => some (-1)
/-! slices_ContainsFunc_sint -/
def slices_ContainsFunc_sint (p0 : List Int) (p1 : Int → Option Bool) : Option Bool :=
  (slices_IndexFunc_sint p0 p1).bind fun y_1 => some (decide (0 ≤ y_1))
/-! seam_Check_c1 -/
def seam_Check_c1 (p0 : Int) : Option Bool :=
  (if (decide (p0 < 0)) = true then some true else some (decide (1048576 < p0)))
/-! seam_Check -/
def seam_Check_s1 (p0 : List (List Int)) (s_2 : Int) : Option (Step Int (Int ⊕ Unit)) :=
  (if (decide (s_2 < (p0.length : Int))) = true then (ix p0 s_2).bind fun v_3 => (ix p0 (0 : Int)).bind fun v_4 => (if (((v_3).length : Int) != ((v_4).length : Int)) = true then some (.done (.inl 4)) else (slices_ContainsFunc_sint v_3 (fun (z_5 : Int) => seam_Check_c1 z_5)).bind fun y_6 => (if y_6 = true then some (.done (.inl 2)) else some (.next (w64 (s_2 + 1))))) else some (.done (.inr ())))
def seam_Check (p0 : List (List Int)) : Option Int :=
  ((if (decide ((p0.length : Int) < 1)) = true then some true else (if (decide (64 < (p0.length : Int))) = true then some true else (ix p0 (0 : Int)).bind fun v_7 => (if (decide (((v_7).length : Int) < 1)) = true then some true else (ix p0 (0 : Int)).bind fun v_8 => some (decide (64 < ((v_8).length : Int))))))).bind fun s_1 => (if s_1 = true then some 3 else (loopM FUEL (fun (s : Int) => seam_Check_s1 p0 s) 0).bind fun | .inl r => some r | .inr _ => some 0)
/-! seam_near -/
def seam_near (p0 : Int) (p1 : Int) : Option (Int × Int) :=
  some ((if 0 < (w64 (p0 - 1)) then (w64 (p0 - 1)) else 0), (if (w64 (p0 + 1)) < (w64 (p1 - 1)) then (w64 (p0 + 1)) else (w64 (p1 - 1))))
/-! slices_Min_sint -/
def slices_Min_sint_s1 (p0 : List Int) (s_2 : Int) (s_3 : Int) : Option (Step (Int × Int) Int) :=
  (if (decide (s_3 < (p0.length : Int))) = true then (ix p0 s_3).bind fun v_5 => some (.next ((if v_5 < s_2 then v_5 else s_2), w64 (s_3 + 1))) else some (.done s_2))
def slices_Min_sint (p0 : List Int) : Option Int :=
  (if (decide ((p0.length : Int) < 1)) = true then none else (ix p0 (0 : Int)).bind fun v_1 => (loopM FUEL (fun (s : Int × Int) => slices_Min_sint_s1 p0 s.1 s.2) (v_1, 1)).bind fun s_4 => some s_4)
/-! seam_least -/
def seam_least (p0 : List Int) (p1 : Int) (p2 : Int) : Option Int :=
  chk (0 ≤ (p1 : Int) ∧ (p1 : Int) ≤ (w64 (p2 + 1) : Int) ∧ (w64 (p2 + 1) : Int) ≤ (p0.length : Int)) ((slices_Min_sint ((p0.take (w64 (p2 + 1) : Int).toNat).drop (p1 : Int).toNat)).bind fun y_1 => some y_1)
/-! seam_upward -/
def seam_upward_s2 (p0 : List (List Int)) (p1 : Int → Int → Option Bool) (s_2 : Int) (v_4 : List Int) (l_5 : List (List Int)) (s_6 : Int) : Option (Step (List (List Int) × Int) (List (List Int))) :=
  (if (decide (s_6 < ((v_4).length : Int))) = true then (ix v_4 s_6).bind fun v_8 => (p1 s_2 s_6).bind fun y_9 => ((if (!y_9) = true then some 1099511627776 else some v_8)).bind fun s_10 => ((if (decide ((w64 (s_2 + 1)) < (p0.length : Int))) = true then (ix p0 s_2).bind fun v_13 => (seam_near s_6 ((v_13).length : Int)).bind fun (y_14, y_15) => (ix l_5 (w64 (s_2 + 1))).bind fun v_16 => (seam_least v_16 y_14 y_15).bind fun y_17 => some (w64 (s_10 + y_17)) else some s_10)).bind fun s_11 => (ix l_5 s_2).bind fun v_12 => chk (v_12.length + 1 ≤ 1099511627776) (chk (0 ≤ s_2 ∧ s_2 < (l_5.length : Int)) (some (.next ((l_5.set s_2.toNat (v_12 ++ ([s_11] : List Int))), w64 (s_6 + 1))))) else some (.done l_5))
def seam_upward_s1 (p0 : List (List Int)) (p1 : Int → Int → Option Bool) (l_1 : List (List Int)) (s_2 : Int) : Option (Step (List (List Int) × Int) (List (List Int))) :=
  (if (decide (0 ≤ s_2)) = true then (ix p0 s_2).bind fun v_4 => (loopM FUEL (fun (s : List (List Int) × Int) => seam_upward_s2 p0 p1 s_2 v_4 s.1 s.2) (l_1, 0)).bind fun l_7 => some (.next (l_7, w64 (s_2 - 1))) else some (.done l_1))
def seam_upward (p0 : List (List Int)) (p1 : Int → Int → Option Bool) : Option (List (List Int)) :=
  chk ((0 : Int) ≤ (p0.length : Int) ∧ (p0.length : Int) ≤ (p0.length : Int) ∧ (p0.length : Int) ≤ 1099511627776) ((loopM FUEL (fun (s : List (List Int) × Int) => seam_upward_s1 p0 p1 s.1 s.2) ((List.replicate ((p0.length : Int) : Int).toNat ([] : List Int)), w64 ((p0.length : Int) - 1))).bind fun l_3 => some l_3)
/-! seam_first -/
def seam_first_s2 (s_5 : Int) (v_11 : List Int) (s_12 : Int) (s_13 : Int) : Option (Step (Int × Int) Int) :=
  (if (decide (s_12 ≤ s_5)) = true then (ix v_11 s_12).bind fun v_17 => (ix v_11 s_13).bind fun v_18 => ((if (decide (v_17 < v_18)) = true then some s_12 else some s_13)).bind fun s_19 => some (.next (w64 (s_12 + 1), s_19)) else some (.done s_13))
def seam_first_s1 (y_1 : List (List Int)) (l_3 : List Int) (s_4 : Int) (s_5 : Int) (s_6 : Int) : Option (Step (List Int × Int × Int × Int) (List Int)) :=
  (if (decide (s_6 < ((y_1).length : Int))) = true then (ix y_1 s_6).bind fun v_11 => (loopM FUEL (fun (s : Int × Int) => seam_first_s2 s_5 v_11 s.1 s.2) (s_4, s_4)).bind fun s_14 => chk (l_3.length + 1 ≤ 1099511627776) ((seam_near s_14 ((v_11).length : Int)).bind fun (y_15, y_16) => some (.next ((l_3 ++ ([s_14] : List Int)), y_15, y_16, w64 (s_6 + 1)))) else some (.done l_3))
def seam_first (p0 : List (List Int)) (p1 : Int → Int → Option Bool) : Option (List Int × Int) :=
  (seam_upward p0 p1).bind fun y_1 => (ix p0 (0 : Int)).bind fun v_2 => (loopM FUEL (fun (s : List Int × Int × Int × Int) => seam_first_s1 y_1 s.1 s.2.1 s.2.2.1 s.2.2.2) (([] : List Int), 0, w64 (((v_2).length : Int) - 1), 0)).bind fun l_7 => (ix y_1 (0 : Int)).bind fun v_8 => (ix l_7 (0 : Int)).bind fun v_9 => (ix v_8 v_9).bind fun v_10 => some (l_7, v_10)
/-! seam_Find_c1 -/
def seam_Find_c1 (p0 : Int) (p1 : Int) : Option Bool :=
  some true
/-! slices_Clone_sint -/
def slices_Clone_sint (p0 : List Int) : Option (List Int) :=
  chk (([] : List Int).length + p0.length ≤ 1099511627776) (some (([] : List Int) ++ p0))
/-! seam_downward -/
def seam_downward_s2 (p0 : List (List Int)) (l_3 : List (List Int)) (s_4 : Int) (v_7 : List Int) (l_8 : List Int) (s_9 : Int) : Option (Step (List Int × Int) (List Int)) :=
  (if (decide (s_9 < ((v_7).length : Int))) = true then (ix v_7 s_9).bind fun v_11 => (ix p0 s_4).bind fun v_12 => (seam_near s_9 ((v_12).length : Int)).bind fun (y_13, y_14) => (ix l_3 (w64 (s_4 - 1))).bind fun v_15 => (seam_least v_15 y_13 y_14).bind fun y_16 => chk (l_8.length + 1 ≤ 1099511627776) (some (.next ((l_8 ++ ([w64 (v_11 + y_16)] : List Int)), w64 (s_9 + 1)))) else some (.done l_8))
def seam_downward_s1 (p0 : List (List Int)) (l_3 : List (List Int)) (s_4 : Int) : Option (Step (List (List Int) × Int) (List (List Int))) :=
  (if (decide (s_4 < (p0.length : Int))) = true then (ix p0 s_4).bind fun v_6 => chk ((0 : Int) ≤ (0 : Int) ∧ (0 : Int) ≤ ((v_6).length : Int) ∧ ((v_6).length : Int) ≤ 1099511627776) ((ix p0 s_4).bind fun v_7 => (loopM FUEL (fun (s : List Int × Int) => seam_downward_s2 p0 l_3 s_4 v_7 s.1 s.2) (([] : List Int), 0)).bind fun l_10 => chk (l_3.length + 1 ≤ 1099511627776) (some (.next ((l_3 ++ ([l_10] : List (List Int))), w64 (s_4 + 1))))) else some (.done l_3))
def seam_downward (p0 : List (List Int)) : Option (List (List Int)) :=
  (ix p0 (0 : Int)).bind fun v_1 => (slices_Clone_sint v_1).bind fun y_2 => (loopM FUEL (fun (s : List (List Int) × Int) => seam_downward_s1 p0 s.1 s.2) (([y_2] : List (List Int)), 1)).bind fun l_5 => some l_5
/-! seam_Find -/
def seam_Find (p0 : List (List Int)) : Option (List Int × Int × List (List Int) × Int) :=
  (seam_Check p0).bind fun y_1 => (if (y_1 != 0) = true then some (([] : List Int), 0, ([] : List (List Int)), y_1) else (seam_first p0 (fun (z_2 : Int) (z_3 : Int) => seam_Find_c1 z_2 z_3)).bind fun (y_4, y_5) => (seam_downward p0).bind fun y_6 => some (y_4, y_5, y_6, 0))
/-! raster_Check_c1 -/
def raster_Check_c1 (p0 : Int) (q0_0 : Int) (q0_1 : Int) (q0_2 : Int) (q0_3 : List Int) : Option Bool :=
  (if (decide (p0 < 0)) = true then some true else some (decide (q0_2 < p0)))
/-! raster_Check -/
def raster_Check (p0_0 : Int) (p0_1 : Int) (p0_2 : Int) (p0_3 : List Int) : Option Int :=
  ((if (decide ((if p0_2 < (if p0_1 < p0_0 then p0_1 else p0_0) then p0_2 else (if p0_1 < p0_0 then p0_1 else p0_0)) < 1)) = true then some true else (if (decide (64 < (if p0_0 < p0_1 then p0_1 else p0_0))) = true then some true else (if (decide (65535 < p0_2)) = true then some true else some ((p0_3.length : Int) != (w64 (p0_0 * p0_1))))))).bind fun s_1 => (if s_1 = true then some 1 else (slices_ContainsFunc_sint p0_3 (fun (z_2 : Int) => raster_Check_c1 z_2 p0_0 p0_1 p0_2 p0_3)).bind fun y_3 => (if y_3 = true then some 1 else some 0))
/-! seam_matched -/
def seam_matched_s1 (p0_0 : Int) (p0_1 : Int) (p0_2 : Int) (p0_3 : List Int) (p1_0 : Int) (p1_1 : Int) (p1_2 : Int) (p1_3 : List Int) (s_1 : Int) : Option (Step Int (Int ⊕ Unit)) :=
  (if (decide (s_1 < 2)) = true then (ix ([(p0_0, p0_1, p0_2, p0_3), (p1_0, p1_1, p1_2, p1_3)] : List (Int × Int × Int × List Int)) s_1).bind fun v_3 => (raster_Check v_3.1 v_3.2.1 v_3.2.2.1 v_3.2.2.2).bind fun y_4 => (if (y_4 != 0) = true then some (.done (.inl y_4)) else some (.next (w64 (s_1 + 1)))) else some (.done (.inr ())))
def seam_matched (p0_0 : Int) (p0_1 : Int) (p0_2 : Int) (p0_3 : List Int) (p1_0 : Int) (p1_1 : Int) (p1_2 : Int) (p1_3 : List Int) : Option Int :=
  (loopM FUEL (fun (s : Int) => seam_matched_s1 p0_0 p0_1 p0_2 p0_3 p1_0 p1_1 p1_2 p1_3 s) 0).bind fun | .inl r => some r | .inr _ => ((if (p0_0 != p1_0) = true then some true else (if (p0_1 != p1_1) = true then some true else some (p0_2 != p1_2)))).bind fun s_2 => (if s_2 = true then some 4 else some 0)
/-! seam_Mosaic_c1 -/
def seam_Mosaic_c1 (p0 : Int) (q0_0 : Int) (q0_1 : Int) (q0_2 : Int) (q0_3 : List Int) : Option Bool :=
  (if (decide (p0 < 0)) = true then some true else some (decide (q0_0 < p0)))
/-! seam_Mosaic -/
def seam_Mosaic_s1 (p0_0 : Int) (p0_3 : List Int) (p2 : List Int) (l_7 : List Int) (s_8 : Int) : Option (Step (List Int × Int) (List Int)) :=
  (if (decide (s_8 < (p2.length : Int))) = true then (ix p2 s_8).bind fun v_10 => chk (0 ≤ (w64 (s_8 * p0_0) : Int) ∧ (w64 (s_8 * p0_0) : Int) ≤ (l_7.length : Int) ∧ (l_7.length : Int) ≤ (l_7.length : Int)) (chk (0 ≤ (w64 (s_8 * p0_0) : Int) ∧ (w64 (s_8 * p0_0) : Int) ≤ (w64 ((w64 (s_8 * p0_0)) + v_10) : Int) ∧ (w64 ((w64 (s_8 * p0_0)) + v_10) : Int) ≤ (p0_3.length : Int)) (some (.next ((cpy l_7 ((w64 (s_8 * p0_0) : Int).toNat) (((l_7.take l_7.length).drop (w64 (s_8 * p0_0) : Int).toNat).length) ((p0_3.take (w64 ((w64 (s_8 * p0_0)) + v_10) : Int).toNat).drop (w64 (s_8 * p0_0) : Int).toNat)), w64 (s_8 + 1))))) else some (.done l_7))
def seam_Mosaic (p0_0 : Int) (p0_1 : Int) (p0_2 : Int) (p0_3 : List Int) (p1_0 : Int) (p1_1 : Int) (p1_2 : Int) (p1_3 : List Int) (p2 : List Int) : Option (Int × Int × Int × List Int × Int) :=
  (seam_matched p0_0 p0_1 p0_2 p0_3 p1_0 p1_1 p1_2 p1_3).bind fun y_1 => (if (y_1 != 0) = true then some (0, 0, 0, ([] : List Int), y_1) else ((if ((p2.length : Int) != p0_1) = true then some true else (slices_ContainsFunc_sint p2 (fun (z_12 : Int) => seam_Mosaic_c1 z_12 p0_0 p0_1 p0_2 p0_3)).bind fun y_13 => some y_13)).bind fun s_2 => (if s_2 = true then some (0, 0, 0, ([] : List Int), 11) else ((slices_Clone_sint p1_3).bind fun y_11 => some (y_11, p0_0, p0_1, p0_2)).bind fun (l_3, s_4, s_5, s_6) => (loopM FUEL (fun (s : List Int × Int) => seam_Mosaic_s1 p0_0 p0_3 p2 s.1 s.2) (l_3, 0)).bind fun l_9 => some (s_4, s_5, s_6, l_9, 0)))
/-! slices_Equal_sint -/
def slices_Equal_sint_s1 (p0 : List Int) (p1 : List Int) (s_1 : Int) : Option (Step Int (Bool ⊕ Unit)) :=
  (if (decide (s_1 < (p0.length : Int))) = true then (ix p0 s_1).bind fun v_2 => (ix p1 s_1).bind fun v_3 => (if (v_2 != v_3) = true then some (.done (.inl false)) else some (.next (w64 (s_1 + 1)))) else some (.done (.inr ())))
def slices_Equal_sint (p0 : List Int) (p1 : List Int) : Option Bool :=
  (if ((p0.length : Int) != (p1.length : Int)) = true then some false else (loopM FUEL (fun (s : Int) => slices_Equal_sint_s1 p0 p1 s) 0).bind fun | .inl r => some r | .inr _ => some true)
/-! seam_total -/
def seam_total_s1 (p0 : List (List Int)) (p1 : List Int) (s_1 : Int) (s_2 : Int) : Option (Step (Int × Int) ((Int × Bool) ⊕ Int)) :=
  (if (decide (s_2 < (p1.length : Int))) = true then (ix p1 s_2).bind fun v_4 => ((if (decide (v_4 < 0)) = true then some true else (ix p0 s_2).bind fun v_8 => (if (decide (((v_8).length : Int) ≤ v_4)) = true then some true else (if (decide (0 < s_2)) = true then (ix p1 (w64 (s_2 - 1))).bind fun v_9 => (if (decide (v_4 < (w64 (v_9 - 1)))) = true then some true else (ix p1 (w64 (s_2 - 1))).bind fun v_10 => some (decide ((w64 (v_10 + 1)) < v_4))) else some false)))).bind fun s_5 => (if s_5 = true then some (.done (.inl (0, false))) else (ix p0 s_2).bind fun v_6 => (ix v_6 v_4).bind fun v_7 => some (.next (w64 (s_1 + v_7), w64 (s_2 + 1)))) else some (.done (.inr s_1)))
def seam_total (p0 : List (List Int)) (p1 : List Int) : Option (Int × Bool) :=
  (if ((p1.length : Int) != (p0.length : Int)) = true then some (0, false) else (loopM FUEL (fun (s : Int × Int) => seam_total_s1 p0 p1 s.1 s.2) (0, 0)).bind fun | .inl r => some r | .inr s_3 => some (s_3, true))
/-! seam_above -/
def seam_above (p0 : Int) (p1 : Int) (p2 : Int) : Option Bool :=
  (if (decide (p1 ≤ (w64 (9223372036854775807 - p2)))) = true then some (decide ((w64 (p1 + p2)) < p0)) else some false)
/-! seam_holds -/
def seam_holds_s2 (p1 : List (List Int)) (s_1 : Int) (v_2 : List Int) (s_4 : Int) : Option (Step Int (Bool ⊕ Unit)) :=
  (if (decide (s_4 < ((v_2).length : Int))) = true then (ix v_2 s_4).bind fun v_5 => (if (s_1 == 0) = true then (ix p1 (0 : Int)).bind fun v_6 => (ix v_6 s_4).bind fun v_7 => (if (decide (v_5 < v_7)) = true then some (.done (.inl false)) else some (.next (w64 (s_4 + 1)))) else (seam_near s_4 ((v_2).length : Int)).bind fun (y_8, y_9) => (ix p1 s_1).bind fun v_10 => (ix v_10 s_4).bind fun v_11 => (ix p1 (w64 (s_1 - 1))).bind fun v_12 => (seam_least v_12 y_8 y_9).bind fun y_13 => (seam_above v_11 y_13 v_5).bind fun y_14 => (if y_14 = true then some (.done (.inl false)) else some (.next (w64 (s_4 + 1))))) else some (.done (.inr ())))
def seam_holds_s1 (p0 : List (List Int)) (p1 : List (List Int)) (s_1 : Int) : Option (Step Int (Bool ⊕ Unit)) :=
  (if (decide (s_1 < (p0.length : Int))) = true then (ix p0 s_1).bind fun v_2 => (ix p1 s_1).bind fun v_3 => (if (((v_3).length : Int) != ((v_2).length : Int)) = true then some (.done (.inl false)) else (loopM FUEL (fun (s : Int) => seam_holds_s2 p1 s_1 v_2 s) 0).bind fun | .inl r => some (.done (.inl r)) | .inr _ => some (.next (w64 (s_1 + 1)))) else some (.done (.inr ())))
def seam_holds (p0 : List (List Int)) (p1 : List (List Int)) : Option Bool :=
  (if ((p1.length : Int) != (p0.length : Int)) = true then some false else (loopM FUEL (fun (s : Int) => seam_holds_s1 p0 p1 s) 0).bind fun | .inl r => some r | .inr _ => some true)
/-! seam_Prove -/
def seam_Prove (p0 : List (List Int)) (p1_0 : List Int) (p1_1 : Int) (p1_2 : List (List Int)) : Option Int :=
  (seam_Check p0).bind fun y_1 => (if (y_1 != 0) = true then some y_1 else (seam_total p0 p1_0).bind fun (y_2, y_3) => ((if (!y_3) = true then some true else (if (y_2 != p1_1) = true then some true else (seam_holds p0 p1_2).bind fun y_5 => (if (!y_5) = true then some true else (ix p1_2 (w64 ((p0.length : Int) - 1))).bind fun v_6 => (slices_Min_sint v_6).bind fun y_7 => some (decide (y_7 < p1_1)))))).bind fun s_4 => (if s_4 = true then some 12 else some 0))
/-! fiduciallaw50_known -/
def fiduciallaw50_known  : Option Bool :=
  (seam_Find ([([3, 1, 2] : List Int), ([5, 4, 0] : List Int), ([1, 9, 9] : List Int)] : List (List Int))).bind fun (y_1, y_2, y_3, y_4) => (seam_Mosaic 2 1 9 ([1, 2] : List Int) 2 1 9 ([3, 4] : List Int) ([1] : List Int)).bind fun (y_5, y_6, y_7, y_8, y_9) => (if (y_4 == 0) = true then (if (y_9 == 0) = true then (if (y_2 == 6) = true then (slices_Equal_sint y_1 ([1, 1, 0] : List Int)).bind fun y_10 => (if y_10 = true then (seam_Prove ([([3, 1, 2] : List Int), ([5, 4, 0] : List Int), ([1, 9, 9] : List Int)] : List (List Int)) y_1 y_2 y_3).bind fun y_11 => (if (y_11 == 0) = true then (slices_Equal_sint y_8 ([1, 4] : List Int)).bind fun y_12 => (if y_12 = true then (seam_Prove ([([3, 1, 2] : List Int), ([5, 4, 0] : List Int), ([1, 9, 9] : List Int)] : List (List Int)) ([1, 1, 0] : List Int) 6 ([([3, 1, 2] : List Int), ([6, 5, 1] : List Int), ([7, 10, 10] : List Int)] : List (List Int))).bind fun y_13 => some (y_13 == 12) else some false) else some false) else some false) else some false) else some false) else some false)
/-! slices_IndexFunc_ssint -/
def slices_IndexFunc_ssint_s1 (p0 : List (List Int)) (p1 : List Int → Option Bool) (s_1 : Int) : Option (Step Int (Int ⊕ Unit)) :=
  (if (decide (s_1 < (p0.length : Int))) = true then (ix p0 s_1).bind fun v_2 => (p1 v_2).bind fun y_3 => (if y_3 = true then some (.done (.inl s_1)) else some (.next (w64 (s_1 + 1)))) else some (.done (.inr ())))
def slices_IndexFunc_ssint (p0 : List (List Int)) (p1 : List Int → Option Bool) : Option Int :=
  (loopM FUEL (fun (s : Int) => slices_IndexFunc_ssint_s1 p0 p1 s) 0).bind fun | .inl r => some r | .inr _ => some (-1)
/-! slices_ContainsFunc_ssint -/
def slices_ContainsFunc_ssint (p0 : List (List Int)) (p1 : List Int → Option Bool) : Option Bool :=
  (slices_IndexFunc_ssint p0 p1).bind fun y_1 => some (decide (0 ≤ y_1))
/-! fiduciallaw50_Few_c1 -/
def fiduciallaw50_Few_c1 (p0 : List Int) : Option Bool :=
  some (decide (7 < (p0.length : Int)))
/-! fiduciallaw50_Few -/
def fiduciallaw50_Few (p0 : List (List Int)) : Option Bool :=
  (if (decide ((p0.length : Int) ≤ 7)) = true then (slices_ContainsFunc_ssint p0 (fun (z_1 : List Int) => fiduciallaw50_Few_c1 z_1)).bind fun y_2 => some (!y_2) else some false)
/-! fiduciallaw50_SeamProves_c1 -/
def fiduciallaw50_SeamProves_c1 (p0 : Int) : Option Bool :=
  (if (decide (1099511627776 < p0)) = true then some true else some (decide (p0 < (-1099511627776))))
/-! fiduciallaw50_Checked_c1 -/
def fiduciallaw50_Checked_c1 (p0 : Int) : Option Bool :=
  (if (decide (p0 < 0)) = true then some true else some (decide (1048576 < p0)))
/-! fiduciallaw50_Checked -/
def fiduciallaw50_Checked_s1 (p0 : List (List Int)) (s_2 : Int) : Option (Step Int (Int ⊕ Unit)) :=
  (if (decide (s_2 < (p0.length : Int))) = true then (ix p0 s_2).bind fun v_3 => (ix p0 (0 : Int)).bind fun v_4 => (if (((v_3).length : Int) != ((v_4).length : Int)) = true then some (.done (.inl 4)) else (slices_ContainsFunc_sint v_3 (fun (z_5 : Int) => fiduciallaw50_Checked_c1 z_5)).bind fun y_6 => (if y_6 = true then some (.done (.inl 2)) else some (.next (w64 (s_2 + 1))))) else some (.done (.inr ())))
def fiduciallaw50_Checked (p0 : List (List Int)) : Option Int :=
  ((if (decide ((p0.length : Int) < 1)) = true then some true else (if (decide (64 < (p0.length : Int))) = true then some true else (ix p0 (0 : Int)).bind fun v_7 => (if (decide (((v_7).length : Int) < 1)) = true then some true else (ix p0 (0 : Int)).bind fun v_8 => some (decide (64 < ((v_8).length : Int))))))).bind fun s_1 => (if s_1 = true then some 3 else (loopM FUEL (fun (s : Int) => fiduciallaw50_Checked_s1 p0 s) 0).bind fun | .inl r => some r | .inr _ => some 0)
/-! fiduciallaw50_Right -/
def fiduciallaw50_Right_s1 (p0 : List (List Int)) (p1 : List Int) (s_1 : Int) : Option (Step Int (Bool ⊕ Unit)) :=
  (if (decide (s_1 < (p1.length : Int))) = true then (ix p1 s_1).bind fun v_2 => ((if (decide (v_2 < 0)) = true then some true else (ix p0 (0 : Int)).bind fun v_4 => (if (decide (((v_4).length : Int) ≤ v_2)) = true then some true else (if (decide (0 < s_1)) = true then (ix p1 (w64 (s_1 - 1))).bind fun v_5 => (if (decide (1 < (w64 (v_2 - v_5)))) = true then some true else (ix p1 (w64 (s_1 - 1))).bind fun v_6 => some (decide (1 < (w64 (v_6 - v_2))))) else some false)))).bind fun s_3 => (if s_3 = true then some (.done (.inl false)) else some (.next (w64 (s_1 + 1)))) else some (.done (.inr ())))
def fiduciallaw50_Right (p0 : List (List Int)) (p1 : List Int) : Option Bool :=
  (if ((p1.length : Int) != (p0.length : Int)) = true then some false else (loopM FUEL (fun (s : Int) => fiduciallaw50_Right_s1 p0 p1 s) 0).bind fun | .inl r => some r | .inr _ => some true)
/-! fiduciallaw50_Total -/
def fiduciallaw50_Total_s1 (p0 : List (List Int)) (p1 : List Int) (s_1 : Int) (s_2 : Int) : Option (Step (Int × Int) Int) :=
  (if (decide (s_2 < (p1.length : Int))) = true then (ix p1 s_2).bind fun v_4 => (ix p0 s_2).bind fun v_5 => (ix v_5 v_4).bind fun v_6 => some (.next (w64 (s_1 + v_6), w64 (s_2 + 1))) else some (.done s_1))
def fiduciallaw50_Total (p0 : List (List Int)) (p1 : List Int) : Option Int :=
  (loopM FUEL (fun (s : Int × Int) => fiduciallaw50_Total_s1 p0 p1 s.1 s.2) (0, 0)).bind fun s_3 => some s_3
/-! fiduciallaw50_above -/
def fiduciallaw50_above (p0 : Int) (p1 : Int) (p2 : Int) : Option Bool :=
  some (decide ((w64 (p1 + p2)) < p0))
/-! fiduciallaw50_proved -/
def fiduciallaw50_proved_s3 (p0 : List (List Int)) (p1_2 : List (List Int)) (s_3 : Int) (s_8 : Int) (v_9 : Int) (s_11 : Int) : Option (Step Int (Int ⊕ Unit)) :=
  ((if (decide (s_11 ≤ (w64 (s_8 + 1)))) = true then some (decide (0 < s_3)) else some false)).bind fun s_12 => (if s_12 = true then ((if (decide (0 ≤ s_11)) = true then (ix p0 (0 : Int)).bind fun v_14 => (if (decide (s_11 < ((v_14).length : Int))) = true then (ix p1_2 (w64 (s_3 - 1))).bind fun v_15 => (ix v_15 s_11).bind fun v_16 => (ix p0 s_3).bind fun v_17 => (ix v_17 s_8).bind fun v_18 => (fiduciallaw50_above v_9 v_16 v_18).bind fun y_19 => some y_19 else some false) else some false)).bind fun s_13 => (if s_13 = true then some (.done (.inl 12)) else some (.next (w64 (s_11 + 1)))) else some (.done (.inr ())))
def fiduciallaw50_proved_s2 (p0 : List (List Int)) (p1_2 : List (List Int)) (s_3 : Int) (v_6 : List Int) (s_8 : Int) : Option (Step Int (Int ⊕ Unit)) :=
  (if (decide (s_8 < ((v_6).length : Int))) = true then (ix v_6 s_8).bind fun v_9 => ((if (s_3 == 0) = true then (ix p0 (0 : Int)).bind fun v_20 => (ix v_20 s_8).bind fun v_21 => some (decide (v_21 < v_9)) else some false)).bind fun s_10 => (if s_10 = true then some (.done (.inl 12)) else (loopM FUEL (fun (s : Int) => fiduciallaw50_proved_s3 p0 p1_2 s_3 s_8 v_9 s) (w64 (s_8 - 1))).bind fun | .inl r => some (.done (.inl r)) | .inr _ => some (.next (w64 (s_8 + 1)))) else some (.done (.inr ())))
def fiduciallaw50_proved_s1 (p0 : List (List Int)) (p1_2 : List (List Int)) (s_3 : Int) : Option (Step Int (Int ⊕ Unit)) :=
  (if (decide (s_3 < (p1_2.length : Int))) = true then (ix p1_2 s_3).bind fun v_6 => (ix p0 (0 : Int)).bind fun v_7 => (if (((v_6).length : Int) != ((v_7).length : Int)) = true then some (.done (.inl 12)) else (loopM FUEL (fun (s : Int) => fiduciallaw50_proved_s2 p0 p1_2 s_3 v_6 s) 0).bind fun | .inl r => some (.done (.inl r)) | .inr _ => some (.next (w64 (s_3 + 1)))) else some (.done (.inr ())))
def fiduciallaw50_proved (p0 : List (List Int)) (p1_0 : List Int) (p1_1 : Int) (p1_2 : List (List Int)) : Option Int :=
  (fiduciallaw50_Checked p0).bind fun y_1 => (if (y_1 != 0) = true then some y_1 else ((fiduciallaw50_Right p0 p1_0).bind fun y_22 => (if (!y_22) = true then some true else (fiduciallaw50_Total p0 p1_0).bind fun y_23 => (if (y_23 != p1_1) = true then some true else some ((p1_2.length : Int) != (p0.length : Int))))).bind fun s_2 => (if s_2 = true then some 12 else (loopM FUEL (fun (s : Int) => fiduciallaw50_proved_s1 p0 p1_2 s) 0).bind fun | .inl r => some r | .inr _ => (ix p1_2 (w64 ((p0.length : Int) - 1))).bind fun v_4 => (slices_Min_sint v_4).bind fun y_5 => (if (decide (y_5 < p1_1)) = true then some 12 else some 0)))
/-! fiduciallaw50_SeamProves -/
def fiduciallaw50_SeamProves_s1 (p1_2 : List (List Int)) (s_3 : Int) : Option (Step Int (Bool ⊕ Unit)) :=
  (if (decide (s_3 < (p1_2.length : Int))) = true then (ix p1_2 s_3).bind fun v_6 => (slices_ContainsFunc_sint v_6 (fun (z_7 : Int) => fiduciallaw50_SeamProves_c1 z_7)).bind fun y_8 => (if y_8 = true then some (.done (.inl true)) else some (.next (w64 (s_3 + 1)))) else some (.done (.inr ())))
def fiduciallaw50_SeamProves (p0 : List (List Int)) (p1_0 : List Int) (p1_1 : Int) (p1_2 : List (List Int)) : Option Bool :=
  (fiduciallaw50_known).bind fun y_1 => (if (!y_1) = true then some false else ((fiduciallaw50_Few p0).bind fun y_9 => (if (!y_9) = true then some true else (fiduciallaw50_Few p1_2).bind fun y_10 => (if (!y_10) = true then some true else some (decide (20 < (p1_0.length : Int)))))).bind fun s_2 => (if s_2 = true then some true else (loopM FUEL (fun (s : Int) => fiduciallaw50_SeamProves_s1 p1_2 s) 0).bind fun | .inl r => some r | .inr _ => (seam_Prove p0 p1_0 p1_1 p1_2).bind fun y_4 => (fiduciallaw50_proved p0 p1_0 p1_1 p1_2).bind fun y_5 => some (y_4 == y_5)))
/-! fiduciallaw50_SeamMonotone -/
def fiduciallaw50_SeamMonotone_s2 (p1 : List (List Int)) (s_4 : Int) (y_15 : List Int) (l_16 : List Int) (s_17 : Int) : Option (Step (List Int × Int) (List Int)) :=
  (if (decide (s_17 < ((y_15).length : Int))) = true then ((if (decide (s_4 < (p1.length : Int))) = true then (ix p1 s_4).bind fun v_24 => (if (decide (s_17 < ((v_24).length : Int))) = true then (ix p1 s_4).bind fun v_25 => (ix v_25 s_17).bind fun v_26 => some (decide (0 ≤ v_26)) else some false) else some false)).bind fun s_19 => ((if s_19 = true then (ix l_16 s_17).bind fun v_21 => (ix p1 s_4).bind fun v_22 => (ix v_22 s_17).bind fun v_23 => chk (0 ≤ s_17 ∧ s_17 < (l_16.length : Int)) (some (l_16.set s_17.toNat (if v_23 < v_21 then v_23 else v_21))) else some l_16)).bind fun l_20 => some (.next (l_20, w64 (s_17 + 1))) else some (.done l_16))
def fiduciallaw50_SeamMonotone_s1 (p0 : List (List Int)) (p1 : List (List Int)) (l_3 : List (List Int)) (s_4 : Int) : Option (Step (List (List Int) × Int) (List (List Int))) :=
  (if (decide (s_4 < (p0.length : Int))) = true then (ix p0 s_4).bind fun v_14 => (slices_Clone_sint v_14).bind fun y_15 => (loopM FUEL (fun (s : List Int × Int) => fiduciallaw50_SeamMonotone_s2 p1 s_4 y_15 s.1 s.2) (y_15, 0)).bind fun l_18 => chk (l_3.length + 1 ≤ 1099511627776) (some (.next ((l_3 ++ ([l_18] : List (List Int))), w64 (s_4 + 1)))) else some (.done l_3))
def fiduciallaw50_SeamMonotone (p0 : List (List Int)) (p1 : List (List Int)) : Option Bool :=
  (fiduciallaw50_known).bind fun y_1 => (if (!y_1) = true then some false else ((fiduciallaw50_Few p0).bind fun y_27 => (if (!y_27) = true then some true else (fiduciallaw50_Few p1).bind fun y_28 => (if (!y_28) = true then some true else (fiduciallaw50_Checked p0).bind fun y_29 => some (y_29 != 0)))).bind fun s_2 => (if s_2 = true then some true else (loopM FUEL (fun (s : List (List Int) × Int) => fiduciallaw50_SeamMonotone_s1 p0 p1 s.1 s.2) (([] : List (List Int)), 0)).bind fun l_5 => (seam_Find p0).bind fun (y_6, y_7, y_8, y_9) => (seam_Find l_5).bind fun (y_10, y_11, y_12, y_13) => (if (y_9 == 0) = true then (if (y_13 == 0) = true then some (decide (y_11 ≤ y_7)) else some false) else some false)))
/-! fiduciallaw50_SeamShifts -/
def fiduciallaw50_SeamShifts_s3 (p1 : Int) (p2 : Int) (s_5 : Int) (y_24 : List Int) (l_30 : List Int) (s_31 : Int) : Option (Step (List Int × Int) (List Int)) :=
  (if (decide (s_31 < ((y_24).length : Int))) = true then ((if (s_5 == p1) = true then (ix l_30 s_31).bind fun v_34 => chk (0 ≤ s_31 ∧ s_31 < (l_30.length : Int)) (some (l_30.set s_31.toNat (w64 (v_34 + (w64 (p2)))))) else some l_30)).bind fun l_33 => some (.next (l_33, w64 (s_31 + 1))) else some (.done l_30))
def fiduciallaw50_SeamShifts_s2 (l_26 : List Int) (s_27 : Int) (s_28 : Int) : Option (Step (List Int × Int × Int) (List Int)) :=
  (if (decide (s_27 < s_28)) = true then (ix l_26 s_28).bind fun v_35 => (ix l_26 s_27).bind fun v_36 => chk (0 ≤ s_27 ∧ s_27 < (l_26.length : Int)) (chk (0 ≤ s_28 ∧ s_28 < ((l_26.set s_27.toNat v_35).length : Int)) (some (.next (((l_26.set s_27.toNat v_35).set s_28.toNat v_36), w64 (s_27 + 1), w64 (s_28 - 1))))) else some (.done l_26))
def fiduciallaw50_SeamShifts_s1 (p0 : List (List Int)) (p1 : Int) (p2 : Int) (l_3 : List (List Int)) (l_4 : List (List Int)) (s_5 : Int) : Option (Step (List (List Int) × List (List Int) × Int) (List (List Int) × List (List Int))) :=
  (if (decide (s_5 < (p0.length : Int))) = true then (ix p0 s_5).bind fun v_23 => (slices_Clone_sint v_23).bind fun y_24 => (slices_Clone_sint v_23).bind fun y_25 => (loopM FUEL (fun (s : List Int × Int × Int) => fiduciallaw50_SeamShifts_s2 s.1 s.2.1 s.2.2) (y_25, 0, w64 (((y_25).length : Int) - 1))).bind fun l_29 => (loopM FUEL (fun (s : List Int × Int) => fiduciallaw50_SeamShifts_s3 p1 p2 s_5 y_24 s.1 s.2) (y_24, 0)).bind fun l_32 => chk (l_3.length + 1 ≤ 1099511627776) (chk (l_4.length + 1 ≤ 1099511627776) (some (.next ((l_3 ++ ([l_32] : List (List Int))), (l_4 ++ ([l_29] : List (List Int))), w64 (s_5 + 1))))) else some (.done (l_3, l_4)))
def fiduciallaw50_SeamShifts (p0 : List (List Int)) (p1 : Int) (p2 : Int) : Option Bool :=
  (fiduciallaw50_known).bind fun y_1 => (if (!y_1) = true then some false else ((fiduciallaw50_Few p0).bind fun y_37 => (if (!y_37) = true then some true else (fiduciallaw50_Checked p0).bind fun y_38 => (if (y_38 != 0) = true then some true else (if (decide (p1 < 0)) = true then some true else some (decide ((p0.length : Int) ≤ p1)))))).bind fun s_2 => (if s_2 = true then some true else (loopM FUEL (fun (s : List (List Int) × List (List Int) × Int) => fiduciallaw50_SeamShifts_s1 p0 p1 p2 s.1 s.2.1 s.2.2) (([] : List (List Int)), ([] : List (List Int)), 0)).bind fun (l_6, l_7) => (seam_Find p0).bind fun (y_8, y_9, y_10, y_11) => (seam_Find l_6).bind fun (y_12, y_13, y_14, y_15) => (seam_Find l_7).bind fun (y_16, y_17, y_18, y_19) => ((if (y_11 != 0) = true then some true else (if (y_19 != 0) = true then some true else some (y_17 != y_9)))).bind fun s_20 => (if s_20 = true then some false else (fiduciallaw50_Checked l_6).bind fun y_21 => (if (y_21 != 0) = true then some (y_15 == 2) else (if (y_15 == 0) = true then (if (y_13 == (w64 (y_9 + (w64 (p2))))) = true then (slices_Equal_sint y_8 y_12).bind fun y_22 => some y_22 else some false) else some false)))))
/-! fiduciallaw50_none -/
def fiduciallaw50_none (p0_0 : List Int) (p0_1 : Int) (p0_2 : List (List Int)) : Option Bool :=
  (if ((p0_0.length : Int) == 0) = true then (if (p0_1 == 0) = true then some ((p0_2.length : Int) == 0) else some false) else some false)
/-! fiduciallaw50_Below -/
def fiduciallaw50_Below_s3 (p0 : List (List Int)) (s_2 : Int) (l_5 : List (List Int)) (s_6 : Int) (s_9 : Int) (s_10 : Int) : Option (Step (Int × Int) Int) :=
  ((if (decide (s_10 ≤ (w64 (s_6 + 1)))) = true then some (decide (s_2 < (w64 ((p0.length : Int) - 1)))) else some false)).bind fun s_13 => (if s_13 = true then ((if (decide (0 ≤ s_10)) = true then (ix p0 s_2).bind fun v_18 => (if (decide (s_10 < ((v_18).length : Int))) = true then (if (decide (s_9 < 0)) = true then some true else (ix l_5 (w64 (s_2 + 1))).bind fun v_19 => (ix v_19 s_10).bind fun v_20 => some (decide (v_20 < s_9))) else some false) else some false)).bind fun s_14 => ((if s_14 = true then (ix l_5 (w64 (s_2 + 1))).bind fun v_16 => (ix v_16 s_10).bind fun v_17 => some v_17 else some s_9)).bind fun s_15 => some (.next (s_15, w64 (s_10 + 1))) else some (.done s_9))
def fiduciallaw50_Below_s2 (p0 : List (List Int)) (s_2 : Int) (v_4 : List Int) (l_5 : List (List Int)) (s_6 : Int) : Option (Step (List (List Int) × Int) (List (List Int))) :=
  (if (decide (s_6 < ((v_4).length : Int))) = true then (ix v_4 s_6).bind fun v_8 => (loopM FUEL (fun (s : Int × Int) => fiduciallaw50_Below_s3 p0 s_2 l_5 s_6 s.1 s.2) ((-1), w64 (s_6 - 1))).bind fun s_11 => (ix l_5 s_2).bind fun v_12 => chk (v_12.length + 1 ≤ 1099511627776) (chk (0 ≤ s_2 ∧ s_2 < (l_5.length : Int)) (some (.next ((l_5.set s_2.toNat (v_12 ++ ([w64 (v_8 + (if s_11 < 0 then 0 else s_11))] : List Int))), w64 (s_6 + 1))))) else some (.done l_5))
def fiduciallaw50_Below_s1 (p0 : List (List Int)) (l_1 : List (List Int)) (s_2 : Int) : Option (Step (List (List Int) × Int) (List (List Int))) :=
  (if (decide (0 ≤ s_2)) = true then (ix p0 s_2).bind fun v_4 => (loopM FUEL (fun (s : List (List Int) × Int) => fiduciallaw50_Below_s2 p0 s_2 v_4 s.1 s.2) (l_1, 0)).bind fun l_7 => some (.next (l_7, w64 (s_2 - 1))) else some (.done l_1))
def fiduciallaw50_Below (p0 : List (List Int)) : Option (List (List Int)) :=
  chk ((0 : Int) ≤ (p0.length : Int) ∧ (p0.length : Int) ≤ (p0.length : Int) ∧ (p0.length : Int) ≤ 1099511627776) ((loopM FUEL (fun (s : List (List Int) × Int) => fiduciallaw50_Below_s1 p0 s.1 s.2) ((List.replicate ((p0.length : Int) : Int).toNat ([] : List Int)), w64 ((p0.length : Int) - 1))).bind fun l_3 => some l_3)
/-! slices_Index_sint -/
def slices_Index_sint_s1 (p0 : List Int) (p1 : Int) (s_1 : Int) : Option (Step Int (Int ⊕ Unit)) :=
  (if (decide (s_1 < (p0.length : Int))) = true then (ix p0 s_1).bind fun v_2 => (if (p1 == v_2) = true then some (.done (.inl s_1)) else some (.next (w64 (s_1 + 1)))) else some (.done (.inr ())))
def slices_Index_sint (p0 : List Int) (p1 : Int) : Option Int :=
  (loopM FUEL (fun (s : Int) => slices_Index_sint_s1 p0 p1 s) 0).bind fun | .inl r => some r | .inr _ => some (-1)
/-! fiduciallaw50_Least -/
def fiduciallaw50_Least_s2 (p0 : List (List Int)) (y_1 : List (List Int)) (s_7 : Int) (v_9 : Int) (s_10 : Int) (s_11 : Int) : Option (Step (Int × Int) Int) :=
  (ix p0 (0 : Int)).bind fun v_13 => (if (decide (s_11 ≤ (if (w64 (((v_13).length : Int) - 1)) < (w64 (v_9 + 1)) then (w64 (((v_13).length : Int) - 1)) else (w64 (v_9 + 1))))) = true then ((if (decide (s_10 < 0)) = true then some true else (ix y_1 s_7).bind fun v_16 => (ix v_16 s_11).bind fun v_17 => (ix y_1 s_7).bind fun v_18 => (ix v_18 s_10).bind fun v_19 => some (decide (v_17 < v_19)))).bind fun s_14 => ((if s_14 = true then some s_11 else some s_10)).bind fun s_15 => some (.next (s_15, w64 (s_11 + 1))) else some (.done s_10))
def fiduciallaw50_Least_s1 (p0 : List (List Int)) (y_1 : List (List Int)) (l_6 : List Int) (s_7 : Int) : Option (Step (List Int × Int) (List Int)) :=
  (if (decide (s_7 < (p0.length : Int))) = true then (ix l_6 (w64 (s_7 - 1))).bind fun v_9 => (loopM FUEL (fun (s : Int × Int) => fiduciallaw50_Least_s2 p0 y_1 s_7 v_9 s.1 s.2) ((-1), (if 0 < (w64 (v_9 - 1)) then (w64 (v_9 - 1)) else 0))).bind fun s_12 => chk (l_6.length + 1 ≤ 1099511627776) (some (.next ((l_6 ++ ([s_12] : List Int)), w64 (s_7 + 1)))) else some (.done l_6))
def fiduciallaw50_Least (p0 : List (List Int)) : Option (List Int × Int) :=
  (fiduciallaw50_Below p0).bind fun y_1 => (ix y_1 (0 : Int)).bind fun v_2 => (slices_Min_sint v_2).bind fun y_3 => (ix y_1 (0 : Int)).bind fun v_4 => (slices_Index_sint v_4 y_3).bind fun y_5 => (loopM FUEL (fun (s : List Int × Int) => fiduciallaw50_Least_s1 p0 y_1 s.1 s.2) (([y_5] : List Int), 1)).bind fun l_8 => some (l_8, y_3)
/-! fiduciallaw50_SeamFinds -/
def fiduciallaw50_SeamFinds (p0 : List (List Int)) : Option Bool :=
  (fiduciallaw50_known).bind fun y_1 => (if (!y_1) = true then some false else (fiduciallaw50_Few p0).bind fun y_2 => (if (!y_2) = true then some true else (seam_Find p0).bind fun (y_3, y_4, y_5, y_6) => (fiduciallaw50_Checked p0).bind fun y_7 => (if (y_7 != 0) = true then (if (y_6 == y_7) = true then (fiduciallaw50_none y_3 y_4 y_5).bind fun y_8 => (if y_8 = true then (seam_Prove p0 y_3 y_4 y_5).bind fun y_9 => some (y_9 == y_7) else some false) else some false) else (fiduciallaw50_Least p0).bind fun (y_10, y_11) => (if (y_6 == 0) = true then (slices_Equal_sint y_3 y_10).bind fun y_12 => (if y_12 = true then (if (y_4 == y_11) = true then (fiduciallaw50_proved p0 y_3 y_4 y_5).bind fun y_13 => (if (y_13 == 0) = true then (seam_Prove p0 y_3 y_4 y_5).bind fun y_14 => some (y_14 == 0) else some false) else some false) else some false) else some false))))
/-! seam_Total -/
def seam_Total (p0 : List (List Int)) (p1 : List Int) : Option (Int × Int) :=
  (seam_Check p0).bind fun y_1 => (if (y_1 != 0) = true then some (0, y_1) else (seam_total p0 p1).bind fun (y_2, y_3) => (if (!y_3) = true then some (0, 11) else some (y_2, 0)))
/-! fiduciallaw50_SeamTotals -/
def fiduciallaw50_SeamTotals (p0 : List (List Int)) (p1 : List Int) : Option Bool :=
  (fiduciallaw50_known).bind fun y_1 => (if (!y_1) = true then some false else ((fiduciallaw50_Few p0).bind fun y_11 => (if (!y_11) = true then some true else some (decide (20 < (p1.length : Int))))).bind fun s_2 => (if s_2 = true then some true else (seam_Total p0 p1).bind fun (y_3, y_4) => (fiduciallaw50_Checked p0).bind fun y_5 => (seam_Check p0).bind fun y_6 => (if (y_6 != y_5) = true then some false else ((if (y_5 == 0) = true then (fiduciallaw50_Right p0 p1).bind fun y_10 => some (!y_10) else some false)).bind fun s_7 => ((if s_7 = true then some 11 else some y_5)).bind fun s_8 => (if (s_8 != 0) = true then (if (y_4 == s_8) = true then some (y_3 == 0) else some false) else (if (y_4 == 0) = true then (fiduciallaw50_Total p0 p1).bind fun y_9 => some (y_3 == y_9) else some false)))))
/-! fiduciallaw50_SeamOptimal -/
def fiduciallaw50_SeamOptimal (p0 : List (List Int)) (p1_0 : List Int) (p1_1 : Int) (p1_2 : List (List Int)) (p2 : List Int) : Option Bool :=
  (fiduciallaw50_known).bind fun y_1 => (if (!y_1) = true then some false else ((fiduciallaw50_Few p0).bind fun y_7 => (if (!y_7) = true then some true else (fiduciallaw50_Few p1_2).bind fun y_8 => (if (!y_8) = true then some true else (if (decide (20 < (p1_0.length : Int))) = true then some true else (if (decide (20 < (p2.length : Int))) = true then some true else (seam_Prove p0 p1_0 p1_1 p1_2).bind fun y_9 => some (y_9 != 0)))))).bind fun s_2 => (if s_2 = true then some true else (seam_Total p0 p2).bind fun (y_3, y_4) => (seam_Total p0 p1_0).bind fun (y_5, y_6) => (if (y_6 == 0) = true then (if (y_5 == p1_1) = true then (if (y_4 != 0) = true then some true else some (decide (p1_1 ≤ y_3))) else some false) else some false)))
/-! fiducialref13_Check -/
def fiducialref13_Check_s1 (p0_2 : Int) (p0_3 : List Int) (s_2 : Int) : Option (Step Int (Int ⊕ Unit)) :=
  (if (decide (s_2 < (p0_3.length : Int))) = true then ((ix p0_3 s_2).bind fun v_4 => (if (decide (v_4 < 0)) = true then some true else (ix p0_3 s_2).bind fun v_5 => some (decide (p0_2 < v_5)))).bind fun s_3 => (if s_3 = true then some (.done (.inl 1)) else some (.next (w64 (s_2 + 1)))) else some (.done (.inr ())))
def fiducialref13_Check (p0_0 : Int) (p0_1 : Int) (p0_2 : Int) (p0_3 : List Int) : Option Int :=
  ((if (decide (p0_0 < 1)) = true then some true else (if (decide (64 < p0_0)) = true then some true else (if (decide (p0_1 < 1)) = true then some true else (if (decide (64 < p0_1)) = true then some true else (if (decide (p0_2 < 1)) = true then some true else (if (decide (65535 < p0_2)) = true then some true else some ((p0_3.length : Int) != (w64 (p0_0 * p0_1)))))))))).bind fun s_1 => (if s_1 = true then some 1 else (loopM FUEL (fun (s : Int) => fiducialref13_Check_s1 p0_2 p0_3 s) 0).bind fun | .inl r => some r | .inr _ => some 0)
/-! fiduciallaw50_small -/
def fiduciallaw50_small (p0_0 : Int) (p0_1 : Int) (p0_2 : Int) (p0_3 : List Int) : Option Bool :=
  (if (decide ((p0_3.length : Int) ≤ 60)) = true then (fiducialref13_Check p0_0 p0_1 p0_2 p0_3).bind fun y_1 => (if (y_1 != 0) = true then some true else (if (decide (p0_0 ≤ 7)) = true then some (decide (p0_1 ≤ 7)) else some false)) else some false)
/-! seam_Costs -/
def seam_Costs_s2 (p0_0 : Int) (p0_3 : List Int) (p1_3 : List Int) (s_3 : Int) (l_5 : List (List Int)) (s_6 : Int) : Option (Step (List (List Int) × Int) (List (List Int))) :=
  (if (decide (s_6 < p0_0)) = true then (ix p0_3 (w64 ((w64 (s_3 * p0_0)) + s_6))).bind fun v_8 => (ix p1_3 (w64 ((w64 (s_3 * p0_0)) + s_6))).bind fun v_9 => (ix l_5 s_3).bind fun v_10 => chk (v_10.length + 1 ≤ 1099511627776) (chk (0 ≤ s_3 ∧ s_3 < (l_5.length : Int)) (some (.next ((l_5.set s_3.toNat (v_10 ++ ([(if (w64 (v_8 - v_9)) < (w64 (0 - (w64 (v_8 - v_9)))) then (w64 (0 - (w64 (v_8 - v_9)))) else (w64 (v_8 - v_9)))] : List Int))), w64 (s_6 + 1))))) else some (.done l_5))
def seam_Costs_s1 (p0_0 : Int) (p0_1 : Int) (p0_3 : List Int) (p1_3 : List Int) (l_2 : List (List Int)) (s_3 : Int) : Option (Step (List (List Int) × Int) (List (List Int))) :=
  (if (decide (s_3 < ((List.replicate (p0_1 : Int).toNat ([] : List Int)).length : Int))) = true then (loopM FUEL (fun (s : List (List Int) × Int) => seam_Costs_s2 p0_0 p0_3 p1_3 s_3 s.1 s.2) (l_2, 0)).bind fun l_7 => some (.next (l_7, w64 (s_3 + 1))) else some (.done l_2))
def seam_Costs (p0_0 : Int) (p0_1 : Int) (p0_2 : Int) (p0_3 : List Int) (p1_0 : Int) (p1_1 : Int) (p1_2 : Int) (p1_3 : List Int) : Option (List (List Int) × Int) :=
  (seam_matched p0_0 p0_1 p0_2 p0_3 p1_0 p1_1 p1_2 p1_3).bind fun y_1 => (if (y_1 != 0) = true then some (([] : List (List Int)), y_1) else chk ((0 : Int) ≤ p0_1 ∧ p0_1 ≤ p0_1 ∧ p0_1 ≤ 1099511627776) ((loopM FUEL (fun (s : List (List Int) × Int) => seam_Costs_s1 p0_0 p0_1 p0_3 p1_3 s.1 s.2) ((List.replicate (p0_1 : Int).toNat ([] : List Int)), 0)).bind fun l_4 => some (l_4, 0)))
/-! fiduciallaw50_fits -/
def fiduciallaw50_fits (p0_0 : Int) (p0_1 : Int) (p0_2 : Int) (p0_3 : List Int) (p1_0 : Int) (p1_1 : Int) (p1_2 : Int) (p1_3 : List Int) : Option Int :=
  (fiducialref13_Check p0_0 p0_1 p0_2 p0_3).bind fun y_1 => (if (y_1 != 0) = true then some y_1 else (fiducialref13_Check p1_0 p1_1 p1_2 p1_3).bind fun y_2 => (if (y_2 != 0) = true then some y_2 else ((if (p0_0 != p1_0) = true then some true else (if (p0_1 != p1_1) = true then some true else some (p0_2 != p1_2)))).bind fun s_3 => (if s_3 = true then some 4 else some 0)))
/-! fiduciallaw50_mosaicked_c1 -/
def fiduciallaw50_mosaicked_c1 (p0 : Int) (q0_0 : Int) (q0_1 : Int) (q0_2 : Int) (q0_3 : List Int) : Option Bool :=
  (if (decide (p0 < 0)) = true then some true else some (decide (q0_0 < p0)))
/-! fiducialref13_Copy -/
def fiducialref13_Copy (p0_0 : Int) (p0_1 : Int) (p0_2 : Int) (p0_3 : List Int) : Option (Int × Int × Int × List Int) :=
  chk (([] : List Int).length + p0_3.length ≤ 1099511627776) (some (p0_0, p0_1, p0_2, (([] : List Int) ++ p0_3)))
/-! fiduciallaw50_mosaicked -/
def fiduciallaw50_mosaicked_s1 (p0_0 : Int) (p0_3 : List Int) (p2 : List Int) (y_6 : List Int) (l_7 : List Int) (s_8 : Int) : Option (Step (List Int × Int) (List Int)) :=
  (if (decide (s_8 < ((y_6).length : Int))) = true then chk (p0_0 ≠ 0) (chk (p0_0 ≠ 0) ((ix p2 (w64 (Int.tdiv s_8 p0_0))).bind fun v_10 => ((if (decide ((Int.tmod s_8 p0_0) < v_10)) = true then (ix p0_3 s_8).bind fun v_12 => chk (0 ≤ s_8 ∧ s_8 < (l_7.length : Int)) (some (l_7.set s_8.toNat v_12)) else some l_7)).bind fun l_11 => some (.next (l_11, w64 (s_8 + 1))))) else some (.done l_7))
def fiduciallaw50_mosaicked (p0_0 : Int) (p0_1 : Int) (p0_2 : Int) (p0_3 : List Int) (p1_0 : Int) (p1_1 : Int) (p1_2 : Int) (p1_3 : List Int) (p2 : List Int) : Option (Int × Int × Int × List Int × Int) :=
  (fiduciallaw50_fits p0_0 p0_1 p0_2 p0_3 p1_0 p1_1 p1_2 p1_3).bind fun y_1 => (if (y_1 != 0) = true then some (0, 0, 0, ([] : List Int), y_1) else ((if ((p2.length : Int) != p0_1) = true then some true else (slices_ContainsFunc_sint p2 (fun (z_13 : Int) => fiduciallaw50_mosaicked_c1 z_13 p0_0 p0_1 p0_2 p0_3)).bind fun y_14 => some y_14)).bind fun s_2 => (if s_2 = true then some (0, 0, 0, ([] : List Int), 11) else (fiducialref13_Copy p1_0 p1_1 p1_2 p1_3).bind fun (y_3, y_4, y_5, y_6) => (loopM FUEL (fun (s : List Int × Int) => fiduciallaw50_mosaicked_s1 p0_0 p0_3 p2 y_6 s.1 s.2) (y_6, 0)).bind fun l_9 => some (y_3, y_4, y_5, l_9, 0)))
/-! fiducialref13_Equal -/
def fiducialref13_Equal_s1 (p0_3 : List Int) (p1_3 : List Int) (s_2 : Int) : Option (Step Int (Bool ⊕ Unit)) :=
  (if (decide (s_2 < (p0_3.length : Int))) = true then (ix p0_3 s_2).bind fun v_3 => (ix p1_3 s_2).bind fun v_4 => (if (v_3 != v_4) = true then some (.done (.inl false)) else some (.next (w64 (s_2 + 1)))) else some (.done (.inr ())))
def fiducialref13_Equal (p0_0 : Int) (p0_1 : Int) (p0_2 : Int) (p0_3 : List Int) (p1_0 : Int) (p1_1 : Int) (p1_2 : Int) (p1_3 : List Int) : Option Bool :=
  ((if (p0_0 != p1_0) = true then some true else (if (p0_1 != p1_1) = true then some true else (if (p0_2 != p1_2) = true then some true else some ((p0_3.length : Int) != (p1_3.length : Int)))))).bind fun s_1 => (if s_1 = true then some false else (loopM FUEL (fun (s : Int) => fiducialref13_Equal_s1 p0_3 p1_3 s) 0).bind fun | .inl r => some r | .inr _ => some true)
/-! fiduciallaw50_SeamMosaics -/
def fiduciallaw50_SeamMosaics_s2 (p0_0 : Int) (p0_3 : List Int) (p1_3 : List Int) (s_18 : Int) (v_19 : List Int) (s_20 : Int) : Option (Step Int (Bool ⊕ Unit)) :=
  (if (decide (s_20 < ((v_19).length : Int))) = true then (ix v_19 s_20).bind fun v_21 => (ix p0_3 (w64 ((w64 (s_18 * p0_0)) + s_20))).bind fun v_22 => (ix p1_3 (w64 ((w64 (s_18 * p0_0)) + s_20))).bind fun v_23 => (if (v_21 != (if (w64 (v_22 - v_23)) < (w64 (v_23 - v_22)) then (w64 (v_23 - v_22)) else (w64 (v_22 - v_23)))) = true then some (.done (.inl false)) else some (.next (w64 (s_20 + 1)))) else some (.done (.inr ())))
def fiduciallaw50_SeamMosaics_s1 (p0_0 : Int) (p0_3 : List Int) (p1_3 : List Int) (y_3 : List (List Int)) (s_18 : Int) : Option (Step Int (Bool ⊕ Unit)) :=
  (if (decide (s_18 < ((y_3).length : Int))) = true then (ix y_3 s_18).bind fun v_19 => (if (((v_19).length : Int) != p0_0) = true then some (.done (.inl false)) else (loopM FUEL (fun (s : Int) => fiduciallaw50_SeamMosaics_s2 p0_0 p0_3 p1_3 s_18 v_19 s) 0).bind fun | .inl r => some (.done (.inl r)) | .inr _ => some (.next (w64 (s_18 + 1)))) else some (.done (.inr ())))
def fiduciallaw50_SeamMosaics (p0_0 : Int) (p0_1 : Int) (p0_2 : Int) (p0_3 : List Int) (p1_0 : Int) (p1_1 : Int) (p1_2 : Int) (p1_3 : List Int) (p2 : List Int) : Option Bool :=
  (fiduciallaw50_known).bind fun y_1 => (if (!y_1) = true then some false else ((fiduciallaw50_small p0_0 p0_1 p0_2 p0_3).bind fun y_25 => (if (!y_25) = true then some true else (fiduciallaw50_small p1_0 p1_1 p1_2 p1_3).bind fun y_26 => (if (!y_26) = true then some true else some (decide (20 < (p2.length : Int)))))).bind fun s_2 => (if s_2 = true then some true else (seam_Costs p0_0 p0_1 p0_2 p0_3 p1_0 p1_1 p1_2 p1_3).bind fun (y_3, y_4) => (seam_Mosaic p0_0 p0_1 p0_2 p0_3 p1_0 p1_1 p1_2 p1_3 p2).bind fun (y_5, y_6, y_7, y_8, y_9) => (fiduciallaw50_mosaicked p0_0 p0_1 p0_2 p0_3 p1_0 p1_1 p1_2 p1_3 p2).bind fun (y_10, y_11, y_12, y_13, y_14) => ((if (y_9 != y_14) = true then some true else (fiducialref13_Equal y_5 y_6 y_7 y_8 y_10 y_11 y_12 y_13).bind fun y_24 => some (!y_24))).bind fun s_15 => (if s_15 = true then some false else (fiduciallaw50_fits p0_0 p0_1 p0_2 p0_3 p1_0 p1_1 p1_2 p1_3).bind fun y_16 => (if (y_16 != 0) = true then (if (y_4 == y_16) = true then some (((y_3).length : Int) == 0) else some false) else ((if (y_4 != 0) = true then some true else some (((y_3).length : Int) != p0_1))).bind fun s_17 => (if s_17 = true then some false else (loopM FUEL (fun (s : Int) => fiduciallaw50_SeamMosaics_s1 p0_0 p0_3 p1_3 y_3 s) 0).bind fun | .inl r => some r | .inr _ => some true)))))
/-! seam_Through_c1 -/
def seam_Through_c1 (p0 : Int) (p1 : Int) (q0_0 : Int) (q1_0 : Int) : Option Bool :=
  (if (p0 != q0_0) = true then some true else some (p1 == q1_0))
/-! seam_Through -/
def seam_Through (p0 : List (List Int)) (p1 : Int) (p2 : Int) : Option (List Int × Int × List (List Int) × Int) :=
  (seam_Check p0).bind fun y_1 => (if (y_1 != 0) = true then some (([] : List Int), 0, ([] : List (List Int)), y_1) else ((if (decide (p1 < 0)) = true then some true else (if (decide ((p0.length : Int) ≤ p1)) = true then some true else (if (decide (p2 < 0)) = true then some true else (ix p0 (0 : Int)).bind fun v_7 => some (decide (((v_7).length : Int) ≤ p2)))))).bind fun s_2 => (if s_2 = true then some (([] : List Int), 0, ([] : List (List Int)), 2) else (seam_first p0 (fun (z_3 : Int) (z_4 : Int) => seam_Through_c1 z_3 z_4 p1 p2)).bind fun (y_5, y_6) => some (y_5, y_6, ([] : List (List Int)), 0)))
/-! fiduciallaw50_through -/
def fiduciallaw50_through_s2 (p1 : Int) (p2 : Int) (s_2 : Int) (y_7 : List Int) (l_8 : List Int) (s_9 : Int) : Option (Step (List Int × Int) (List Int)) :=
  (if (decide (s_9 < ((y_7).length : Int))) = true then ((if (s_2 == p1) = true then some (s_9 != p2) else some false)).bind fun s_11 => ((if s_11 = true then chk (0 ≤ s_9 ∧ s_9 < (l_8.length : Int)) (some (l_8.set s_9.toNat 1099511627776)) else some l_8)).bind fun l_12 => some (.next (l_12, w64 (s_9 + 1))) else some (.done l_8))
def fiduciallaw50_through_s1 (p0 : List (List Int)) (p1 : Int) (p2 : Int) (l_1 : List (List Int)) (s_2 : Int) : Option (Step (List (List Int) × Int) (List (List Int))) :=
  (if (decide (s_2 < (p0.length : Int))) = true then (ix p0 s_2).bind fun v_6 => (slices_Clone_sint v_6).bind fun y_7 => (loopM FUEL (fun (s : List Int × Int) => fiduciallaw50_through_s2 p1 p2 s_2 y_7 s.1 s.2) (y_7, 0)).bind fun l_10 => chk (l_1.length + 1 ≤ 1099511627776) (some (.next ((l_1 ++ ([l_10] : List (List Int))), w64 (s_2 + 1)))) else some (.done l_1))
def fiduciallaw50_through (p0 : List (List Int)) (p1 : Int) (p2 : Int) : Option (List Int × Int) :=
  (loopM FUEL (fun (s : List (List Int) × Int) => fiduciallaw50_through_s1 p0 p1 p2 s.1 s.2) (([] : List (List Int)), 0)).bind fun l_3 => (fiduciallaw50_Least l_3).bind fun (y_4, y_5) => some (y_4, y_5)
/-! fiduciallaw50_SeamThrough -/
def fiduciallaw50_SeamThrough_s1 (p0 : List (List Int)) (p1 : Int) (y_15 : Int) (v_18 : List Int) (s_19 : Bool) (s_20 : Int) : Option (Step (Bool × Int) (Bool ⊕ Bool)) :=
  (if (decide (s_20 < ((v_18).length : Int))) = true then (seam_Through p0 p1 s_20).bind fun (y_22, y_23, y_24, y_25) => ((if (y_25 != 0) = true then some true else some (decide (y_23 < y_15)))).bind fun s_26 => (if s_26 = true then some (.done (.inl false)) else ((if s_19 = true then some true else some (y_23 == y_15))).bind fun s_27 => some (.next (s_27, w64 (s_20 + 1)))) else some (.done (.inr s_19)))
def fiduciallaw50_SeamThrough (p0 : List (List Int)) (p1 : Int) (p2 : Int) : Option Bool :=
  (fiduciallaw50_known).bind fun y_1 => (if (!y_1) = true then some false else (fiduciallaw50_Few p0).bind fun y_2 => (if (!y_2) = true then some true else (seam_Through p0 p1 p2).bind fun (y_3, y_4, y_5, y_6) => (fiduciallaw50_Checked p0).bind fun y_7 => ((if (y_7 == 0) = true then (if (decide (p1 < 0)) = true then some true else (if (decide ((p0.length : Int) ≤ p1)) = true then some true else (if (decide (p2 < 0)) = true then some true else (ix p0 (0 : Int)).bind fun v_30 => some (decide (((v_30).length : Int) ≤ p2))))) else some false)).bind fun s_8 => ((if s_8 = true then some 2 else some y_7)).bind fun s_9 => (if (s_9 != 0) = true then (if (y_6 == s_9) = true then (fiduciallaw50_none y_3 y_4 y_5).bind fun y_10 => some y_10 else some false) else (fiduciallaw50_through p0 p1 p2).bind fun (y_11, y_12) => ((if (y_6 != 0) = true then some true else (slices_Equal_sint y_3 y_11).bind fun y_28 => (if (!y_28) = true then some true else (fiduciallaw50_Total p0 y_11).bind fun y_29 => (if (y_4 != y_29) = true then some true else some (((y_5).length : Int) != 0))))).bind fun s_13 => (if s_13 = true then some false else (seam_Find p0).bind fun (y_14, y_15, y_16, y_17) => (if (y_17 != 0) = true then some false else (ix p0 (0 : Int)).bind fun v_18 => (loopM FUEL (fun (s : Bool × Int) => fiduciallaw50_SeamThrough_s1 p0 p1 y_15 v_18 s.1 s.2) (false, 0)).bind fun | .inl r => some r | .inr s_21 => some s_21)))))
end Go.Proofs.Ytomlpofoaokmdaa
