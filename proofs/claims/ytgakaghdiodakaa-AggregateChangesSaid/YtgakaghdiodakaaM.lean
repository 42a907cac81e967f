import Derived.Test.YtgakaghdiodakaaEng0
import GoSem.Core.View
set_option linter.unusedVariables false
namespace Go.Proofs.Ytgakaghdiodakaa
open Go.E

/-! slices_Min_sint -/
def slices_Min_sint_s1 (p0 : List Int) (s_2 : Int) (s_3 : Int) : Option (Step (Int × Int) Int) :=
  (if (decide (s_3 < (p0.length : Int))) = true then (ix p0 s_3).bind fun v_5 => some (.next ((if v_5 < s_2 then v_5 else s_2), w64 (s_3 + 1))) else some (.done s_2))
def slices_Min_sint (p0 : List Int) : Option Int :=
  (if (decide ((p0.length : Int) < 1)) = true then none else (ix p0 (0 : Int)).bind fun v_1 => (loopM FUEL (fun (s : Int × Int) => slices_Min_sint_s1 p0 s.1 s.2) (v_1, 1)).bind fun s_4 => some s_4)
/-! slices_Max_sint -/
def slices_Max_sint_s1 (p0 : List Int) (s_2 : Int) (s_3 : Int) : Option (Step (Int × Int) Int) :=
  (if (decide (s_3 < (p0.length : Int))) = true then (ix p0 s_3).bind fun v_5 => some (.next ((if s_2 < v_5 then v_5 else s_2), w64 (s_3 + 1))) else some (.done s_2))
def slices_Max_sint (p0 : List Int) : Option Int :=
  (if (decide ((p0.length : Int) < 1)) = true then none else (ix p0 (0 : Int)).bind fun v_1 => (loopM FUEL (fun (s : Int × Int) => slices_Max_sint_s1 p0 s.1 s.2) (v_1, 1)).bind fun s_4 => some s_4)
/-! aggregate_Check -/
def aggregate_Check_s1 (p0 : List (List Int)) (s_2 : Int) : Option (Step Int (Int ⊕ Unit)) :=
  (if (decide (s_2 < (p0.length : Int))) = true then (ix p0 s_2).bind fun v_3 => ((ix p0 (0 : Int)).bind fun v_5 => (if (((v_3).length : Int) != ((v_5).length : Int)) = true then some true else (slices_Min_sint v_3).bind fun y_6 => (if (decide (y_6 < 0)) = true then some true else (slices_Max_sint v_3).bind fun y_7 => some (decide (1048576 < y_7))))).bind fun s_4 => (if s_4 = true then some (.done (.inl 1)) else some (.next (w64 (s_2 + 1)))) else some (.done (.inr ())))
def aggregate_Check (p0 : List (List Int)) : Option Int :=
  ((if (decide ((p0.length : Int) < 1)) = true then some true else (if (decide (64 < (p0.length : Int))) = true then some true else (ix p0 (0 : Int)).bind fun v_8 => (if (decide (((v_8).length : Int) < 1)) = true then some true else (ix p0 (0 : Int)).bind fun v_9 => some (decide (64 < ((v_9).length : Int))))))).bind fun s_1 => (if s_1 = true then some 1 else (loopM FUEL (fun (s : Int) => aggregate_Check_s1 p0 s) 0).bind fun | .inl r => some r | .inr _ => some 0)
/-! aggregate_penalties -/
def aggregate_penalties (p0 : Int) (p1 : Int) : Option Int :=
  ((if (decide (p0 < 0)) = true then some true else (if (decide (p1 < p0)) = true then some true else some (decide (1048576 < p1))))).bind fun s_1 => (if s_1 = true then some 2 else some 0)
/-! aggregate_checked -/
def aggregate_checked (p0 : List (List Int)) (p1 : Int) (p2 : Int) : Option Int :=
  (aggregate_Check p0).bind fun y_1 => (if (y_1 != 0) = true then some y_1 else (aggregate_penalties p1 p2).bind fun y_2 => some y_2)
/-! slices_Clone_ssint -/
def slices_Clone_ssint (p0 : List (List Int)) : Option (List (List Int)) :=
  chk (([] : List (List Int)).length + p0.length ≤ 1099511627776) (some (([] : List (List Int)) ++ p0))
/-! aggregate_reversed -/
def aggregate_reversed_s1 (l_2 : List (List Int)) (s_3 : Int) (s_4 : Int) : Option (Step (List (List Int) × Int × Int) (List (List Int))) :=
  (if (decide (s_3 < s_4)) = true then (ix l_2 s_4).bind fun v_6 => (ix l_2 s_3).bind fun v_7 => chk (0 ≤ s_3 ∧ s_3 < (l_2.length : Int)) (chk (0 ≤ s_4 ∧ s_4 < ((l_2.set s_3.toNat v_6).length : Int)) (some (.next (((l_2.set s_3.toNat v_6).set s_4.toNat v_7), w64 (s_3 + 1), w64 (s_4 - 1))))) else some (.done l_2))
def aggregate_reversed (p0 : List (List Int)) : Option (List (List Int)) :=
  (slices_Clone_ssint p0).bind fun y_1 => (loopM FUEL (fun (s : List (List Int) × Int × Int) => aggregate_reversed_s1 s.1 s.2.1 s.2.2) (y_1, 0, w64 (((y_1).length : Int) - 1))).bind fun l_5 => some l_5
/-! slices_Clone_sint -/
def slices_Clone_sint (p0 : List Int) : Option (List Int) :=
  chk (([] : List Int).length + p0.length ≤ 1099511627776) (some (([] : List Int) ++ p0))
/-! aggregate_reached -/
def aggregate_reached_s1 (p0 : List Int) (p1 : Int) (p2 : Int) (y_1 : Int) (l_2 : List Int) (s_3 : Int) : Option (Step (List Int × Int) (List Int)) :=
  (if (decide (s_3 < (p0.length : Int))) = true then (ix p0 s_3).bind fun v_5 => chk (0 ≤ s_3 ∧ s_3 < (l_2.length : Int)) (((if (decide (0 < s_3)) = true then (ix (l_2.set s_3.toNat (if (w64 (y_1 + p2)) < v_5 then (w64 (y_1 + p2)) else v_5)) s_3).bind fun v_10 => (ix p0 (w64 (s_3 - 1))).bind fun v_11 => chk (0 ≤ s_3 ∧ s_3 < ((l_2.set s_3.toNat (if (w64 (y_1 + p2)) < v_5 then (w64 (y_1 + p2)) else v_5)).length : Int)) (some ((l_2.set s_3.toNat (if (w64 (y_1 + p2)) < v_5 then (w64 (y_1 + p2)) else v_5)).set s_3.toNat (if (w64 (v_11 + p1)) < v_10 then (w64 (v_11 + p1)) else v_10))) else some (l_2.set s_3.toNat (if (w64 (y_1 + p2)) < v_5 then (w64 (y_1 + p2)) else v_5)))).bind fun l_6 => ((if (decide ((w64 (s_3 + 1)) < (p0.length : Int))) = true then (ix l_6 s_3).bind fun v_8 => (ix p0 (w64 (s_3 + 1))).bind fun v_9 => chk (0 ≤ s_3 ∧ s_3 < (l_6.length : Int)) (some (l_6.set s_3.toNat (if (w64 (v_9 + p1)) < v_8 then (w64 (v_9 + p1)) else v_8))) else some l_6)).bind fun l_7 => some (.next (l_7, w64 (s_3 + 1)))) else some (.done l_2))
def aggregate_reached (p0 : List Int) (p1 : Int) (p2 : Int) : Option (List Int) :=
  (slices_Min_sint p0).bind fun y_1 => chk ((0 : Int) ≤ (p0.length : Int) ∧ (p0.length : Int) ≤ (p0.length : Int) ∧ (p0.length : Int) ≤ 1099511627776) ((loopM FUEL (fun (s : List Int × Int) => aggregate_reached_s1 p0 p1 p2 y_1 s.1 s.2) ((List.replicate (p0.length : Int).toNat (0 : Int)), 0)).bind fun l_4 => some l_4)
/-! aggregate_table -/
def aggregate_table_s2 (v_6 : List Int) (l_9 : List Int) (s_10 : Int) : Option (Step (List Int × Int) (List Int)) :=
  (if (decide (s_10 < ((v_6).length : Int))) = true then (ix v_6 s_10).bind fun v_12 => (ix l_9 s_10).bind fun v_13 => chk (0 ≤ s_10 ∧ s_10 < (l_9.length : Int)) (some (.next ((l_9.set s_10.toNat (w64 (v_13 + v_12))), w64 (s_10 + 1)))) else some (.done l_9))
def aggregate_table_s1 (p0 : List (List Int)) (p1 : Int) (p2 : Int) (l_3 : List (List Int)) (s_4 : Int) : Option (Step (List (List Int) × Int) (List (List Int))) :=
  (if (decide (s_4 < (((p0.take p0.length).drop (1 : Int).toNat).length : Int))) = true then (ix ((p0.take p0.length).drop (1 : Int).toNat) s_4).bind fun v_6 => (ix l_3 (w64 (((l_3).length : Int) - 1))).bind fun v_7 => (aggregate_reached v_7 p1 p2).bind fun y_8 => (loopM FUEL (fun (s : List Int × Int) => aggregate_table_s2 v_6 s.1 s.2) (y_8, 0)).bind fun l_11 => chk (l_3.length + 1 ≤ 1099511627776) (some (.next ((l_3 ++ ([l_11] : List (List Int))), w64 (s_4 + 1)))) else some (.done l_3))
def aggregate_table (p0 : List (List Int)) (p1 : Int) (p2 : Int) : Option (List (List Int)) :=
  (ix p0 (0 : Int)).bind fun v_1 => (slices_Clone_sint v_1).bind fun y_2 => chk (0 ≤ (1 : Int) ∧ (1 : Int) ≤ (p0.length : Int) ∧ (p0.length : Int) ≤ (p0.length : Int)) ((loopM FUEL (fun (s : List (List Int) × Int) => aggregate_table_s1 p0 p1 p2 s.1 s.2) (([y_2] : List (List Int)), 0)).bind fun l_5 => some l_5)
/-! slices_Index_sint -/
def slices_Index_sint_s1 (p0 : List Int) (p1 : Int) (s_1 : Int) : Option (Step Int (Int ⊕ Unit)) :=
  (if (decide (s_1 < (p0.length : Int))) = true then (ix p0 s_1).bind fun v_2 => (if (p1 == v_2) = true then some (.done (.inl s_1)) else some (.next (w64 (s_1 + 1)))) else some (.done (.inr ())))
def slices_Index_sint (p0 : List Int) (p1 : Int) : Option Int :=
  (loopM FUEL (fun (s : Int) => slices_Index_sint_s1 p0 p1 s) 0).bind fun | .inl r => some r | .inr _ => some (-1)
/-! aggregate_between -/
def aggregate_between (p0 : Int) (p1 : Int) (p2 : Int) : Option Int :=
  (if (p0 == 0) = true then some 0 else ((if (p0 == 1) = true then some (p0 == 1) else some (p0 == (-1)))).bind fun s_1 => (if s_1 = true then some p1 else some p2))
/-! aggregate_Line -/
def aggregate_Line_s2 (p1 : Int) (p2 : Int) (v_13 : List Int) (v_14 : Int) (s_15 : Int) (s_16 : Int) : Option (Step (Int × Int) Int) :=
  (if (decide (s_15 < ((v_13).length : Int))) = true then (ix v_13 s_15).bind fun v_18 => (ix v_13 s_16).bind fun v_19 => (aggregate_between (w64 (s_15 - v_14)) p1 p2).bind fun y_20 => (aggregate_between (w64 (s_16 - v_14)) p1 p2).bind fun y_21 => ((if (decide ((w64 (v_18 + y_20)) < (w64 (v_19 + y_21)))) = true then some s_15 else some s_16)).bind fun s_22 => some (.next (w64 (s_15 + 1), s_22)) else some (.done s_16))
def aggregate_Line_s1 (p1 : Int) (p2 : Int) (y_4 : List (List Int)) (l_9 : List Int) (s_10 : Int) : Option (Step (List Int × Int) (List Int)) :=
  (if (decide (s_10 < (((y_4.take y_4.length).drop (1 : Int).toNat).length : Int))) = true then (ix ((y_4.take y_4.length).drop (1 : Int).toNat) s_10).bind fun v_13 => (ix l_9 (w64 (((l_9).length : Int) - 1))).bind fun v_14 => (loopM FUEL (fun (s : Int × Int) => aggregate_Line_s2 p1 p2 v_13 v_14 s.1 s.2) (0, 0)).bind fun s_17 => chk (l_9.length + 1 ≤ 1099511627776) (some (.next ((l_9 ++ ([s_17] : List Int)), w64 (s_10 + 1)))) else some (.done l_9))
def aggregate_Line (p0 : List (List Int)) (p1 : Int) (p2 : Int) : Option (List Int × Int × List (List Int) × Int) :=
  (aggregate_checked p0 p1 p2).bind fun y_1 => (if (y_1 != 0) = true then some (([] : List Int), 0, ([] : List (List Int)), y_1) else (aggregate_reversed p0).bind fun y_2 => (aggregate_table y_2 p1 p2).bind fun y_3 => (aggregate_reversed y_3).bind fun y_4 => (ix y_4 (0 : Int)).bind fun v_5 => (slices_Min_sint v_5).bind fun y_6 => (ix y_4 (0 : Int)).bind fun v_7 => (slices_Index_sint v_7 y_6).bind fun y_8 => chk (0 ≤ (1 : Int) ∧ (1 : Int) ≤ (y_4.length : Int) ∧ (y_4.length : Int) ≤ (y_4.length : Int)) ((loopM FUEL (fun (s : List Int × Int) => aggregate_Line_s1 p1 p2 y_4 s.1 s.2) (([y_8] : List Int), 0)).bind fun l_11 => (aggregate_table p0 p1 p2).bind fun y_12 => some (l_11, y_6, y_12, 0)))
/-! slices_Equal_sint -/
def slices_Equal_sint_s1 (p0 : List Int) (p1 : List Int) (s_1 : Int) : Option (Step Int (Bool ⊕ Unit)) :=
  (if (decide (s_1 < (p0.length : Int))) = true then (ix p0 s_1).bind fun v_2 => (ix p1 s_1).bind fun v_3 => (if (v_2 != v_3) = true then some (.done (.inl false)) else some (.next (w64 (s_1 + 1)))) else some (.done (.inr ())))
def slices_Equal_sint (p0 : List Int) (p1 : List Int) : Option Bool :=
  (if ((p0.length : Int) != (p1.length : Int)) = true then some false else (loopM FUEL (fun (s : Int) => slices_Equal_sint_s1 p0 p1 s) 0).bind fun | .inl r => some r | .inr _ => some true)
/-! slices_IndexFunc_ssint -/
def slices_IndexFunc_ssint_s1 (p0 : List (List Int)) (p1 : List Int → Option Bool) (s_1 : Int) : Option (Step Int (Int ⊕ Unit)) :=
  (if (decide (s_1 < (p0.length : Int))) = true then (ix p0 s_1).bind fun v_2 => (p1 v_2).bind fun y_3 => (if y_3 = true then some (.done (.inl s_1)) else some (.next (w64 (s_1 + 1)))) else some (.done (.inr ())))
def slices_IndexFunc_ssint (p0 : List (List Int)) (p1 : List Int → Option Bool) : Option Int :=
  (loopM FUEL (fun (s : Int) => slices_IndexFunc_ssint_s1 p0 p1 s) 0).bind fun | .inl r => some r | .inr _ => some (-1)
/-! slices_ContainsFunc_ssint -/
def slices_ContainsFunc_ssint (p0 : List (List Int)) (p1 : List Int → Option Bool) : Option Bool :=
  (slices_IndexFunc_ssint p0 p1).bind fun y_1 => some (decide (0 ≤ y_1))
/-! aggregate_Prove_c1 -/
def aggregate_Prove_c1 (p0 : List Int) (q0_0 : List (List Int)) : Option Bool :=
  (ix q0_0 (0 : Int)).bind fun v_1 => some ((p0.length : Int) != ((v_1).length : Int))
/-! aggregate_Prove -/
def aggregate_Prove_s3 (p0 : List (List Int)) (s_4 : Int) (v_7 : List Int) (l_8 : List Int) (s_9 : Int) : Option (Step Int (Int ⊕ Unit)) :=
  (if (decide (s_9 < ((v_7).length : Int))) = true then (ix v_7 s_9).bind fun v_10 => (ix l_8 s_9).bind fun v_11 => (ix p0 s_4).bind fun v_12 => (ix v_12 s_9).bind fun v_13 => (if (decide ((w64 (v_11 + v_13)) < v_10)) = true then some (.done (.inl 12)) else some (.next (w64 (s_9 + 1)))) else some (.done (.inr ())))
def aggregate_Prove_s2 (p0 : List (List Int)) (p1 : Int) (p2 : Int) (p3 : List (List Int)) (s_4 : Int) : Option (Step Int (Int ⊕ Unit)) :=
  (if (decide (s_4 < (p3.length : Int))) = true then (ix p3 s_4).bind fun v_7 => chk ((0 : Int) ≤ ((v_7).length : Int) ∧ ((v_7).length : Int) ≤ ((v_7).length : Int) ∧ ((v_7).length : Int) ≤ 1099511627776) (((if (decide (0 < s_4)) = true then (ix p3 (w64 (s_4 - 1))).bind fun v_14 => (aggregate_reached v_14 p1 p2).bind fun y_15 => some y_15 else some (List.replicate ((v_7).length : Int).toNat (0 : Int)))).bind fun l_8 => (loopM FUEL (fun (s : Int) => aggregate_Prove_s3 p0 s_4 v_7 l_8 s) 0).bind fun | .inl r => some (.done (.inl r)) | .inr _ => some (.next (w64 (s_4 + 1)))) else some (.done (.inr ())))
def aggregate_Prove_s1 (p3 : List (List Int)) (s_3 : Int) : Option (Step Int (Int ⊕ Unit)) :=
  (if (decide (s_3 < (p3.length : Int))) = true then (ix p3 s_3).bind fun v_16 => ((slices_Min_sint v_16).bind fun y_18 => (if (decide (y_18 < (-1099511627776))) = true then some true else (slices_Max_sint v_16).bind fun y_19 => some (decide (1099511627776 < y_19)))).bind fun s_17 => (if s_17 = true then some (.done (.inl 2)) else some (.next (w64 (s_3 + 1)))) else some (.done (.inr ())))
def aggregate_Prove (p0 : List (List Int)) (p1 : Int) (p2 : Int) (p3 : List (List Int)) (p4 : Int) : Option Int :=
  (aggregate_checked p0 p1 p2).bind fun y_1 => (if (y_1 != 0) = true then some y_1 else ((if ((p3.length : Int) != (p0.length : Int)) = true then some true else (slices_ContainsFunc_ssint p3 (fun (z_20 : List Int) => aggregate_Prove_c1 z_20 p0)).bind fun y_21 => some y_21)).bind fun s_2 => (if s_2 = true then some 4 else (loopM FUEL (fun (s : Int) => aggregate_Prove_s1 p3 s) 0).bind fun | .inl r => some r | .inr _ => (loopM FUEL (fun (s : Int) => aggregate_Prove_s2 p0 p1 p2 p3 s) 0).bind fun | .inl r => some r | .inr _ => (ix p3 (w64 ((p3.length : Int) - 1))).bind fun v_5 => (slices_Min_sint v_5).bind fun y_6 => (if (decide (y_6 < p4)) = true then some 12 else some 0)))
/-! fiduciallaw45_known -/
def fiduciallaw45_known  : Option Bool :=
  (aggregate_Line ([([0, 3] : List Int), ([5, 1] : List Int), ([0, 3] : List Int)] : List (List Int)) 1 2).bind fun (y_1, y_2, y_3, y_4) => (if (y_4 == 0) = true then (if (y_2 == 3) = true then (slices_Equal_sint y_1 ([0, 1, 0] : List Int)).bind fun y_5 => (if y_5 = true then (aggregate_Prove ([([0, 3] : List Int), ([5, 1] : List Int), ([0, 3] : List Int)] : List (List Int)) 1 2 y_3 3).bind fun y_6 => (if (y_6 == 0) = true then (aggregate_Prove ([([0, 3] : List Int), ([5, 1] : List Int), ([0, 3] : List Int)] : List (List Int)) 1 2 y_3 4).bind fun y_7 => (if (y_7 == 12) = true then (aggregate_Check ([] : List (List Int))).bind fun y_8 => some (y_8 == 1) else some false) else some false) else some false) else some false) else some false)
/-! fiduciallaw45_few_c1 -/
def fiduciallaw45_few_c1 (p0 : List Int) : Option Bool :=
  some (decide (20 < (p0.length : Int)))
/-! fiduciallaw45_few -/
def fiduciallaw45_few (p0 : List (List Int)) : Option Bool :=
  (if (decide ((p0.length : Int) ≤ 20)) = true then (slices_ContainsFunc_ssint p0 (fun (z_1 : List Int) => fiduciallaw45_few_c1 z_1)).bind fun y_2 => some (!y_2) else some false)
/-! slices_IndexFunc_sint -/
def slices_IndexFunc_sint_s1 (p0 : List Int) (p1 : Int → Option Bool) (s_1 : Int) : Option (Step Int (Int ⊕ Unit)) :=
  (if (decide (s_1 < (p0.length : Int))) = true then (ix p0 s_1).bind fun v_2 => (p1 v_2).bind fun y_3 => (if y_3 = true then some (.done (.inl s_1)) else some (.next (w64 (s_1 + 1)))) else some (.done (.inr ())))
def slices_IndexFunc_sint (p0 : List Int) (p1 : Int → Option Bool) : Option Int :=
  (loopM FUEL (fun (s : Int) => slices_IndexFunc_sint_s1 p0 p1 s) 0).bind fun | .inl r => some r | .inr _ => some (-1)
/-! slices_ContainsFunc_sint -/
def slices_ContainsFunc_sint (p0 : List Int) (p1 : Int → Option Bool) : Option Bool :=
  (slices_IndexFunc_sint p0 p1).bind fun y_1 => some (decide (0 ≤ y_1))
/-! fiduciallaw45_line_c1 -/
def fiduciallaw45_line_c1 (p0 : Int) : Option Bool :=
  (if (decide (p0 < 0)) = true then some true else some (decide (1048576 < p0)))
/-! fiduciallaw45_line -/
def fiduciallaw45_line_s1 (p0 : List (List Int)) (s_2 : Int) : Option (Step Int (Bool ⊕ Unit)) :=
  (if (decide (s_2 < (p0.length : Int))) = true then (ix p0 s_2).bind fun v_3 => ((ix p0 (0 : Int)).bind fun v_5 => (if (((v_3).length : Int) != ((v_5).length : Int)) = true then some true else (slices_ContainsFunc_sint v_3 (fun (z_6 : Int) => fiduciallaw45_line_c1 z_6)).bind fun y_7 => some y_7)).bind fun s_4 => (if s_4 = true then some (.done (.inl false)) else some (.next (w64 (s_2 + 1)))) else some (.done (.inr ())))
def fiduciallaw45_line (p0 : List (List Int)) : Option Bool :=
  ((if (decide ((p0.length : Int) < 1)) = true then some true else (if (decide (64 < (p0.length : Int))) = true then some true else (ix p0 (0 : Int)).bind fun v_8 => (if (decide (((v_8).length : Int) < 1)) = true then some true else (ix p0 (0 : Int)).bind fun v_9 => some (decide (64 < ((v_9).length : Int))))))).bind fun s_1 => (if s_1 = true then some false else (loopM FUEL (fun (s : Int) => fiduciallaw45_line_s1 p0 s) 0).bind fun | .inl r => some r | .inr _ => some true)
/-! fiduciallaw45_penalties -/
def fiduciallaw45_penalties (p0 : Int) (p1 : Int) : Option Bool :=
  (if (decide (0 ≤ p0)) = true then (if (decide (p0 ≤ p1)) = true then some (decide (p1 ≤ 1048576)) else some false) else some false)
/-! fiduciallaw45_lined -/
def fiduciallaw45_lined (p0 : List (List Int)) (p1_0 : Int) (p1_1 : Int) : Option Int :=
  (fiduciallaw45_line p0).bind fun y_1 => (if (!y_1) = true then some 1 else (fiduciallaw45_penalties p1_0 p1_1).bind fun y_2 => (if (!y_2) = true then some 2 else some 0))
/-! fiduciallaw45_jump -/
def fiduciallaw45_jump (p0 : Int) (p1 : Int) (p2 : Int) : Option Int :=
  (if (p0 == 0) = true then some 0 else ((if (p0 == 1) = true then some (p0 == 1) else some (p0 == (-1)))).bind fun s_1 => (if s_1 = true then some p1 else some p2))
/-! fiduciallaw45_least -/
def fiduciallaw45_least_s3 (p0 : List (List Int)) (p1 : Int) (p2 : Int) (s_2 : Int) (l_5 : List (List Int)) (s_6 : Int) (v_9 : List Int) (s_10 : Int) (s_11 : Int) : Option (Step (Int × Int) Int) :=
  (if (decide (s_11 < ((v_9).length : Int))) = true then ((if (decide ((w64 (s_2 + 1)) < (p0.length : Int))) = true then (if (s_11 == 0) = true then some true else (ix l_5 (w64 (s_2 + 1))).bind fun v_19 => (ix v_19 s_11).bind fun v_20 => (fiduciallaw45_jump (w64 (s_11 - s_6)) p1 p2).bind fun y_21 => some (decide ((w64 (v_20 + y_21)) < s_10))) else some false)).bind fun s_14 => ((if s_14 = true then (ix l_5 (w64 (s_2 + 1))).bind fun v_16 => (ix v_16 s_11).bind fun v_17 => (fiduciallaw45_jump (w64 (s_11 - s_6)) p1 p2).bind fun y_18 => some (w64 (v_17 + y_18)) else some s_10)).bind fun s_15 => some (.next (s_15, w64 (s_11 + 1))) else some (.done s_10))
def fiduciallaw45_least_s2 (p0 : List (List Int)) (p1 : Int) (p2 : Int) (s_2 : Int) (v_4 : List Int) (l_5 : List (List Int)) (s_6 : Int) : Option (Step (List (List Int) × Int) (List (List Int))) :=
  (if (decide (s_6 < ((v_4).length : Int))) = true then (ix v_4 s_6).bind fun v_8 => (ix p0 s_2).bind fun v_9 => (loopM FUEL (fun (s : Int × Int) => fiduciallaw45_least_s3 p0 p1 p2 s_2 l_5 s_6 v_9 s.1 s.2) (0, 0)).bind fun s_12 => (ix l_5 s_2).bind fun v_13 => chk (v_13.length + 1 ≤ 1099511627776) (chk (0 ≤ s_2 ∧ s_2 < (l_5.length : Int)) (some (.next ((l_5.set s_2.toNat (v_13 ++ ([w64 (v_8 + s_12)] : List Int))), w64 (s_6 + 1))))) else some (.done l_5))
def fiduciallaw45_least_s1 (p0 : List (List Int)) (p1 : Int) (p2 : Int) (l_1 : List (List Int)) (s_2 : Int) : Option (Step (List (List Int) × Int) (List (List Int))) :=
  (if (decide (0 ≤ s_2)) = true then (ix p0 s_2).bind fun v_4 => (loopM FUEL (fun (s : List (List Int) × Int) => fiduciallaw45_least_s2 p0 p1 p2 s_2 v_4 s.1 s.2) (l_1, 0)).bind fun l_7 => some (.next (l_7, w64 (s_2 - 1))) else some (.done l_1))
def fiduciallaw45_least (p0 : List (List Int)) (p1 : Int) (p2 : Int) : Option (List (List Int)) :=
  chk ((0 : Int) ≤ (p0.length : Int) ∧ (p0.length : Int) ≤ (p0.length : Int) ∧ (p0.length : Int) ≤ 1099511627776) ((loopM FUEL (fun (s : List (List Int) × Int) => fiduciallaw45_least_s1 p0 p1 p2 s.1 s.2) ((List.replicate ((p0.length : Int) : Int).toNat ([] : List Int)), w64 ((p0.length : Int) - 1))).bind fun l_3 => some l_3)
/-! fiduciallaw45_first -/
def fiduciallaw45_first_s2 (p1 : Int) (p2 : Int) (y_1 : List (List Int)) (s_7 : Int) (v_9 : Int) (v_11 : Int) (v_13 : Int) (v_14 : List Int) (l_15 : List Int) (s_16 : Int) : Option (Step (List Int × Int) (List Int)) :=
  (if (decide (s_16 < ((v_14).length : Int))) = true then (ix y_1 s_7).bind fun v_18 => (ix v_18 s_16).bind fun v_19 => (fiduciallaw45_jump (w64 (s_16 - v_9)) p1 p2).bind fun y_20 => (if ((w64 (v_19 + y_20)) == (w64 (v_11 - v_13))) = true then chk (l_15.length + 1 ≤ 1099511627776) (some (.done (l_15 ++ ([s_16] : List Int)))) else some (.next (l_15, w64 (s_16 + 1)))) else some (.done l_15))
def fiduciallaw45_first_s1 (p0 : List (List Int)) (p1 : Int) (p2 : Int) (y_1 : List (List Int)) (l_6 : List Int) (s_7 : Int) : Option (Step (List Int × Int) (List Int)) :=
  (if (decide (s_7 < (p0.length : Int))) = true then (ix l_6 (w64 (s_7 - 1))).bind fun v_9 => (ix y_1 (w64 (s_7 - 1))).bind fun v_10 => (ix v_10 v_9).bind fun v_11 => (ix p0 (w64 (s_7 - 1))).bind fun v_12 => (ix v_12 v_9).bind fun v_13 => (ix p0 s_7).bind fun v_14 => (loopM FUEL (fun (s : List Int × Int) => fiduciallaw45_first_s2 p1 p2 y_1 s_7 v_9 v_11 v_13 v_14 s.1 s.2) (l_6, 0)).bind fun l_17 => some (.next (l_17, w64 (s_7 + 1))) else some (.done l_6))
def fiduciallaw45_first (p0 : List (List Int)) (p1 : Int) (p2 : Int) : Option (List Int × Int) :=
  (fiduciallaw45_least p0 p1 p2).bind fun y_1 => (ix y_1 (0 : Int)).bind fun v_2 => (slices_Min_sint v_2).bind fun y_3 => (ix y_1 (0 : Int)).bind fun v_4 => (slices_Index_sint v_4 y_3).bind fun y_5 => (loopM FUEL (fun (s : List Int × Int) => fiduciallaw45_first_s1 p0 p1 p2 y_1 s.1 s.2) (([y_5] : List Int), 1)).bind fun l_8 => some (l_8, y_3)
/-! fiduciallaw45_proves -/
def fiduciallaw45_proves_s5 (p0 : List (List Int)) (p1 : Int) (p2 : Int) (p3 : List (List Int)) (s_3 : Int) (v_6 : List Int) (s_7 : Int) (v_8 : Int) (s_10 : Int) : Option (Step Int (Int ⊕ Unit)) :=
  (if (decide (s_10 < ((v_6).length : Int))) = true then ((if (decide (0 < s_3)) = true then (ix p0 s_3).bind fun v_12 => (ix v_12 s_7).bind fun v_13 => (ix p3 (w64 (s_3 - 1))).bind fun v_14 => (ix v_14 s_10).bind fun v_15 => (fiduciallaw45_jump (w64 (s_7 - s_10)) p1 p2).bind fun y_16 => some (decide ((w64 ((w64 (v_13 + v_15)) + y_16)) < v_8)) else some false)).bind fun s_11 => (if s_11 = true then some (.done (.inl 12)) else some (.next (w64 (s_10 + 1)))) else some (.done (.inr ())))
def fiduciallaw45_proves_s4 (p0 : List (List Int)) (p1 : Int) (p2 : Int) (p3 : List (List Int)) (s_3 : Int) (v_6 : List Int) (s_7 : Int) : Option (Step Int (Int ⊕ Unit)) :=
  (if (decide (s_7 < ((v_6).length : Int))) = true then (ix v_6 s_7).bind fun v_8 => ((if (s_3 == 0) = true then (ix p0 (0 : Int)).bind fun v_17 => (ix v_17 s_7).bind fun v_18 => some (decide (v_18 < v_8)) else some false)).bind fun s_9 => (if s_9 = true then some (.done (.inl 12)) else (loopM FUEL (fun (s : Int) => fiduciallaw45_proves_s5 p0 p1 p2 p3 s_3 v_6 s_7 v_8 s) 0).bind fun | .inl r => some (.done (.inl r)) | .inr _ => some (.next (w64 (s_7 + 1)))) else some (.done (.inr ())))
def fiduciallaw45_proves_s3 (p0 : List (List Int)) (p1 : Int) (p2 : Int) (p3 : List (List Int)) (s_3 : Int) : Option (Step Int (Int ⊕ Unit)) :=
  (if (decide (s_3 < (p3.length : Int))) = true then (ix p3 s_3).bind fun v_6 => (loopM FUEL (fun (s : Int) => fiduciallaw45_proves_s4 p0 p1 p2 p3 s_3 v_6 s) 0).bind fun | .inl r => some (.done (.inl r)) | .inr _ => some (.next (w64 (s_3 + 1))) else some (.done (.inr ())))
def fiduciallaw45_proves_s6 (v_19 : List Int) (s_20 : Int) : Option (Step Int (Int ⊕ Unit)) :=
  (if (decide (s_20 < ((v_19).length : Int))) = true then (ix v_19 s_20).bind fun v_21 => ((if (decide (v_21 < (-1099511627776))) = true then some true else some (decide (1099511627776 < v_21)))).bind fun s_22 => (if s_22 = true then some (.done (.inl 2)) else some (.next (w64 (s_20 + 1)))) else some (.done (.inr ())))
def fiduciallaw45_proves_s2 (p3 : List (List Int)) (s_2 : Int) : Option (Step Int (Int ⊕ Unit)) :=
  (if (decide (s_2 < (p3.length : Int))) = true then (ix p3 s_2).bind fun v_19 => (loopM FUEL (fun (s : Int) => fiduciallaw45_proves_s6 v_19 s) 0).bind fun | .inl r => some (.done (.inl r)) | .inr _ => some (.next (w64 (s_2 + 1))) else some (.done (.inr ())))
def fiduciallaw45_proves_s1 (p0 : List (List Int)) (p3 : List (List Int)) (s_1 : Int) : Option (Step Int (Int ⊕ Unit)) :=
  (if (decide (s_1 < (p3.length : Int))) = true then (ix p3 s_1).bind fun v_23 => (ix p0 (0 : Int)).bind fun v_24 => (if (((v_23).length : Int) != ((v_24).length : Int)) = true then some (.done (.inl 4)) else some (.next (w64 (s_1 + 1)))) else some (.done (.inr ())))
def fiduciallaw45_proves (p0 : List (List Int)) (p1 : Int) (p2 : Int) (p3 : List (List Int)) (p4 : Int) : Option Int :=
  (if ((p3.length : Int) != (p0.length : Int)) = true then some 4 else (loopM FUEL (fun (s : Int) => fiduciallaw45_proves_s1 p0 p3 s) 0).bind fun | .inl r => some r | .inr _ => (loopM FUEL (fun (s : Int) => fiduciallaw45_proves_s2 p3 s) 0).bind fun | .inl r => some r | .inr _ => (loopM FUEL (fun (s : Int) => fiduciallaw45_proves_s3 p0 p1 p2 p3 s) 0).bind fun | .inl r => some r | .inr _ => (ix p3 (w64 ((p3.length : Int) - 1))).bind fun v_4 => (slices_Min_sint v_4).bind fun y_5 => (if (decide (y_5 < p4)) = true then some 12 else some 0))
/-! fiduciallaw45_labelled_c1 -/
def fiduciallaw45_labelled_c1 (p0 : Int) (q0_0 : Int) : Option Bool :=
  (if (decide (p0 < 0)) = true then some true else some (decide (q0_0 ≤ p0)))
/-! fiduciallaw45_labelled -/
def fiduciallaw45_labelled (p0 : List Int) (p1 : Int) (p2 : Int) : Option Int :=
  (if ((p0.length : Int) != p1) = true then some 4 else (slices_ContainsFunc_sint p0 (fun (z_1 : Int) => fiduciallaw45_labelled_c1 z_1 p2)).bind fun y_2 => (if y_2 = true then some 2 else some 0))
/-! fiduciallaw45_energy -/
def fiduciallaw45_energy_s1 (p0 : List (List Int)) (p1 : Int) (p2 : Int) (p3 : List Int) (s_1 : Int) (s_2 : Int) : Option (Step (Int × Int) Int) :=
  (if (decide (s_2 < (p3.length : Int))) = true then (ix p3 s_2).bind fun v_4 => (ix p0 s_2).bind fun v_5 => (ix v_5 v_4).bind fun v_6 => ((if (decide (0 < s_2)) = true then (ix p3 (w64 (s_2 - 1))).bind fun v_8 => (fiduciallaw45_jump (w64 (v_4 - v_8)) p1 p2).bind fun y_9 => some (w64 ((w64 (s_1 + v_6)) + y_9)) else some (w64 (s_1 + v_6)))).bind fun s_7 => some (.next (s_7, w64 (s_2 + 1))) else some (.done s_1))
def fiduciallaw45_energy (p0 : List (List Int)) (p1 : Int) (p2 : Int) (p3 : List Int) : Option Int :=
  (loopM FUEL (fun (s : Int × Int) => fiduciallaw45_energy_s1 p0 p1 p2 p3 s.1 s.2) (0, 0)).bind fun s_3 => some s_3
/-! fiduciallaw45_AggregateLines -/
def fiduciallaw45_AggregateLines (p0 : List (List Int)) (p1_0 : Int) (p1_1 : Int) (p2 : List Int) : Option Bool :=
  (fiduciallaw45_known).bind fun y_1 => (if (!y_1) = true then some false else ((fiduciallaw45_few p0).bind fun y_17 => (if (!y_17) = true then some true else some (decide (30 < (p2.length : Int))))).bind fun s_2 => (if s_2 = true then some true else (aggregate_Line p0 p1_0 p1_1).bind fun (y_3, y_4, y_5, y_6) => (fiduciallaw45_lined p0 p1_0 p1_1).bind fun y_7 => (if (y_7 != 0) = true then (if (y_6 == y_7) = true then (if (y_4 == 0) = true then some ((w64 (((y_3).length : Int) + ((y_5).length : Int))) == 0) else some false) else some false) else (fiduciallaw45_first p0 p1_0 p1_1).bind fun (y_8, y_9) => ((if (y_6 != 0) = true then some true else (if (y_4 != y_9) = true then some true else (slices_Equal_sint y_3 y_8).bind fun y_14 => (if (!y_14) = true then some true else (fiduciallaw45_proves p0 p1_0 p1_1 y_5 y_4).bind fun y_15 => (if (y_15 != 0) = true then some true else (aggregate_Prove p0 p1_0 p1_1 y_5 y_4).bind fun y_16 => some (y_16 != 0)))))).bind fun s_10 => (if s_10 = true then some false else (ix p0 (0 : Int)).bind fun v_11 => (fiduciallaw45_labelled p2 (p0.length : Int) ((v_11).length : Int)).bind fun y_12 => (if (y_12 != 0) = true then some true else (fiduciallaw45_energy p0 p1_0 p1_1 p2).bind fun y_13 => some (decide (y_4 ≤ y_13)))))))
/-! fiduciallaw45_AggregateProofs -/
def fiduciallaw45_AggregateProofs (p0 : List (List Int)) (p1 : List (List Int)) (p2_0 : Int) (p2_1 : Int) (p2_2 : Int) (p2_3 : List Int) : Option Bool :=
  (fiduciallaw45_known).bind fun y_1 => (if (!y_1) = true then some false else ((fiduciallaw45_few p0).bind fun y_10 => (if (!y_10) = true then some true else (fiduciallaw45_few p1).bind fun y_11 => (if (!y_11) = true then some true else some (decide (30 < (p2_3.length : Int)))))).bind fun s_2 => (if s_2 = true then some true else (aggregate_Prove p0 p2_0 p2_1 p1 p2_2).bind fun y_3 => (fiduciallaw45_lined p0 p2_0 p2_1).bind fun y_4 => ((if (y_4 == 0) = true then (fiduciallaw45_proves p0 p2_0 p2_1 p1 p2_2).bind fun y_9 => some y_9 else some y_4)).bind fun s_5 => (if (y_3 != s_5) = true then some false else (if (y_3 != 0) = true then some true else (ix p0 (0 : Int)).bind fun v_6 => (fiduciallaw45_labelled p2_3 (p0.length : Int) ((v_6).length : Int)).bind fun y_7 => (if (y_7 != 0) = true then some true else (fiduciallaw45_energy p0 p2_0 p2_1 p2_3).bind fun y_8 => some (decide (p2_2 ≤ y_8)))))))
/-! aggregate_labelled_c1 -/
def aggregate_labelled_c1 (p0 : Int) (q0_0 : Int) : Option Bool :=
  (if (decide (p0 < 0)) = true then some true else some (decide (q0_0 ≤ p0)))
/-! aggregate_labelled -/
def aggregate_labelled (p0 : List Int) (p1 : Int) (p2 : Int) : Option Int :=
  (if ((p0.length : Int) != p1) = true then some 4 else (slices_ContainsFunc_sint p0 (fun (z_1 : Int) => aggregate_labelled_c1 z_1 p2)).bind fun y_2 => (if y_2 = true then some 2 else some 0))
/-! aggregate_Energy -/
def aggregate_Energy_s1 (p0 : List (List Int)) (p1 : Int) (p2 : Int) (p3 : List Int) (s_4 : Int) (s_5 : Int) : Option (Step (Int × Int) Int) :=
  (if (decide (s_5 < (p3.length : Int))) = true then (ix p3 s_5).bind fun v_7 => (ix p0 s_5).bind fun v_8 => (ix v_8 v_7).bind fun v_9 => ((if (decide (0 < s_5)) = true then (ix p3 (w64 (s_5 - 1))).bind fun v_11 => (aggregate_between (w64 (v_7 - v_11)) p1 p2).bind fun y_12 => some (w64 ((w64 (s_4 + v_9)) + y_12)) else some (w64 (s_4 + v_9)))).bind fun s_10 => some (.next (s_10, w64 (s_5 + 1))) else some (.done s_4))
def aggregate_Energy (p0 : List (List Int)) (p1 : Int) (p2 : Int) (p3 : List Int) : Option (Int × Int) :=
  (aggregate_checked p0 p1 p2).bind fun y_1 => (if (y_1 != 0) = true then some (0, y_1) else (ix p0 (0 : Int)).bind fun v_2 => (aggregate_labelled p3 (p0.length : Int) ((v_2).length : Int)).bind fun y_3 => (if (y_3 != 0) = true then some (0, y_3) else (loopM FUEL (fun (s : Int × Int) => aggregate_Energy_s1 p0 p1 p2 p3 s.1 s.2) (0, 0)).bind fun s_6 => some (s_6, 0)))
/-! fiduciallaw45_AggregateEnergies -/
def fiduciallaw45_AggregateEnergies (p0 : List (List Int)) (p1_0 : Int) (p1_1 : Int) (p2 : List Int) : Option Bool :=
  (fiduciallaw45_known).bind fun y_1 => (if (!y_1) = true then some false else ((fiduciallaw45_few p0).bind fun y_12 => (if (!y_12) = true then some true else some (decide (30 < (p2.length : Int))))).bind fun s_2 => (if s_2 = true then some true else (aggregate_Check p0).bind fun y_3 => (fiduciallaw45_line p0).bind fun y_4 => (if (!((y_3 == 0) == y_4)) = true then some false else (aggregate_Energy p0 p1_0 p1_1 p2).bind fun (y_5, y_6) => (fiduciallaw45_lined p0 p1_0 p1_1).bind fun y_7 => ((if (y_7 == 0) = true then (ix p0 (0 : Int)).bind fun v_10 => (fiduciallaw45_labelled p2 (p0.length : Int) ((v_10).length : Int)).bind fun y_11 => some y_11 else some y_7)).bind fun s_8 => (if (s_8 != 0) = true then (if (y_6 == s_8) = true then some (y_5 == 0) else some false) else (if (y_6 == 0) = true then (fiduciallaw45_energy p0 p1_0 p1_1 p2).bind fun y_9 => some (y_5 == y_9) else some false)))))
/-! fiduciallaw45_small -/
def fiduciallaw45_small (p0_0 : Int) (p0_1 : Int) (p0_2 : Int) (p0_3 : List Int) : Option Bool :=
  some (decide ((p0_3.length : Int) ≤ 600))
/-! census_Check_c1 -/
def census_Check_c1 (p0 : Int) : Option Bool :=
  (if (decide (p0 < 0)) = true then some true else some (decide (1048576 < p0)))
/-! census_Check -/
def census_Check (p0_0 : Int) (p0_1 : Int) (p0_2 : Int) (p0_3 : List Int) : Option Int :=
  ((if (decide (p0_0 < 1)) = true then some true else (if (decide (64 < p0_0)) = true then some true else (if (decide (p0_1 < 1)) = true then some true else (if (decide (64 < p0_1)) = true then some true else (if (decide (p0_2 < 1)) = true then some true else (if (decide (64 < p0_2)) = true then some true else some ((p0_3.length : Int) != (w64 ((w64 (p0_0 * p0_1)) * p0_2)))))))))).bind fun s_1 => (if s_1 = true then some 1 else (slices_ContainsFunc_sint p0_3 (fun (z_2 : Int) => census_Check_c1 z_2)).bind fun y_3 => (if y_3 = true then some 1 else some 0))
/-! aggregate_grid -/
def aggregate_grid (p0_0 : Int) (p0_1 : Int) (p0_2 : Int) (p0_3 : List Int) (p1 : Int) (p2 : Int) : Option Int :=
  (census_Check p0_0 p0_1 p0_2 p0_3).bind fun y_1 => (if (y_1 != 0) = true then some y_1 else (aggregate_penalties p1 p2).bind fun y_2 => some y_2)
/-! aggregate_Grid -/
def aggregate_Grid_s1 (p0_0 : Int) (p0_2 : Int) (p0_3 : List Int) (p1 : Int) (p2 : Int) (p3 : List Int) (s_3 : Int) (s_4 : Int) : Option (Step (Int × Int) Int) :=
  (if (decide (s_4 < (p3.length : Int))) = true then (ix p3 s_4).bind fun v_6 => (ix p0_3 (w64 ((w64 (s_4 * p0_2)) + v_6))).bind fun v_7 => chk (p0_0 ≠ 0) (((if (decide (0 < (Int.tmod s_4 p0_0))) = true then (ix p3 (w64 (s_4 - 1))).bind fun v_12 => (aggregate_between (w64 (v_6 - v_12)) p1 p2).bind fun y_13 => some (w64 ((w64 (s_3 + v_7)) + y_13)) else some (w64 (s_3 + v_7)))).bind fun s_8 => ((if (decide (p0_0 ≤ s_4)) = true then (ix p3 (w64 (s_4 - p0_0))).bind fun v_10 => (aggregate_between (w64 (v_6 - v_10)) p1 p2).bind fun y_11 => some (w64 (s_8 + y_11)) else some s_8)).bind fun s_9 => some (.next (s_9, w64 (s_4 + 1)))) else some (.done s_3))
def aggregate_Grid (p0_0 : Int) (p0_1 : Int) (p0_2 : Int) (p0_3 : List Int) (p1 : Int) (p2 : Int) (p3 : List Int) : Option (Int × Int) :=
  (aggregate_grid p0_0 p0_1 p0_2 p0_3 p1 p2).bind fun y_1 => (if (y_1 != 0) = true then some (0, y_1) else (aggregate_labelled p3 (w64 (p0_0 * p0_1)) p0_2).bind fun y_2 => (if (y_2 != 0) = true then some (0, y_2) else (loopM FUEL (fun (s : Int × Int) => aggregate_Grid_s1 p0_0 p0_2 p0_3 p1 p2 p3 s.1 s.2) (0, 0)).bind fun s_5 => some (s_5, 0)))
/-! aggregate_at -/
def aggregate_at (p0_0 : Int) (p0_1 : Int) (p0_2 : Int) (p0_3 : List Int) (p1 : Int) (p2 : Int) : Option (List Int) :=
  chk (0 ≤ (w64 ((w64 ((w64 (p2 * p0_0)) + p1)) * p0_2) : Int) ∧ (w64 ((w64 ((w64 (p2 * p0_0)) + p1)) * p0_2) : Int) ≤ (w64 ((w64 ((w64 ((w64 (p2 * p0_0)) + p1)) * p0_2)) + p0_2) : Int) ∧ (w64 ((w64 ((w64 ((w64 (p2 * p0_0)) + p1)) * p0_2)) + p0_2) : Int) ≤ (w64 ((w64 ((w64 ((w64 (p2 * p0_0)) + p1)) * p0_2)) + p0_2) : Int) ∧ (w64 ((w64 ((w64 ((w64 (p2 * p0_0)) + p1)) * p0_2)) + p0_2) : Int) ≤ (p0_3.length : Int)) (some ((p0_3.take (w64 ((w64 ((w64 ((w64 (p2 * p0_0)) + p1)) * p0_2)) + p0_2) : Int).toNat).drop (w64 ((w64 ((w64 (p2 * p0_0)) + p1)) * p0_2) : Int).toNat))
/-! aggregate_Bound_c2 -/
def aggregate_Bound_c2 (p0 : Int) (q0_0 : Int) (q0_1 : Int) (q0_2 : Int) (q0_3 : List Int) (q1_0 : Int) : Option (List Int) :=
  (aggregate_at q0_0 q0_1 q0_2 q0_3 p0 q1_0).bind fun y_1 => some y_1
/-! aggregate_Bound_c3 -/
def aggregate_Bound_c3 (p0 : Int) (q0_0 : Int) (q0_1 : Int) (q0_2 : Int) (q0_3 : List Int) (q1_0 : Int) : Option (List Int) :=
  (aggregate_at q0_0 q0_1 q0_2 q0_3 q1_0 p0).bind fun y_1 => some y_1
/-! aggregate_Bound -/
def aggregate_Bound_s3 (p0_0 : Int) (p0_1 : Int) (p0_2 : Int) (p0_3 : List Int) (s_5 : Int) (l_8 : List (List Int)) (s_9 : Int) : Option (Step (List (List Int) × Int) (List (List Int))) :=
  (if (decide (s_9 < p0_1)) = true then (aggregate_Bound_c3 s_9 p0_0 p0_1 p0_2 p0_3 s_5).bind fun y_14 => chk (l_8.length + 1 ≤ 1099511627776) (some (.next ((l_8 ++ ([y_14] : List (List Int))), w64 (s_9 + 1)))) else some (.done l_8))
def aggregate_Bound_s2 (p0_0 : Int) (p0_1 : Int) (p0_2 : Int) (p0_3 : List Int) (p1 : Int) (p2 : Int) (s_5 : Int) (s_6 : Int) : Option (Step (Int × Int) Int) :=
  (if (decide (s_5 < p0_0)) = true then (loopM FUEL (fun (s : List (List Int) × Int) => aggregate_Bound_s3 p0_0 p0_1 p0_2 p0_3 s_5 s.1 s.2) (([] : List (List Int)), 0)).bind fun l_10 => (aggregate_table l_10 (w64 (2 * p1)) (w64 (2 * p2))).bind fun y_11 => (ix y_11 (w64 (p0_1 - 1))).bind fun v_12 => (slices_Min_sint v_12).bind fun y_13 => some (.next (w64 (s_5 + 1), w64 (s_6 + y_13))) else some (.done s_6))
def aggregate_Bound_s4 (p0_0 : Int) (p0_1 : Int) (p0_2 : Int) (p0_3 : List Int) (s_2 : Int) (l_15 : List (List Int)) (s_16 : Int) : Option (Step (List (List Int) × Int) (List (List Int))) :=
  (if (decide (s_16 < p0_0)) = true then (aggregate_Bound_c2 s_16 p0_0 p0_1 p0_2 p0_3 s_2).bind fun y_21 => chk (l_15.length + 1 ≤ 1099511627776) (some (.next ((l_15 ++ ([y_21] : List (List Int))), w64 (s_16 + 1)))) else some (.done l_15))
def aggregate_Bound_s1 (p0_0 : Int) (p0_1 : Int) (p0_2 : Int) (p0_3 : List Int) (p1 : Int) (p2 : Int) (s_2 : Int) (s_3 : Int) : Option (Step (Int × Int) Int) :=
  (if (decide (s_2 < p0_1)) = true then (loopM FUEL (fun (s : List (List Int) × Int) => aggregate_Bound_s4 p0_0 p0_1 p0_2 p0_3 s_2 s.1 s.2) (([] : List (List Int)), 0)).bind fun l_17 => (aggregate_table l_17 (w64 (2 * p1)) (w64 (2 * p2))).bind fun y_18 => (ix y_18 (w64 (p0_0 - 1))).bind fun v_19 => (slices_Min_sint v_19).bind fun y_20 => some (.next (w64 (s_2 + 1), w64 (s_3 + y_20))) else some (.done s_3))
def aggregate_Bound (p0_0 : Int) (p0_1 : Int) (p0_2 : Int) (p0_3 : List Int) (p1 : Int) (p2 : Int) : Option (Int × Int) :=
  (aggregate_grid p0_0 p0_1 p0_2 p0_3 p1 p2).bind fun y_1 => (if (y_1 != 0) = true then some (0, y_1) else (if (decide (1048576 < (w64 (2 * p2)))) = true then some (0, 2) else (loopM FUEL (fun (s : Int × Int) => aggregate_Bound_s1 p0_0 p0_1 p0_2 p0_3 p1 p2 s.1 s.2) (0, 0)).bind fun s_4 => (loopM FUEL (fun (s : Int × Int) => aggregate_Bound_s2 p0_0 p0_1 p0_2 p0_3 p1 p2 s.1 s.2) (0, s_4)).bind fun s_7 => some (s_7, 0)))
/-! fiduciallaw45_image_c1 -/
def fiduciallaw45_image_c1 (p0 : Int) : Option Bool :=
  (if (decide (p0 < 0)) = true then some true else some (decide (1048576 < p0)))
/-! fiduciallaw45_image -/
def fiduciallaw45_image (p0_0 : Int) (p0_1 : Int) (p0_2 : Int) (p0_3 : List Int) (p1 : Int) (p2 : Int) : Option Int :=
  ((if (decide (p0_0 < 1)) = true then some true else (if (decide (64 < p0_0)) = true then some true else (if (decide (p0_1 < 1)) = true then some true else (if (decide (64 < p0_1)) = true then some true else (if (decide (p0_2 < 1)) = true then some true else (if (decide (64 < p0_2)) = true then some true else some ((p0_3.length : Int) != (w64 ((w64 (p0_0 * p0_1)) * p0_2)))))))))).bind fun s_1 => (if s_1 = true then some 1 else (slices_ContainsFunc_sint p0_3 (fun (z_2 : Int) => fiduciallaw45_image_c1 z_2)).bind fun y_3 => (if y_3 = true then some 1 else (fiduciallaw45_penalties p1 p2).bind fun y_4 => (if (!y_4) = true then some 2 else some 0)))
/-! fiduciallaw45_at -/
def fiduciallaw45_at (p0_0 : Int) (p0_1 : Int) (p0_2 : Int) (p0_3 : List Int) (p1 : Int) (p2 : Int) : Option (List Int) :=
  chk (0 ≤ (w64 ((w64 ((w64 (p2 * p0_0)) + p1)) * p0_2) : Int) ∧ (w64 ((w64 ((w64 (p2 * p0_0)) + p1)) * p0_2) : Int) ≤ (w64 ((w64 ((w64 ((w64 (p2 * p0_0)) + p1)) * p0_2)) + p0_2) : Int) ∧ (w64 ((w64 ((w64 ((w64 (p2 * p0_0)) + p1)) * p0_2)) + p0_2) : Int) ≤ (p0_3.length : Int)) (some ((p0_3.take (w64 ((w64 ((w64 ((w64 (p2 * p0_0)) + p1)) * p0_2)) + p0_2) : Int).toNat).drop (w64 ((w64 ((w64 (p2 * p0_0)) + p1)) * p0_2) : Int).toNat))
/-! fiduciallaw45_row -/
def fiduciallaw45_row_s1 (p0_0 : Int) (p0_1 : Int) (p0_2 : Int) (p0_3 : List Int) (p1 : Int) (l_1 : List (List Int)) (s_2 : Int) : Option (Step (List (List Int) × Int) (List (List Int))) :=
  (if (decide (s_2 < p0_0)) = true then (fiduciallaw45_at p0_0 p0_1 p0_2 p0_3 s_2 p1).bind fun y_4 => chk (l_1.length + 1 ≤ 1099511627776) (some (.next ((l_1 ++ ([y_4] : List (List Int))), w64 (s_2 + 1)))) else some (.done l_1))
def fiduciallaw45_row (p0_0 : Int) (p0_1 : Int) (p0_2 : Int) (p0_3 : List Int) (p1 : Int) : Option (List (List Int)) :=
  (loopM FUEL (fun (s : List (List Int) × Int) => fiduciallaw45_row_s1 p0_0 p0_1 p0_2 p0_3 p1 s.1 s.2) (([] : List (List Int)), 0)).bind fun l_3 => some l_3
/-! fiduciallaw45_column -/
def fiduciallaw45_column_s1 (p0_0 : Int) (p0_1 : Int) (p0_2 : Int) (p0_3 : List Int) (p1 : Int) (l_1 : List (List Int)) (s_2 : Int) : Option (Step (List (List Int) × Int) (List (List Int))) :=
  (if (decide (s_2 < p0_1)) = true then (fiduciallaw45_at p0_0 p0_1 p0_2 p0_3 p1 s_2).bind fun y_4 => chk (l_1.length + 1 ≤ 1099511627776) (some (.next ((l_1 ++ ([y_4] : List (List Int))), w64 (s_2 + 1)))) else some (.done l_1))
def fiduciallaw45_column (p0_0 : Int) (p0_1 : Int) (p0_2 : Int) (p0_3 : List Int) (p1 : Int) : Option (List (List Int)) :=
  (loopM FUEL (fun (s : List (List Int) × Int) => fiduciallaw45_column_s1 p0_0 p0_1 p0_2 p0_3 p1 s.1 s.2) (([] : List (List Int)), 0)).bind fun l_3 => some l_3
/-! fiduciallaw45_bound -/
def fiduciallaw45_bound_s2 (p0_0 : Int) (p0_1 : Int) (p0_2 : Int) (p0_3 : List Int) (p1 : Int) (p2 : Int) (s_4 : Int) (s_5 : Int) : Option (Step (Int × Int) Int) :=
  (if (decide (s_5 < p0_0)) = true then (fiduciallaw45_column p0_0 p0_1 p0_2 p0_3 s_5).bind fun y_7 => (fiduciallaw45_first y_7 (w64 (2 * p1)) (w64 (2 * p2))).bind fun (y_8, y_9) => some (.next (w64 (s_4 + y_9), w64 (s_5 + 1))) else some (.done s_4))
def fiduciallaw45_bound_s1 (p0_0 : Int) (p0_1 : Int) (p0_2 : Int) (p0_3 : List Int) (p1 : Int) (p2 : Int) (s_1 : Int) (s_2 : Int) : Option (Step (Int × Int) Int) :=
  (if (decide (s_2 < p0_1)) = true then (fiduciallaw45_row p0_0 p0_1 p0_2 p0_3 s_2).bind fun y_10 => (fiduciallaw45_first y_10 (w64 (2 * p1)) (w64 (2 * p2))).bind fun (y_11, y_12) => some (.next (w64 (s_1 + y_12), w64 (s_2 + 1))) else some (.done s_1))
def fiduciallaw45_bound (p0_0 : Int) (p0_1 : Int) (p0_2 : Int) (p0_3 : List Int) (p1 : Int) (p2 : Int) : Option Int :=
  (loopM FUEL (fun (s : Int × Int) => fiduciallaw45_bound_s1 p0_0 p0_1 p0_2 p0_3 p1 p2 s.1 s.2) (0, 0)).bind fun s_3 => (loopM FUEL (fun (s : Int × Int) => fiduciallaw45_bound_s2 p0_0 p0_1 p0_2 p0_3 p1 p2 s.1 s.2) (s_3, 0)).bind fun s_6 => some s_6
/-! fiduciallaw45_grid -/
def fiduciallaw45_grid_s2 (p0_0 : Int) (p0_1 : Int) (p0_2 : Int) (p0_3 : List Int) (p1 : Int) (p2 : Int) (p3 : List Int) (s_2 : Int) (s_4 : Int) (s_5 : Int) : Option (Step (Int × Int) Int) :=
  (if (decide (s_5 < p0_0)) = true then (ix p3 (w64 ((w64 (s_2 * p0_0)) + s_5))).bind fun v_7 => (fiduciallaw45_at p0_0 p0_1 p0_2 p0_3 s_5 s_2).bind fun y_8 => (ix y_8 v_7).bind fun v_9 => ((if (decide (0 < s_5)) = true then (ix p3 (w64 ((w64 ((w64 (s_2 * p0_0)) + s_5)) - 1))).bind fun v_14 => (fiduciallaw45_jump (w64 (v_7 - v_14)) p1 p2).bind fun y_15 => some (w64 ((w64 (s_4 + v_9)) + y_15)) else some (w64 (s_4 + v_9)))).bind fun s_10 => ((if (decide (0 < s_2)) = true then (ix p3 (w64 ((w64 ((w64 (s_2 - 1)) * p0_0)) + s_5))).bind fun v_12 => (fiduciallaw45_jump (w64 (v_7 - v_12)) p1 p2).bind fun y_13 => some (w64 (s_10 + y_13)) else some s_10)).bind fun s_11 => some (.next (s_11, w64 (s_5 + 1))) else some (.done s_4))
def fiduciallaw45_grid_s1 (p0_0 : Int) (p0_1 : Int) (p0_2 : Int) (p0_3 : List Int) (p1 : Int) (p2 : Int) (p3 : List Int) (s_1 : Int) (s_2 : Int) : Option (Step (Int × Int) Int) :=
  (if (decide (s_2 < p0_1)) = true then (loopM FUEL (fun (s : Int × Int) => fiduciallaw45_grid_s2 p0_0 p0_1 p0_2 p0_3 p1 p2 p3 s_2 s.1 s.2) (s_1, 0)).bind fun s_6 => some (.next (s_6, w64 (s_2 + 1))) else some (.done s_1))
def fiduciallaw45_grid (p0_0 : Int) (p0_1 : Int) (p0_2 : Int) (p0_3 : List Int) (p1 : Int) (p2 : Int) (p3 : List Int) : Option Int :=
  (loopM FUEL (fun (s : Int × Int) => fiduciallaw45_grid_s1 p0_0 p0_1 p0_2 p0_3 p1 p2 p3 s.1 s.2) (0, 0)).bind fun s_3 => some s_3
/-! fiduciallaw45_AggregateGrids -/
def fiduciallaw45_AggregateGrids (p0_0 : Int) (p0_1 : Int) (p0_2 : Int) (p0_3 : List Int) (p1_0 : Int) (p1_1 : Int) (p2 : List Int) : Option Bool :=
  (fiduciallaw45_known).bind fun y_1 => (if (!y_1) = true then some false else ((fiduciallaw45_small p0_0 p0_1 p0_2 p0_3).bind fun y_17 => (if (!y_17) = true then some true else some (decide (700 < (p2.length : Int))))).bind fun s_2 => (if s_2 = true then some true else (aggregate_Grid p0_0 p0_1 p0_2 p0_3 p1_0 p1_1 p2).bind fun (y_3, y_4) => (aggregate_Bound p0_0 p0_1 p0_2 p0_3 p1_0 p1_1).bind fun (y_5, y_6) => (fiduciallaw45_image p0_0 p0_1 p0_2 p0_3 p1_0 p1_1).bind fun y_7 => (if (y_7 == 0) = true then (if (decide (1048576 < (w64 (2 * p1_1)))) = true then ((if (y_6 != 2) = true then some true else some (y_5 != 0))).bind fun s_8 => (if s_8 = true then some false else (fiduciallaw45_labelled p2 (w64 (p0_0 * p0_1)) p0_2).bind fun y_9 => (if (y_9 != 0) = true then (if (y_4 == y_9) = true then some (y_3 == 0) else some false) else (if (y_4 == 0) = true then (fiduciallaw45_grid p0_0 p0_1 p0_2 p0_3 p1_0 p1_1 p2).bind fun y_10 => (if (y_3 == y_10) = true then (if (y_6 != 0) = true then some true else some (decide (y_5 ≤ (w64 (2 * y_3))))) else some false) else some false))) else ((if (y_6 != 0) = true then some true else (fiduciallaw45_bound p0_0 p0_1 p0_2 p0_3 p1_0 p1_1).bind fun y_14 => some (y_5 != y_14))).bind fun s_11 => (if s_11 = true then some false else (fiduciallaw45_labelled p2 (w64 (p0_0 * p0_1)) p0_2).bind fun y_12 => (if (y_12 != 0) = true then (if (y_4 == y_12) = true then some (y_3 == 0) else some false) else (if (y_4 == 0) = true then (fiduciallaw45_grid p0_0 p0_1 p0_2 p0_3 p1_0 p1_1 p2).bind fun y_13 => (if (y_3 == y_13) = true then (if (y_6 != 0) = true then some true else some (decide (y_5 ≤ (w64 (2 * y_3))))) else some false) else some false)))) else ((if (y_6 != y_7) = true then some true else some (y_5 != 0))).bind fun s_15 => (if s_15 = true then some false else (if (y_7 != 0) = true then (if (y_4 == y_7) = true then some (y_3 == 0) else some false) else (if (y_4 == 0) = true then (fiduciallaw45_grid p0_0 p0_1 p0_2 p0_3 p1_0 p1_1 p2).bind fun y_16 => (if (y_3 == y_16) = true then (if (y_6 != 0) = true then some true else some (decide (y_5 ≤ (w64 (2 * y_3))))) else some false) else some false))))))
/-! fiduciallaw45_AggregateChanges -/
def fiduciallaw45_AggregateChanges_s2 (l_17 : List (List Int)) (s_18 : Int) (s_19 : Int) : Option (Step (List (List Int) × Int × Int) (List (List Int))) :=
  (if (decide (s_18 < s_19)) = true then (ix l_17 s_19).bind fun v_31 => (ix l_17 s_18).bind fun v_32 => chk (0 ≤ s_18 ∧ s_18 < (l_17.length : Int)) (chk (0 ≤ s_19 ∧ s_19 < ((l_17.set s_18.toNat v_31).length : Int)) (some (.next (((l_17.set s_18.toNat v_31).set s_19.toNat v_32), w64 (s_18 + 1), w64 (s_19 - 1))))) else some (.done l_17))
def fiduciallaw45_AggregateChanges_s1 (p0 : List (List Int)) (p2_0 : Int) (p2_1 : Int) (y_7 : List (List Int)) (v_8 : List Int) (l_9 : List Int) (s_10 : Int) : Option (Step (List Int × Int) (Bool ⊕ (List Int))) :=
  (if (decide (s_10 < ((v_8).length : Int))) = true then (ix v_8 s_10).bind fun v_33 => (if (decide (1048576 < (w64 (v_33 + (w64 (p2_1)))))) = true then some (.done (.inl true)) else chk (0 ≤ (Int.tmod (w64 (p2_0)) (p0.length : Int)) ∧ (Int.tmod (w64 (p2_0)) (p0.length : Int)) < (y_7.length : Int)) (chk (l_9.length + 1 ≤ 1099511627776) (chk (0 ≤ (Int.tmod (w64 (p2_0)) (p0.length : Int)) ∧ (Int.tmod (w64 (p2_0)) (p0.length : Int)) < (y_7.length : Int)) (some (.next ((l_9 ++ ([w64 (v_33 + (w64 (p2_1)))] : List Int)), w64 (s_10 + 1))))))) else some (.done (.inr l_9)))
def fiduciallaw45_AggregateChanges (p0 : List (List Int)) (p1_0 : Int) (p1_1 : Int) (p1_2 : Int) (p1_3 : Int) (p2_0 : Int) (p2_1 : Int) : Option Bool :=
  (fiduciallaw45_known).bind fun y_1 => (if (!y_1) = true then some false else ((fiduciallaw45_few p0).bind fun y_34 => (if (!y_34) = true then some true else (fiduciallaw45_lined p0 p1_0 p1_1).bind fun y_35 => (if (y_35 != 0) = true then some true else (fiduciallaw45_lined p0 p1_2 p1_3).bind fun y_36 => some (y_36 != 0)))).bind fun s_2 => (if s_2 = true then some true else (aggregate_Line p0 p1_0 p1_1).bind fun (y_3, y_4, y_5, y_6) => (slices_Clone_ssint p0).bind fun y_7 => chk ((p0.length : Int) ≠ 0) (chk (0 ≤ (Int.tmod (w64 (p2_0)) (p0.length : Int)) ∧ (Int.tmod (w64 (p2_0)) (p0.length : Int)) < (y_7.length : Int)) ((ix p0 (Int.tmod (w64 (p2_0)) (p0.length : Int))).bind fun v_8 => (loopM FUEL (fun (s : List Int × Int) => fiduciallaw45_AggregateChanges_s1 p0 p2_0 p2_1 y_7 v_8 s.1 s.2) (([] : List Int), 0)).bind fun | .inl r => some r | .inr l_11 => (aggregate_Line (y_7.set (Int.tmod (w64 (p2_0)) (p0.length : Int)).toNat l_11) p1_0 p1_1).bind fun (y_12, y_13, y_14, y_15) => (slices_Clone_ssint p0).bind fun y_16 => (loopM FUEL (fun (s : List (List Int) × Int × Int) => fiduciallaw45_AggregateChanges_s2 s.1 s.2.1 s.2.2) (y_16, 0, w64 (((y_16).length : Int) - 1))).bind fun l_20 => (aggregate_Line l_20 p1_0 p1_1).bind fun (y_21, y_22, y_23, y_24) => (aggregate_Line p0 p1_2 p1_3).bind fun (y_25, y_26, y_27, y_28) => ((if (y_6 != 0) = true then some true else (if (y_15 != 0) = true then some true else (if (y_24 != 0) = true then some true else (if (y_28 != 0) = true then some true else (if (y_13 != (w64 (y_4 + (w64 (p2_1))))) = true then some true else (slices_Equal_sint y_12 y_3).bind fun y_30 => (if (!y_30) = true then some true else some (y_22 != y_4)))))))).bind fun s_29 => (if s_29 = true then some false else (if (decide (p1_2 < p1_0)) = true then some true else (if (decide (p1_3 < p1_1)) = true then some true else some (decide (y_4 ≤ y_26)))))))))
end Go.Proofs.Ytgakaghdiodakaa
