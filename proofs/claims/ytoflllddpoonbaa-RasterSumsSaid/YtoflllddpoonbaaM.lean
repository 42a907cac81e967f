import Derived.Test.YtoflllddpoonbaaEng0
import GoSem.Core.View
set_option linter.unusedVariables false
namespace Go.Proofs.Ytoflllddpoonbaa
open Go.E

/-! slices_IndexFunc_sint -/
def slices_IndexFunc_sint_s1 (p0 : List Int) (p1 : Int → Option Bool) (s2 : Int) : Option (Step Int (Int ⊕ Unit)) :=
  (if (decide (s2 < (p0.length : Int))) = true then (ix p0 s2).bind fun v13 => (p1 v13).bind fun y16 => (if y16 = true then some (.done (.inl s2)) else some (.next (w64 (s2 + 1)))) else some (.done (.inr ())))
def slices_IndexFunc_sint (p0 : List Int) (p1 : Int → Option Bool) : Option Int :=
  (loopM FUEL (fun (s : Int) => slices_IndexFunc_sint_s1 p0 p1 s) 0).bind fun | .inl r => some r | .inr _ => some (-1)
/-! slices_ContainsFunc_sint -/
def slices_ContainsFunc_sint (p0 : List Int) (p1 : Int → Option Bool) : Option Bool :=
  (slices_IndexFunc_sint p0 p1).bind fun y2 => some (decide (0 ≤ y2))
/-! raster_Check_c1 -/
def raster_Check_c1 (p0 : Int) (q0_0 : Int) (q0_1 : Int) (q0_2 : Int) (q0_3 : List Int) : Option Bool :=
  (if (decide (p0 < 0)) = true then some true else some (decide (q0_2 < p0)))
/-! raster_Check -/
def raster_Check (p0_0 : Int) (p0_1 : Int) (p0_2 : Int) (p0_3 : List Int) : Option Int :=
  ((if (decide ((if p0_2 < (if p0_1 < p0_0 then p0_1 else p0_0) then p0_2 else (if p0_1 < p0_0 then p0_1 else p0_0)) < 1)) = true then some true else (if (decide (64 < (if p0_0 < p0_1 then p0_1 else p0_0))) = true then some true else (if (decide (65535 < p0_2)) = true then some true else some ((p0_3.length : Int) != (w64 (p0_0 * p0_1))))))).bind fun s3 => (if s3 = true then some 1 else (slices_ContainsFunc_sint p0_3 (fun (z7 : Int) => raster_Check_c1 z7 p0_0 p0_1 p0_2 p0_3)).bind fun y8 => (if y8 = true then some 1 else some 0))
/-! raster_made -/
def raster_made_s2 (p0 : Int) (p3 : Int → Int → Option Int) (s14 : Int) (l31 : List Int) (s37 : Int) : Option (Step (List Int × Int) (List Int)) :=
  (if (decide (s37 < p0)) = true then (p3 s37 s14).bind fun y54 => chk (l31.length + 1 ≤ 1099511627776) (some (.next ((l31 ++ ([y54] : List Int)), w64 (s37 + 1)))) else some (.done l31))
def raster_made_s1 (p0 : Int) (p1 : Int) (p3 : Int → Int → Option Int) (l8 : List Int) (s14 : Int) : Option (Step (List Int × Int) (List Int)) :=
  (if (decide (s14 < p1)) = true then (loopM FUEL (fun (s : List Int × Int) => raster_made_s2 p0 p3 s14 s.1 s.2) (l8, 0)).bind fun l38 => some (.next (l38, w64 (s14 + 1))) else some (.done l8))
def raster_made (p0 : Int) (p1 : Int) (p2 : Int) (p3 : Int → Int → Option Int) : Option (Int × Int × Int × List Int) :=
  chk ((0 : Int) ≤ 0 ∧ 0 ≤ (w64 (p0 * p1)) ∧ (w64 (p0 * p1)) ≤ 1099511627776) ((loopM FUEL (fun (s : List Int × Int) => raster_made_s1 p0 p1 p3 s.1 s.2) (([] : List Int), 0)).bind fun l15 => some (p0, p1, p2, l15))
/-! raster_at -/
def raster_at (p0_0 : Int) (p0_1 : Int) (p0_2 : Int) (p0_3 : List Int) (p1 : Int) (p2 : Int) : Option Int :=
  (ix p0_3 (w64 ((w64 (p2 * p0_0)) + p1))).bind fun v3 => some v3
/-! raster_Turn_c1 -/
def raster_Turn_c1 (p0 : Int) (p1 : Int) (q0_0 : Int) (q0_1 : Int) (q0_2 : Int) (q0_3 : List Int) : Option Int :=
  (raster_at q0_0 q0_1 q0_2 q0_3 (w64 ((w64 (q0_0 - 1)) - p1)) p0).bind fun y2 => some y2
/-! raster_Turn -/
def raster_Turn (p0_0 : Int) (p0_1 : Int) (p0_2 : Int) (p0_3 : List Int) : Option (Int × Int × Int × List Int × Int) :=
  (raster_Check p0_0 p0_1 p0_2 p0_3).bind fun y4 => (if (y4 != 0) = true then some (0, 0, 0, ([] : List Int), y4) else (raster_made p0_1 p0_0 p0_2 (fun (z7 : Int) (z8 : Int) => raster_Turn_c1 z7 z8 p0_0 p0_1 p0_2 p0_3)).bind fun (y9, y10, y11, y12) => some (y9, y10, y11, y12, 0))
/-! raster_Integral -/
def raster_Integral_s2 (p0_0 : Int) (p0_1 : Int) (p0_2 : Int) (p0_3 : List Int) (s15 : Int) (l41 : List (List Int)) (s45 : Int) : Option (Step (List (List Int) × Int) (List (List Int))) :=
  ((if (decide (s45 ≤ p0_0)) = true then some (decide (0 < s15)) else some false)).bind fun s59 => (if s59 = true then (ix l41 s15).bind fun v63 => (ix l41 (w64 (s15 - 1))).bind fun v72 => (ix v72 s45).bind fun v81 => (ix l41 s15).bind fun v84 => (ix v84 (w64 (s45 - 1))).bind fun v93 => (ix l41 (w64 (s15 - 1))).bind fun v96 => (ix v96 (w64 (s45 - 1))).bind fun v105 => (raster_at p0_0 p0_1 p0_2 p0_3 (w64 (s45 - 1)) (w64 (s15 - 1))).bind fun y108 => chk (0 ≤ s45 ∧ s45 < (v63.length : Int)) (some (.next ((l41.set s15.toNat (v63.set s45.toNat (w64 ((w64 ((w64 (v81 + v93)) - v105)) + y108)))), w64 (s45 + 1)))) else some (.done l41))
def raster_Integral_s1 (p0_0 : Int) (p0_1 : Int) (p0_2 : Int) (p0_3 : List Int) (l11 : List (List Int)) (s15 : Int) : Option (Step (List (List Int) × Int) (List (List Int))) :=
  (if (decide (s15 < ((List.replicate (w64 (p0_1 + 1) : Int).toNat ([] : List Int)).length : Int))) = true then chk ((0 : Int) ≤ (w64 (p0_0 + 1)) ∧ (w64 (p0_0 + 1)) ≤ (w64 (p0_0 + 1)) ∧ (w64 (p0_0 + 1)) ≤ 1099511627776) (chk (0 ≤ s15 ∧ s15 < (l11.length : Int)) ((loopM FUEL (fun (s : List (List Int) × Int) => raster_Integral_s2 p0_0 p0_1 p0_2 p0_3 s15 s.1 s.2) ((l11.set s15.toNat (List.replicate (w64 (p0_0 + 1)).toNat (0 : Int))), 1)).bind fun l46 => some (.next (l46, w64 (s15 + 1))))) else some (.done l11))
def raster_Integral (p0_0 : Int) (p0_1 : Int) (p0_2 : Int) (p0_3 : List Int) : Option (List (List Int) × Int) :=
  (raster_Check p0_0 p0_1 p0_2 p0_3).bind fun y3 => (if (y3 != 0) = true then some (([] : List (List Int)), y3) else chk ((0 : Int) ≤ (w64 (p0_1 + 1)) ∧ (w64 (p0_1 + 1)) ≤ (w64 (p0_1 + 1)) ∧ (w64 (p0_1 + 1)) ≤ 1099511627776) ((loopM FUEL (fun (s : List (List Int) × Int) => raster_Integral_s1 p0_0 p0_1 p0_2 p0_3 s.1 s.2) ((List.replicate (w64 (p0_1 + 1) : Int).toNat ([] : List Int)), 0)).bind fun l16 => some (l16, 0)))
/-! slices_Equal_sint -/
def slices_Equal_sint_s1 (p0 : List Int) (p1 : List Int) (s4 : Int) : Option (Step Int (Bool ⊕ Unit)) :=
  (if (decide (s4 < (p0.length : Int))) = true then (ix p0 s4).bind fun v15 => (ix p1 s4).bind fun v18 => (if (v15 != v18) = true then some (.done (.inl false)) else some (.next (w64 (s4 + 1)))) else some (.done (.inr ())))
def slices_Equal_sint (p0 : List Int) (p1 : List Int) : Option Bool :=
  (if ((p0.length : Int) != (p1.length : Int)) = true then some false else (loopM FUEL (fun (s : Int) => slices_Equal_sint_s1 p0 p1 s) 0).bind fun | .inl r => some r | .inr _ => some true)
/-! fiduciallaw13_known -/
def fiduciallaw13_known  : Option Bool :=
  (raster_Turn 2 2 9 ([1, 2, 3, 4] : List Int)).bind fun (y4, y5, y6, y7, y8) => (raster_Integral 2 2 9 ([1, 2, 3, 4] : List Int)).bind fun (y19, y20) => (if (y8 == 0) = true then (slices_Equal_sint y7 ([2, 4, 1, 3] : List Int)).bind fun y33 => (if y33 = true then (if (y20 == 0) = true then (if (((y19).length : Int) == 3) = true then (ix y19 (2 : Int)).bind fun v38 => (slices_Equal_sint v38 ([0, 4, 10] : List Int)).bind fun y47 => (if y47 = true then (raster_Check 0 0 0 ([] : List Int)).bind fun y50 => some (y50 == 1) else some false) else some false) else some false) else some false) else some false)
/-! slices_IndexFunc_sapi_Raster -/
def slices_IndexFunc_sapi_Raster_s1 (p0 : List (Int × Int × Int × List Int)) (p1 : Int → Int → Int → List Int → Option Bool) (s2 : Int) : Option (Step Int (Int ⊕ Unit)) :=
  (if (decide (s2 < (p0.length : Int))) = true then (ix p0 s2).bind fun v13 => (p1 v13.1 v13.2.1 v13.2.2.1 v13.2.2.2).bind fun y20 => (if y20 = true then some (.done (.inl s2)) else some (.next (w64 (s2 + 1)))) else some (.done (.inr ())))
def slices_IndexFunc_sapi_Raster (p0 : List (Int × Int × Int × List Int)) (p1 : Int → Int → Int → List Int → Option Bool) : Option Int :=
  (loopM FUEL (fun (s : Int) => slices_IndexFunc_sapi_Raster_s1 p0 p1 s) 0).bind fun | .inl r => some r | .inr _ => some (-1)
/-! slices_ContainsFunc_sapi_Raster -/
def slices_ContainsFunc_sapi_Raster (p0 : List (Int × Int × Int × List Int)) (p1 : Int → Int → Int → List Int → Option Bool) : Option Bool :=
  (slices_IndexFunc_sapi_Raster p0 p1).bind fun y2 => some (decide (0 ≤ y2))
/-! fiduciallaw13_few_c1 -/
def fiduciallaw13_few_c1 (p0_0 : Int) (p0_1 : Int) (p0_2 : Int) (p0_3 : List Int) : Option Bool :=
  some (decide (600 < (p0_3.length : Int)))
/-! fiduciallaw13_few -/
def fiduciallaw13_few (p0 : List (Int × Int × Int × List Int)) : Option Bool :=
  (slices_ContainsFunc_sapi_Raster p0 (fun (z2 : Int) (z3 : Int) (z4 : Int) (z5 : List Int) => fiduciallaw13_few_c1 z2 z3 z4 z5)).bind fun y7 => some (!y7)
/-! raster_Mirror_c1 -/
def raster_Mirror_c1 (p0 : Int) (p1 : Int) (q0_0 : Int) (q0_1 : Int) (q0_2 : Int) (q0_3 : List Int) : Option Int :=
  (raster_at q0_0 q0_1 q0_2 q0_3 (w64 ((w64 (q0_0 - 1)) - p0)) p1).bind fun y2 => some y2
/-! raster_Mirror -/
def raster_Mirror (p0_0 : Int) (p0_1 : Int) (p0_2 : Int) (p0_3 : List Int) : Option (Int × Int × Int × List Int × Int) :=
  (raster_Check p0_0 p0_1 p0_2 p0_3).bind fun y4 => (if (y4 != 0) = true then some (0, 0, 0, ([] : List Int), y4) else (raster_made p0_0 p0_1 p0_2 (fun (z7 : Int) (z8 : Int) => raster_Mirror_c1 z7 z8 p0_0 p0_1 p0_2 p0_3)).bind fun (y9, y10, y11, y12) => some (y9, y10, y11, y12, 0))
/-! fiducialref13_Check -/
def fiducialref13_Check_s1 (p0_2 : Int) (p0_3 : List Int) (s7 : Int) : Option (Step Int (Int ⊕ Unit)) :=
  (if (decide (s7 < (p0_3.length : Int))) = true then ((ix p0_3 s7).bind fun v22 => (if (decide (v22 < 0)) = true then some true else (ix p0_3 s7).bind fun v26 => some (decide (p0_2 < v26)))).bind fun s18 => (if s18 = true then some (.done (.inl 1)) else some (.next (w64 (s7 + 1)))) else some (.done (.inr ())))
def fiducialref13_Check (p0_0 : Int) (p0_1 : Int) (p0_2 : Int) (p0_3 : List Int) : Option Int :=
  ((if (decide (p0_0 < 1)) = true then some true else (if (decide (64 < p0_0)) = true then some true else (if (decide (p0_1 < 1)) = true then some true else (if (decide (64 < p0_1)) = true then some true else (if (decide (p0_2 < 1)) = true then some true else (if (decide (65535 < p0_2)) = true then some true else some ((p0_3.length : Int) != (w64 (p0_0 * p0_1)))))))))).bind fun s3 => (if s3 = true then some 1 else (loopM FUEL (fun (s : Int) => fiducialref13_Check_s1 p0_2 p0_3 s) 0).bind fun | .inl r => some r | .inr _ => some 0)
/-! fiducialref13_Equal -/
def fiducialref13_Equal_s1 (p0_3 : List Int) (p1_3 : List Int) (s9 : Int) : Option (Step Int (Bool ⊕ Unit)) :=
  (if (decide (s9 < (p0_3.length : Int))) = true then (ix p0_3 s9).bind fun v20 => (ix p1_3 s9).bind fun v23 => (if (v20 != v23) = true then some (.done (.inl false)) else some (.next (w64 (s9 + 1)))) else some (.done (.inr ())))
def fiducialref13_Equal (p0_0 : Int) (p0_1 : Int) (p0_2 : Int) (p0_3 : List Int) (p1_0 : Int) (p1_1 : Int) (p1_2 : Int) (p1_3 : List Int) : Option Bool :=
  ((if (p0_0 != p1_0) = true then some true else (if (p0_1 != p1_1) = true then some true else (if (p0_2 != p1_2) = true then some true else some ((p0_3.length : Int) != (p1_3.length : Int)))))).bind fun s5 => (if s5 = true then some false else (loopM FUEL (fun (s : Int) => fiducialref13_Equal_s1 p0_3 p1_3 s) 0).bind fun | .inl r => some r | .inr _ => some true)
/-! fiduciallaw13_empty -/
def fiduciallaw13_empty (p0_0 : Int) (p0_1 : Int) (p0_2 : Int) (p0_3 : List Int) : Option Bool :=
  (fiducialref13_Equal p0_0 p0_1 p0_2 p0_3 0 0 0 ([] : List Int)).bind fun y3 => some y3
/-! fiducialref13_New -/
def fiducialref13_New_s1 (p0 : Int) (p1 : Int) (l4 : List Int) (s10 : Int) : Option (Step (List Int × Int) (List Int)) :=
  (if (decide (s10 < (w64 (p0 * p1)))) = true then chk (l4.length + 1 ≤ 1099511627776) (some (.next ((l4 ++ ([0] : List Int)), w64 (s10 + 1)))) else some (.done l4))
def fiducialref13_New (p0 : Int) (p1 : Int) (p2 : Int) : Option (Int × Int × Int × List Int) :=
  (loopM FUEL (fun (s : List Int × Int) => fiducialref13_New_s1 p0 p1 s.1 s.2) (([] : List Int), 0)).bind fun l11 => some (p0, p1, p2, l11)
/-! fiducialref13_At -/
def fiducialref13_At (p0_0 : Int) (p0_1 : Int) (p0_2 : Int) (p0_3 : List Int) (p1 : Int) (p2 : Int) : Option Int :=
  (ix p0_3 (w64 ((w64 (p2 * p0_0)) + p1))).bind fun v3 => some v3
/-! fiducialref13_Turn -/
def fiducialref13_Turn_s2 (p0_0 : Int) (p0_1 : Int) (p0_2 : Int) (p0_3 : List Int) (y4 : Int) (s18 : Int) (l32 : List Int) (s35 : Int) : Option (Step (List Int × Int) (List Int)) :=
  (if (decide (s35 < y4)) = true then (fiducialref13_At p0_0 p0_1 p0_2 p0_3 (w64 ((w64 (p0_0 - 1)) - s18)) s35).bind fun y49 => chk (0 ≤ (w64 ((w64 (s18 * y4)) + s35)) ∧ (w64 ((w64 (s18 * y4)) + s35)) < (l32.length : Int)) (some (.next ((l32.set (w64 ((w64 (s18 * y4)) + s35)).toNat y49), w64 (s35 + 1)))) else some (.done l32))
def fiducialref13_Turn_s1 (p0_0 : Int) (p0_1 : Int) (p0_2 : Int) (p0_3 : List Int) (y4 : Int) (y5 : Int) (l15 : List Int) (s18 : Int) : Option (Step (List Int × Int) (List Int)) :=
  (if (decide (s18 < y5)) = true then (loopM FUEL (fun (s : List Int × Int) => fiducialref13_Turn_s2 p0_0 p0_1 p0_2 p0_3 y4 s18 s.1 s.2) (l15, 0)).bind fun l36 => some (.next (l36, w64 (s18 + 1))) else some (.done l15))
def fiducialref13_Turn (p0_0 : Int) (p0_1 : Int) (p0_2 : Int) (p0_3 : List Int) : Option (Int × Int × Int × List Int) :=
  (fiducialref13_New p0_1 p0_0 p0_2).bind fun (y4, y5, y6, y7) => (loopM FUEL (fun (s : List Int × Int) => fiducialref13_Turn_s1 p0_0 p0_1 p0_2 p0_3 y4 y5 s.1 s.2) (y7, 0)).bind fun l19 => some (y4, y5, y6, l19)
/-! fiducialref13_Copy -/
def fiducialref13_Copy (p0_0 : Int) (p0_1 : Int) (p0_2 : Int) (p0_3 : List Int) : Option (Int × Int × Int × List Int) :=
  chk (([] : List Int).length + p0_3.length ≤ 1099511627776) (some (p0_0, p0_1, p0_2, (([] : List Int) ++ p0_3)))
/-! fiducialref13_Mirror -/
def fiducialref13_Mirror_s2 (p0_0 : Int) (p0_1 : Int) (p0_2 : Int) (p0_3 : List Int) (s18 : Int) (l32 : List Int) (s35 : Int) : Option (Step (List Int × Int) (List Int)) :=
  (if (decide (s35 < p0_0)) = true then (fiducialref13_At p0_0 p0_1 p0_2 p0_3 (w64 ((w64 (p0_0 - 1)) - s35)) s18).bind fun y49 => chk (0 ≤ (w64 ((w64 (s18 * p0_0)) + s35)) ∧ (w64 ((w64 (s18 * p0_0)) + s35)) < (l32.length : Int)) (some (.next ((l32.set (w64 ((w64 (s18 * p0_0)) + s35)).toNat y49), w64 (s35 + 1)))) else some (.done l32))
def fiducialref13_Mirror_s1 (p0_0 : Int) (p0_1 : Int) (p0_2 : Int) (p0_3 : List Int) (l15 : List Int) (s18 : Int) : Option (Step (List Int × Int) (List Int)) :=
  (if (decide (s18 < p0_1)) = true then (loopM FUEL (fun (s : List Int × Int) => fiducialref13_Mirror_s2 p0_0 p0_1 p0_2 p0_3 s18 s.1 s.2) (l15, 0)).bind fun l36 => some (.next (l36, w64 (s18 + 1))) else some (.done l15))
def fiducialref13_Mirror (p0_0 : Int) (p0_1 : Int) (p0_2 : Int) (p0_3 : List Int) : Option (Int × Int × Int × List Int) :=
  (fiducialref13_Copy p0_0 p0_1 p0_2 p0_3).bind fun (y4, y5, y6, y7) => (loopM FUEL (fun (s : List Int × Int) => fiducialref13_Mirror_s1 p0_0 p0_1 p0_2 p0_3 s.1 s.2) (y7, 0)).bind fun l19 => some (y4, y5, y6, l19)
/-! fiduciallaw13_RasterTurns -/
def fiduciallaw13_RasterTurns_s1 (y15 : Int) (y27 : Int) (y49 : Int) (y61 : Int) (y73 : Int) (y85 : Int) (y97 : Int) (y109 : Int) (s119 : Int) : Option (Step Int (Bool ⊕ Unit)) :=
  (if (decide (s119 < 8)) = true then (ix ([y15, y27, y49, y61, y73, y85, y97, y109] : List Int) s119).bind fun v164 => (if (v164 != 0) = true then some (.done (.inl false)) else some (.next (w64 (s119 + 1)))) else some (.done (.inr ())))
def fiduciallaw13_RasterTurns (p0_0 : Int) (p0_1 : Int) (p0_2 : Int) (p0_3 : List Int) : Option Bool :=
  (fiduciallaw13_known).bind fun y3 => (if (!y3) = true then some false else (fiduciallaw13_few ([(p0_0, p0_1, p0_2, p0_3)] : List (Int × Int × Int × List Int))).bind fun y8 => (if (!y8) = true then some true else (raster_Turn p0_0 p0_1 p0_2 p0_3).bind fun (y11, y12, y13, y14, y15) => (raster_Mirror p0_0 p0_1 p0_2 p0_3).bind fun (y23, y24, y25, y26, y27) => (fiducialref13_Check p0_0 p0_1 p0_2 p0_3).bind fun y35 => (if (y35 != 0) = true then (if (y15 == y35) = true then (if (y27 == y35) = true then (fiduciallaw13_empty y11 y12 y13 y14).bind fun y40 => (if y40 = true then (fiduciallaw13_empty y23 y24 y25 y26).bind fun y43 => some y43 else some false) else some false) else some false) else (raster_Turn y11 y12 y13 y14).bind fun (y45, y46, y47, y48, y49) => (raster_Turn y45 y46 y47 y48).bind fun (y57, y58, y59, y60, y61) => (raster_Turn y57 y58 y59 y60).bind fun (y69, y70, y71, y72, y73) => (raster_Mirror y23 y24 y25 y26).bind fun (y81, y82, y83, y84, y85) => (raster_Turn y23 y24 y25 y26).bind fun (y93, y94, y95, y96, y97) => (raster_Mirror y57 y58 y59 y60).bind fun (y105, y106, y107, y108, y109) => (loopM FUEL (fun (s : Int) => fiduciallaw13_RasterTurns_s1 y15 y27 y49 y61 y73 y85 y97 y109 s) 0).bind fun | .inl r => some r | .inr _ => (fiducialref13_Turn p0_0 p0_1 p0_2 p0_3).bind fun (y129, y130, y131, y132) => (fiducialref13_Equal y11 y12 y13 y14 y129 y130 y131 y132).bind fun y139 => (if y139 = true then (fiducialref13_Mirror p0_0 p0_1 p0_2 p0_3).bind fun (y142, y143, y144, y145) => (fiducialref13_Equal y23 y24 y25 y26 y142 y143 y144 y145).bind fun y152 => (if y152 = true then (fiducialref13_Equal y69 y70 y71 y72 p0_0 p0_1 p0_2 p0_3).bind fun y155 => (if y155 = true then (fiducialref13_Equal y81 y82 y83 y84 p0_0 p0_1 p0_2 p0_3).bind fun y158 => (if y158 = true then (fiducialref13_Equal y93 y94 y95 y96 y105 y106 y107 y108).bind fun y161 => some y161 else some false) else some false) else some false) else some false))))
/-! raster_Equal -/
def raster_Equal (p0_0 : Int) (p0_1 : Int) (p0_2 : Int) (p0_3 : List Int) (p1_0 : Int) (p1_1 : Int) (p1_2 : Int) (p1_3 : List Int) : Option Bool :=
  (if (p0_0 == p1_0) = true then (if (p0_1 == p1_1) = true then (if (p0_2 == p1_2) = true then (slices_Equal_sint p0_3 p1_3).bind fun y8 => some y8 else some false) else some false) else some false)
/-! raster_size -/
def raster_size (p0 : Int) : Option Bool :=
  (if (decide (1 ≤ p0)) = true then some (decide (p0 ≤ 64)) else some false)
/-! raster_New_c1 -/
def raster_New_c1 (p0 : Int) (p1 : Int) : Option Int :=
  some 0
/-! raster_New -/
def raster_New (p0 : Int) (p1 : Int) (p2 : Int) : Option (Int × Int × Int × List Int × Int) :=
  ((raster_size p0).bind fun y18 => (if (!y18) = true then some true else (raster_size p1).bind fun y21 => (if (!y21) = true then some true else (if (decide (p2 < 1)) = true then some true else some (decide (65535 < p2)))))).bind fun s2 => (if s2 = true then some (0, 0, 0, ([] : List Int), 2) else (raster_made p0 p1 p2 (fun (z6 : Int) (z7 : Int) => raster_New_c1 z6 z7)).bind fun (y8, y9, y10, y11) => some (y8, y9, y10, y11, 0))
/-! fiduciallaw13_RasterForms -/
def fiduciallaw13_RasterForms (p0_0 : Int) (p0_1 : Int) (p0_2 : Int) (p0_3 : List Int) (p1_0 : Int) (p1_1 : Int) (p1_2 : Int) (p1_3 : List Int) (p2_0 : Int) (p2_1 : Int) (p2_2 : Int) : Option Bool :=
  (fiduciallaw13_known).bind fun y6 => (if (!y6) = true then some false else ((fiduciallaw13_few ([(p0_0, p0_1, p0_2, p0_3), (p1_0, p1_1, p1_2, p1_3)] : List (Int × Int × Int × List Int))).bind fun y78 => (if (!y78) = true then some true else (if (decide (20 < p2_0)) = true then (if (decide (p2_0 ≤ 64)) = true then some true else (if (decide (20 < p2_1)) = true then some (decide (p2_1 ≤ 64)) else some false)) else (if (decide (20 < p2_1)) = true then some (decide (p2_1 ≤ 64)) else some false)))).bind fun s9 => (if s9 = true then some true else ((raster_Check p0_0 p0_1 p0_2 p0_3).bind fun y54 => (fiducialref13_Check p0_0 p0_1 p0_2 p0_3).bind fun y56 => (if (y54 != y56) = true then some true else (raster_Equal p0_0 p0_1 p0_2 p0_3 p1_0 p1_1 p1_2 p1_3).bind fun y59 => (fiducialref13_Equal p0_0 p0_1 p0_2 p0_3 p1_0 p1_1 p1_2 p1_3).bind fun y61 => (if (!(y59 == y61)) = true then some true else (fiducialref13_Copy p0_0 p0_1 p0_2 p0_3).bind fun (y64, y65, y66, y67) => (raster_Equal p0_0 p0_1 p0_2 p0_3 y64 y65 y66 y67).bind fun y74 => some (!y74)))).bind fun s13 => (if s13 = true then some false else (raster_New p2_0 p2_1 p2_2).bind fun (y17, y18, y19, y20, y21) => ((if (decide (p2_0 < 1)) = true then some true else (if (decide (64 < p2_0)) = true then some true else (if (decide (p2_1 < 1)) = true then some true else (if (decide (64 < p2_1)) = true then some true else (if (decide (p2_2 < 1)) = true then some true else some (decide (65535 < p2_2)))))))).bind fun s29 => (if s29 = true then (if (y21 == 2) = true then (fiduciallaw13_empty y17 y18 y19 y20).bind fun y34 => some y34 else some false) else (if (y21 == 0) = true then (fiducialref13_New p2_0 p2_1 p2_2).bind fun (y37, y38, y39, y40) => (fiducialref13_Equal y17 y18 y19 y20 y37 y38 y39 y40).bind fun y47 => some y47 else some false)))))
/-! raster_Histogram -/
def raster_Histogram_s1 (p0_3 : List Int) (l11 : List Int) (s14 : Int) : Option (Step (List Int × Int) (List Int)) :=
  (if (decide (s14 < (p0_3.length : Int))) = true then (ix p0_3 s14).bind fun v28 => (ix l11 v28).bind fun v31 => chk (0 ≤ v28 ∧ v28 < (l11.length : Int)) (some (.next ((l11.set v28.toNat (w64 (v31 + 1))), w64 (s14 + 1)))) else some (.done l11))
def raster_Histogram (p0_0 : Int) (p0_1 : Int) (p0_2 : Int) (p0_3 : List Int) : Option (List Int × Int) :=
  (raster_Check p0_0 p0_1 p0_2 p0_3).bind fun y3 => (if (y3 != 0) = true then some (([] : List Int), y3) else chk ((0 : Int) ≤ (w64 (p0_2 + 1)) ∧ (w64 (p0_2 + 1)) ≤ (w64 (p0_2 + 1)) ∧ (w64 (p0_2 + 1)) ≤ 1099511627776) ((loopM FUEL (fun (s : List Int × Int) => raster_Histogram_s1 p0_3 s.1 s.2) ((List.replicate (w64 (p0_2 + 1)).toNat (0 : Int)), 0)).bind fun l15 => some (l15, 0)))
/-! fiducialref13_Count -/
def fiducialref13_Count_s1 (p0_3 : List Int) (p1 : Int) (s3 : Int) (s4 : Int) : Option (Step (Int × Int) Int) :=
  (if (decide (s4 < (p0_3.length : Int))) = true then (ix p0_3 s4).bind fun v16 => ((if (v16 == p1) = true then some (w64 (s3 + 1)) else some s3)).bind fun s19 => some (.next (s19, w64 (s4 + 1))) else some (.done s3))
def fiducialref13_Count (p0_0 : Int) (p0_1 : Int) (p0_2 : Int) (p0_3 : List Int) (p1 : Int) : Option Int :=
  (loopM FUEL (fun (s : Int × Int) => fiducialref13_Count_s1 p0_3 p1 s.1 s.2) (0, 0)).bind fun s5 => some s5
/-! fiduciallaw13_RasterHistograms -/
def fiduciallaw13_RasterHistograms_s1 (p0_0 : Int) (p0_1 : Int) (p0_2 : Int) (p0_3 : List Int) (y10 : List Int) (s26 : Int) : Option (Step Int (Bool ⊕ Unit)) :=
  (if (decide (s26 < ((y10).length : Int))) = true then (ix y10 s26).bind fun v61 => (fiducialref13_Count p0_0 p0_1 p0_2 p0_3 s26).bind fun y64 => (if (v61 != y64) = true then some (.done (.inl false)) else some (.next (w64 (s26 + 1)))) else some (.done (.inr ())))
def fiduciallaw13_RasterHistograms (p0_0 : Int) (p0_1 : Int) (p0_2 : Int) (p0_3 : List Int) : Option Bool :=
  (fiduciallaw13_known).bind fun y3 => (if (!y3) = true then some false else ((fiduciallaw13_few ([(p0_0, p0_1, p0_2, p0_3)] : List (Int × Int × Int × List Int))).bind fun y70 => (if (!y70) = true then some true else some (decide (600 < p0_2)))).bind fun s6 => (if s6 = true then some true else (raster_Histogram p0_0 p0_1 p0_2 p0_3).bind fun (y10, y11) => (fiducialref13_Check p0_0 p0_1 p0_2 p0_3).bind fun y18 => (if (y18 != 0) = true then (if (y11 == y18) = true then some (((y10).length : Int) == 0) else some false) else ((if (y11 != 0) = true then some true else some (((y10).length : Int) != (w64 (p0_2 + 1))))).bind fun s22 => (if s22 = true then some false else (loopM FUEL (fun (s : Int) => fiduciallaw13_RasterHistograms_s1 p0_0 p0_1 p0_2 p0_3 y10 s) 0).bind fun | .inl r => some r | .inr _ => (raster_Turn p0_0 p0_1 p0_2 p0_3).bind fun (y36, y37, y38, y39, y40) => (raster_Histogram y36 y37 y38 y39).bind fun (y48, y49) => (if (y40 == 0) = true then (if (y49 == 0) = true then (slices_Equal_sint y48 y10).bind fun y58 => some y58 else some false) else some false)))))
/-! raster_Map_c1 -/
def raster_Map_c1 (p0 : Int) (q0_0 : Int) (q0_1 : Int) (q0_2 : Int) (q0_3 : List Int) : Option Bool :=
  (if (decide (p0 < 0)) = true then some true else some (decide (q0_2 < p0)))
/-! raster_Map_c2 -/
def raster_Map_c2 (p0 : Int) (p1 : Int) (q0_0 : List Int) (q1_0 : Int) (q1_1 : Int) (q1_2 : Int) (q1_3 : List Int) : Option Int :=
  (raster_at q1_0 q1_1 q1_2 q1_3 p0 p1).bind fun y3 => (ix q0_0 y3).bind fun v5 => some v5
/-! raster_Map -/
def raster_Map (p0_0 : Int) (p0_1 : Int) (p0_2 : Int) (p0_3 : List Int) (p1 : List Int) : Option (Int × Int × Int × List Int × Int) :=
  (raster_Check p0_0 p0_1 p0_2 p0_3).bind fun y6 => (if (y6 != 0) = true then some (0, 0, 0, ([] : List Int), y6) else (if ((p1.length : Int) != (w64 (p0_2 + 1))) = true then some (0, 0, 0, ([] : List Int), 4) else (slices_ContainsFunc_sint p1 (fun (z10 : Int) => raster_Map_c1 z10 p0_0 p0_1 p0_2 p0_3)).bind fun y11 => (if y11 = true then some (0, 0, 0, ([] : List Int), 2) else (raster_made p0_0 p0_1 p0_2 (fun (z14 : Int) (z15 : Int) => raster_Map_c2 z14 z15 p1 p0_0 p0_1 p0_2 p0_3)).bind fun (y16, y17, y18, y19) => some (y16, y17, y18, y19, 0))))
/-! fiduciallaw13_RasterMaps_c1 -/
def fiduciallaw13_RasterMaps_c1 (p0 : Int) (q0_0 : Int) (q0_1 : Int) (q0_2 : Int) (q0_3 : List Int) : Option Bool :=
  (if (decide (p0 < 0)) = true then some true else some (decide (q0_2 < p0)))
/-! fiducialref13_Map -/
def fiducialref13_Map_s1 (p0_3 : List Int) (p1 : List Int) (l16 : List Int) (s19 : Int) : Option (Step (List Int × Int) (List Int)) :=
  (if (decide (s19 < (p0_3.length : Int))) = true then (ix p0_3 s19).bind fun v33 => (ix p1 v33).bind fun v36 => chk (0 ≤ s19 ∧ s19 < (l16.length : Int)) (some (.next ((l16.set s19.toNat v36), w64 (s19 + 1)))) else some (.done l16))
def fiducialref13_Map (p0_0 : Int) (p0_1 : Int) (p0_2 : Int) (p0_3 : List Int) (p1 : List Int) : Option (Int × Int × Int × List Int) :=
  (fiducialref13_Copy p0_0 p0_1 p0_2 p0_3).bind fun (y5, y6, y7, y8) => (loopM FUEL (fun (s : List Int × Int) => fiducialref13_Map_s1 p0_3 p1 s.1 s.2) (y8, 0)).bind fun l20 => some (y5, y6, y7, l20)
/-! fiduciallaw13_RasterMaps -/
def fiduciallaw13_RasterMaps (p0_0 : Int) (p0_1 : Int) (p0_2 : Int) (p0_3 : List Int) (p1 : List Int) : Option Bool :=
  (fiduciallaw13_known).bind fun y4 => (if (!y4) = true then some false else ((fiduciallaw13_few ([(p0_0, p0_1, p0_2, p0_3)] : List (Int × Int × Int × List Int))).bind fun y63 => (if (!y63) = true then some true else some (decide (600 < (p1.length : Int))))).bind fun s7 => (if s7 = true then some true else (raster_Map p0_0 p0_1 p0_2 p0_3 p1).bind fun (y11, y12, y13, y14, y15) => (fiducialref13_Check p0_0 p0_1 p0_2 p0_3).bind fun y23 => ((if (y23 == 0) = true then some ((p1.length : Int) != (w64 (p0_2 + 1))) else some false)).bind fun s25 => ((if s25 = true then some 4 else some y23)).bind fun s28 => ((if (s28 == 0) = true then (slices_ContainsFunc_sint p1 (fun (z56 : Int) => fiduciallaw13_RasterMaps_c1 z56 p0_0 p0_1 p0_2 p0_3)).bind fun y57 => some y57 else some false)).bind fun s31 => ((if s31 = true then some 2 else some s28)).bind fun s34 => (if (s34 != 0) = true then (if (y15 == s34) = true then (fiduciallaw13_empty y11 y12 y13 y14).bind fun y39 => some y39 else some false) else (if (y15 == 0) = true then (fiducialref13_Map p0_0 p0_1 p0_2 p0_3 p1).bind fun (y42, y43, y44, y45) => (fiducialref13_Equal y11 y12 y13 y14 y42 y43 y44 y45).bind fun y52 => some y52 else some false))))
/-! raster_Rescale_c1 -/
def raster_Rescale_c1 (p0 : Int) (p1 : Int) (q0_0 : Int) (q0_1 : Int) (q0_2 : Int) (q0_3 : List Int) (q1_0 : Int) : Option Int :=
  (raster_at q0_0 q0_1 q0_2 q0_3 p0 p1).bind fun y2 => chk ((w64 (2 * q0_2)) ≠ 0) (some (w64 (Int.tdiv (w64 ((w64 ((w64 (2 * y2)) * q1_0)) + q0_2)) (w64 (2 * q0_2)))))
/-! raster_Rescale -/
def raster_Rescale (p0_0 : Int) (p0_1 : Int) (p0_2 : Int) (p0_3 : List Int) (p1 : Int) : Option (Int × Int × Int × List Int × Int) :=
  (raster_Check p0_0 p0_1 p0_2 p0_3).bind fun y5 => (if (y5 != 0) = true then some (0, 0, 0, ([] : List Int), y5) else ((if (decide (p1 < 1)) = true then some true else some (decide (65535 < p1)))).bind fun s8 => (if s8 = true then some (0, 0, 0, ([] : List Int), 2) else (raster_made p0_0 p0_1 p1 (fun (z12 : Int) (z13 : Int) => raster_Rescale_c1 z12 z13 p0_0 p0_1 p0_2 p0_3 p1)).bind fun (y14, y15, y16, y17) => some (y14, y15, y16, y17, 0)))
/-! fiducialref13_Rescale -/
def fiducialref13_Rescale_s1 (p0_2 : Int) (p0_3 : List Int) (p1 : Int) (l15 : List Int) (s18 : Int) : Option (Step (List Int × Int) (List Int)) :=
  (if (decide (s18 < (p0_3.length : Int))) = true then (ix p0_3 s18).bind fun v32 => chk ((w64 (2 * p0_2)) ≠ 0) (chk (0 ≤ s18 ∧ s18 < (l15.length : Int)) (some (.next ((l15.set s18.toNat (w64 (Int.tdiv (w64 ((w64 ((w64 (2 * v32)) * p1)) + p0_2)) (w64 (2 * p0_2))))), w64 (s18 + 1))))) else some (.done l15))
def fiducialref13_Rescale (p0_0 : Int) (p0_1 : Int) (p0_2 : Int) (p0_3 : List Int) (p1 : Int) : Option (Int × Int × Int × List Int) :=
  (fiducialref13_Copy p0_0 p0_1 p0_2 p0_3).bind fun (y4, y5, y6, y7) => (loopM FUEL (fun (s : List Int × Int) => fiducialref13_Rescale_s1 p0_2 p0_3 p1 s.1 s.2) (y7, 0)).bind fun l19 => some (y4, y5, p1, l19)
/-! fiducialref13_Sum -/
def fiducialref13_Sum_s2 (p0_0 : Int) (p0_1 : Int) (p0_2 : Int) (p0_3 : List Int) (p1 : Int) (p3 : Int) (s4 : Int) (s16 : Int) (s17 : Int) : Option (Step (Int × Int) Int) :=
  (if (decide (s17 < (w64 (p1 + p3)))) = true then (fiducialref13_At p0_0 p0_1 p0_2 p0_3 s17 s4).bind fun y29 => some (.next (w64 (s16 + y29), w64 (s17 + 1))) else some (.done s16))
def fiducialref13_Sum_s1 (p0_0 : Int) (p0_1 : Int) (p0_2 : Int) (p0_3 : List Int) (p1 : Int) (p2 : Int) (p3 : Int) (p4 : Int) (s3 : Int) (s4 : Int) : Option (Step (Int × Int) Int) :=
  (if (decide (s4 < (w64 (p2 + p4)))) = true then (loopM FUEL (fun (s : Int × Int) => fiducialref13_Sum_s2 p0_0 p0_1 p0_2 p0_3 p1 p3 s4 s.1 s.2) (s3, p1)).bind fun s18 => some (.next (s18, w64 (s4 + 1))) else some (.done s3))
def fiducialref13_Sum (p0_0 : Int) (p0_1 : Int) (p0_2 : Int) (p0_3 : List Int) (p1 : Int) (p2 : Int) (p3 : Int) (p4 : Int) : Option Int :=
  (loopM FUEL (fun (s : Int × Int) => fiducialref13_Sum_s1 p0_0 p0_1 p0_2 p0_3 p1 p2 p3 p4 s.1 s.2) (0, p2)).bind fun s5 => some s5
/-! slices_IndexFunc_ssint -/
def slices_IndexFunc_ssint_s1 (p0 : List (List Int)) (p1 : List Int → Option Bool) (s2 : Int) : Option (Step Int (Int ⊕ Unit)) :=
  (if (decide (s2 < (p0.length : Int))) = true then (ix p0 s2).bind fun v13 => (p1 v13).bind fun y20 => (if y20 = true then some (.done (.inl s2)) else some (.next (w64 (s2 + 1)))) else some (.done (.inr ())))
def slices_IndexFunc_ssint (p0 : List (List Int)) (p1 : List Int → Option Bool) : Option Int :=
  (loopM FUEL (fun (s : Int) => slices_IndexFunc_ssint_s1 p0 p1 s) 0).bind fun | .inl r => some r | .inr _ => some (-1)
/-! slices_ContainsFunc_ssint -/
def slices_ContainsFunc_ssint (p0 : List (List Int)) (p1 : List Int → Option Bool) : Option Bool :=
  (slices_IndexFunc_ssint p0 p1).bind fun y2 => some (decide (0 ≤ y2))
/-! raster_Sum_c1 -/
def raster_Sum_c1 (p0 : List Int) (q0_0 : List (List Int)) : Option Bool :=
  (ix q0_0 (0 : Int)).bind fun v3 => some ((p0.length : Int) != ((v3).length : Int))
/-! raster_Sum -/
def raster_Sum (p0 : List (List Int)) (p1 : Int) (p2 : Int) (p3 : Int) (p4 : Int) : Option (Int × Int) :=
  ((if ((p0.length : Int) == 0) = true then some true else (ix p0 (0 : Int)).bind fun v63 => (if (((v63).length : Int) == 0) = true then some true else (slices_ContainsFunc_ssint p0 (fun (z71 : List Int) => raster_Sum_c1 z71 p0)).bind fun y73 => some y73))).bind fun s3 => (if s3 = true then some (0, 1) else (ix p0 (0 : Int)).bind fun v7 => ((if (decide ((if p4 < (if p3 < (if p2 < p1 then p2 else p1) then p3 else (if p2 < p1 then p2 else p1)) then p4 else (if p3 < (if p2 < p1 then p2 else p1) then p3 else (if p2 < p1 then p2 else p1))) < 0)) = true then some true else (if (decide ((w64 (((v7).length : Int) - 1)) < p1)) = true then some true else (if (decide ((w64 ((p0.length : Int) - 1)) < p2)) = true then some true else (if (decide ((w64 ((w64 (((v7).length : Int) - 1)) - p1)) < p3)) = true then some true else some (decide ((w64 ((w64 ((p0.length : Int) - 1)) - p2)) < p4))))))).bind fun s14 => (if s14 = true then some (0, 2) else (ix p0 (w64 (p2 + p4))).bind fun v18 => (ix v18 (w64 (p1 + p3))).bind fun v25 => (ix p0 p2).bind fun v28 => (ix v28 (w64 (p1 + p3))).bind fun v35 => (ix p0 (w64 (p2 + p4))).bind fun v38 => (ix v38 p1).bind fun v45 => (ix p0 p2).bind fun v48 => (ix v48 p1).bind fun v55 => some (w64 ((w64 ((w64 (v25 - v35)) - v45)) + v55), 0)))
/-! fiduciallaw13_RasterSums -/
def fiduciallaw13_RasterSums_s2 (p0_0 : Int) (p0_1 : Int) (p0_2 : Int) (p0_3 : List Int) (s55 : Int) (v84 : List Int) (s92 : Int) : Option (Step Int (Bool ⊕ Unit)) :=
  (if (decide (s92 < ((v84).length : Int))) = true then (ix v84 s92).bind fun v103 => (fiducialref13_Sum p0_0 p0_1 p0_2 p0_3 0 0 s92 s55).bind fun y106 => (if (v103 != y106) = true then some (.done (.inl false)) else some (.next (w64 (s92 + 1)))) else some (.done (.inr ())))
def fiduciallaw13_RasterSums_s1 (p0_0 : Int) (p0_1 : Int) (p0_2 : Int) (p0_3 : List Int) (y12 : List (List Int)) (s55 : Int) : Option (Step Int (Bool ⊕ Unit)) :=
  (if (decide (s55 < ((y12).length : Int))) = true then (ix y12 s55).bind fun v84 => (if (((v84).length : Int) != (w64 (p0_0 + 1))) = true then some (.done (.inl false)) else (loopM FUEL (fun (s : Int) => fiduciallaw13_RasterSums_s2 p0_0 p0_1 p0_2 p0_3 s55 v84 s) 0).bind fun | .inl r => some (.done (.inl r)) | .inr _ => some (.next (w64 (s55 + 1)))) else some (.done (.inr ())))
def fiduciallaw13_RasterSums_s4 (p0_0 : Int) (p0_1 : Int) (p0_2 : Int) (p0_3 : List Int) (s121 : Int) (v150 : List Int) (s158 : Int) : Option (Step Int (Bool ⊕ Unit)) :=
  (if (decide (s158 < ((v150).length : Int))) = true then (ix v150 s158).bind fun v169 => (fiducialref13_Sum p0_0 p0_1 p0_2 p0_3 0 0 s158 s121).bind fun y172 => (if (v169 != y172) = true then some (.done (.inl false)) else some (.next (w64 (s158 + 1)))) else some (.done (.inr ())))
def fiduciallaw13_RasterSums_s3 (p0_0 : Int) (p0_1 : Int) (p0_2 : Int) (p0_3 : List Int) (y12 : List (List Int)) (s121 : Int) : Option (Step Int (Bool ⊕ Unit)) :=
  (if (decide (s121 < ((y12).length : Int))) = true then (ix y12 s121).bind fun v150 => (if (((v150).length : Int) != (w64 (p0_0 + 1))) = true then some (.done (.inl false)) else (loopM FUEL (fun (s : Int) => fiduciallaw13_RasterSums_s4 p0_0 p0_1 p0_2 p0_3 s121 v150 s) 0).bind fun | .inl r => some (.done (.inl r)) | .inr _ => some (.next (w64 (s121 + 1)))) else some (.done (.inr ())))
def fiduciallaw13_RasterSums (p0_0 : Int) (p0_1 : Int) (p0_2 : Int) (p0_3 : List Int) (p1_0 : Int) (p1_1 : Int) (p1_2 : Int) (p1_3 : Int) (p2 : Int) : Option Bool :=
  (fiduciallaw13_known).bind fun y4 => (if (!y4) = true then some false else (fiduciallaw13_few ([(p0_0, p0_1, p0_2, p0_3)] : List (Int × Int × Int × List Int))).bind fun y9 => (if (!y9) = true then some true else (raster_Integral p0_0 p0_1 p0_2 p0_3).bind fun (y12, y13) => (raster_Rescale p0_0 p0_1 p0_2 p0_3 p2).bind fun (y23, y24, y25, y26, y27) => (fiducialref13_Check p0_0 p0_1 p0_2 p0_3).bind fun y35 => (if (y35 != 0) = true then (if (y13 == y35) = true then (if (y27 == y35) = true then (if (((y12).length : Int) == 0) = true then (fiduciallaw13_empty y23 y24 y25 y26).bind fun y41 => some y41 else some false) else some false) else some false) else ((if (decide (p2 < 1)) = true then some true else some (decide (65535 < p2)))).bind fun s43 => (if s43 = true then ((if (y27 != 2) = true then some true else (fiduciallaw13_empty y23 y24 y25 y26).bind fun y111 => some (!y111))).bind fun s47 => (if s47 = true then some false else ((if (y13 != 0) = true then some true else some (((y12).length : Int) != (w64 (p0_1 + 1))))).bind fun s51 => (if s51 = true then some false else (loopM FUEL (fun (s : Int) => fiduciallaw13_RasterSums_s1 p0_0 p0_1 p0_2 p0_3 y12 s) 0).bind fun | .inl r => some r | .inr _ => (raster_Sum y12 p1_0 p1_1 p1_2 p1_3).bind fun (y65, y66) => ((if (decide (p1_0 < 0)) = true then some true else (if (decide (p1_1 < 0)) = true then some true else (if (decide (p1_2 < 0)) = true then some true else (if (decide (p1_3 < 0)) = true then some true else (if (decide (p0_0 < p1_0)) = true then some true else (if (decide (p0_1 < p1_1)) = true then some true else (if (decide ((w64 (p0_0 - p1_0)) < p1_2)) = true then some true else some (decide ((w64 (p0_1 - p1_1)) < p1_3)))))))))).bind fun s68 => (if s68 = true then (if (y66 == 2) = true then some (y65 == 0) else some false) else (if (y66 == 0) = true then (fiducialref13_Sum p0_0 p0_1 p0_2 p0_3 p1_0 p1_1 p1_2 p1_3).bind fun y74 => some (y65 == y74) else some false)))) else ((if (y27 != 0) = true then some true else (fiducialref13_Rescale p0_0 p0_1 p0_2 p0_3 p2).bind fun (y177, y178, y179, y180) => (fiducialref13_Equal y23 y24 y25 y26 y177 y178 y179 y180).bind fun y187 => some (!y187))).bind fun s113 => (if s113 = true then some false else ((if (y13 != 0) = true then some true else some (((y12).length : Int) != (w64 (p0_1 + 1))))).bind fun s117 => (if s117 = true then some false else (loopM FUEL (fun (s : Int) => fiduciallaw13_RasterSums_s3 p0_0 p0_1 p0_2 p0_3 y12 s) 0).bind fun | .inl r => some r | .inr _ => (raster_Sum y12 p1_0 p1_1 p1_2 p1_3).bind fun (y131, y132) => ((if (decide (p1_0 < 0)) = true then some true else (if (decide (p1_1 < 0)) = true then some true else (if (decide (p1_2 < 0)) = true then some true else (if (decide (p1_3 < 0)) = true then some true else (if (decide (p0_0 < p1_0)) = true then some true else (if (decide (p0_1 < p1_1)) = true then some true else (if (decide ((w64 (p0_0 - p1_0)) < p1_2)) = true then some true else some (decide ((w64 (p0_1 - p1_1)) < p1_3)))))))))).bind fun s134 => (if s134 = true then (if (y132 == 2) = true then some (y131 == 0) else some false) else (if (y132 == 0) = true then (fiducialref13_Sum p0_0 p0_1 p0_2 p0_3 p1_0 p1_1 p1_2 p1_3).bind fun y140 => some (y131 == y140) else some false))))))))
/-! raster_has -/
def raster_has (p0_0 : Int) (p0_1 : Int) (p0_2 : Int) (p0_3 : List Int) (p1 : Int) (p2 : Int) : Option Bool :=
  (if (decide (0 ≤ p1)) = true then (if (decide (p1 < p0_0)) = true then (if (decide (0 ≤ p2)) = true then some (decide (p2 < p0_1)) else some false) else some false) else some false)
/-! raster_Paste_c1 -/
def raster_Paste_c1 (p0 : Int) (p1 : Int) (q0_0 : Int) (q0_1 : Int) (q0_2 : Int) (q0_3 : List Int) (q1_0 : Int) (q2_0 : Int) (q3_0 : Int) (q3_1 : Int) (q3_2 : Int) (q3_3 : List Int) : Option Int :=
  (raster_has q0_0 q0_1 q0_2 q0_3 (w64 (p0 - q1_0)) (w64 (p1 - q2_0))).bind fun y3 => (if y3 = true then (raster_at q0_0 q0_1 q0_2 q0_3 (w64 (p0 - q1_0)) (w64 (p1 - q2_0))).bind fun y6 => some y6 else (raster_at q3_0 q3_1 q3_2 q3_3 p0 p1).bind fun y8 => some y8)
/-! raster_Paste -/
def raster_Paste_s1 (p0_0 : Int) (p0_1 : Int) (p0_2 : Int) (p0_3 : List Int) (p1_0 : Int) (p1_1 : Int) (p1_2 : Int) (p1_3 : List Int) (s10 : Int) : Option (Step Int ((Int × Int × Int × List Int × Int) ⊕ Unit)) :=
  (if (decide (s10 < 2)) = true then (ix ([(p0_0, p0_1, p0_2, p0_3), (p1_0, p1_1, p1_2, p1_3)] : List (Int × Int × Int × List Int)) s10).bind fun v39 => (raster_Check v39.1 v39.2.1 v39.2.2.1 v39.2.2.2).bind fun y47 => (if (y47 != 0) = true then some (.done (.inl (0, 0, 0, ([] : List Int), y47))) else some (.next (w64 (s10 + 1)))) else some (.done (.inr ())))
def raster_Paste (p0_0 : Int) (p0_1 : Int) (p0_2 : Int) (p0_3 : List Int) (p1_0 : Int) (p1_1 : Int) (p1_2 : Int) (p1_3 : List Int) (p2 : Int) (p3 : Int) : Option (Int × Int × Int × List Int × Int) :=
  (loopM FUEL (fun (s : Int) => raster_Paste_s1 p0_0 p0_1 p0_2 p0_3 p1_0 p1_1 p1_2 p1_3 s) 0).bind fun | .inl r => some r | .inr _ => (if (p0_2 != p1_2) = true then some (0, 0, 0, ([] : List Int), 4) else ((if (decide ((if p3 < p2 then p3 else p2) < (-64))) = true then some true else some (decide (64 < (if p2 < p3 then p3 else p2))))).bind fun s21 => (if s21 = true then some (0, 0, 0, ([] : List Int), 2) else (raster_made p0_0 p0_1 p0_2 (fun (z25 : Int) (z26 : Int) => raster_Paste_c1 z25 z26 p1_0 p1_1 p1_2 p1_3 p2 p3 p0_0 p0_1 p0_2 p0_3)).bind fun (y27, y28, y29, y30) => some (y27, y28, y29, y30, 0)))
/-! fiducialref13_Inside -/
def fiducialref13_Inside (p0_0 : Int) (p0_1 : Int) (p0_2 : Int) (p0_3 : List Int) (p1 : Int) (p2 : Int) : Option Bool :=
  (if (decide (0 ≤ p1)) = true then (if (decide (p1 < p0_0)) = true then (if (decide (0 ≤ p2)) = true then some (decide (p2 < p0_1)) else some false) else some false) else some false)
/-! fiducialref13_Paste -/
def fiducialref13_Paste_s2 (p0_0 : Int) (p0_1 : Int) (p0_2 : Int) (p0_3 : List Int) (p1_0 : Int) (p1_1 : Int) (p1_2 : Int) (p1_3 : List Int) (p2 : Int) (p3 : Int) (s20 : Int) (l34 : List Int) (s37 : Int) : Option (Step (List Int × Int) (List Int)) :=
  (if (decide (s37 < p1_0)) = true then (fiducialref13_Inside p0_0 p0_1 p0_2 p0_3 (w64 (p2 + s37)) (w64 (p3 + s20))).bind fun y51 => ((if y51 = true then (fiducialref13_At p1_0 p1_1 p1_2 p1_3 s37 s20).bind fun y59 => chk (0 ≤ (w64 ((w64 ((w64 ((w64 (p3 + s20)) * p0_0)) + p2)) + s37)) ∧ (w64 ((w64 ((w64 ((w64 (p3 + s20)) * p0_0)) + p2)) + s37)) < (l34.length : Int)) (some (l34.set (w64 ((w64 ((w64 ((w64 (p3 + s20)) * p0_0)) + p2)) + s37)).toNat y59)) else some l34)).bind fun l53 => some (.next (l53, w64 (s37 + 1))) else some (.done l34))
def fiducialref13_Paste_s1 (p0_0 : Int) (p0_1 : Int) (p0_2 : Int) (p0_3 : List Int) (p1_0 : Int) (p1_1 : Int) (p1_2 : Int) (p1_3 : List Int) (p2 : Int) (p3 : Int) (l17 : List Int) (s20 : Int) : Option (Step (List Int × Int) (List Int)) :=
  (if (decide (s20 < p1_1)) = true then (loopM FUEL (fun (s : List Int × Int) => fiducialref13_Paste_s2 p0_0 p0_1 p0_2 p0_3 p1_0 p1_1 p1_2 p1_3 p2 p3 s20 s.1 s.2) (l17, 0)).bind fun l38 => some (.next (l38, w64 (s20 + 1))) else some (.done l17))
def fiducialref13_Paste (p0_0 : Int) (p0_1 : Int) (p0_2 : Int) (p0_3 : List Int) (p1_0 : Int) (p1_1 : Int) (p1_2 : Int) (p1_3 : List Int) (p2 : Int) (p3 : Int) : Option (Int × Int × Int × List Int) :=
  (fiducialref13_Copy p0_0 p0_1 p0_2 p0_3).bind fun (y6, y7, y8, y9) => (loopM FUEL (fun (s : List Int × Int) => fiducialref13_Paste_s1 p0_0 p0_1 p0_2 p0_3 p1_0 p1_1 p1_2 p1_3 p2 p3 s.1 s.2) (y9, 0)).bind fun l21 => some (y6, y7, y8, l21)
/-! fiduciallaw13_RasterPastes -/
def fiduciallaw13_RasterPastes (p0_0 : Int) (p0_1 : Int) (p0_2 : Int) (p0_3 : List Int) (p1_0 : Int) (p1_1 : Int) (p1_2 : Int) (p1_3 : List Int) (p2_0 : Int) (p2_1 : Int) : Option Bool :=
  (fiduciallaw13_known).bind fun y6 => (if (!y6) = true then some false else (fiduciallaw13_few ([(p0_0, p0_1, p0_2, p0_3), (p1_0, p1_1, p1_2, p1_3)] : List (Int × Int × Int × List Int))).bind fun y11 => (if (!y11) = true then some true else (raster_Paste p0_0 p0_1 p0_2 p0_3 p1_0 p1_1 p1_2 p1_3 p2_0 p2_1).bind fun (y14, y15, y16, y17, y18) => (fiducialref13_Check p0_0 p0_1 p0_2 p0_3).bind fun y26 => ((if (y26 == 0) = true then (fiducialref13_Check p1_0 p1_1 p1_2 p1_3).bind fun y68 => some y68 else some y26)).bind fun s28 => ((if (s28 == 0) = true then some (p0_2 != p1_2) else some false)).bind fun s31 => ((if s31 = true then some 4 else some s28)).bind fun s34 => ((if (s34 == 0) = true then (if (decide (p2_0 < (-64))) = true then some true else (if (decide (64 < p2_0)) = true then some true else (if (decide (p2_1 < (-64))) = true then some true else some (decide (64 < p2_1))))) else some false)).bind fun s37 => ((if s37 = true then some 2 else some s34)).bind fun s40 => (if (s40 != 0) = true then (if (y18 == s40) = true then (fiduciallaw13_empty y14 y15 y16 y17).bind fun y45 => some y45 else some false) else (if (y18 == 0) = true then (fiducialref13_Paste p0_0 p0_1 p0_2 p0_3 p1_0 p1_1 p1_2 p1_3 p2_0 p2_1).bind fun (y48, y49, y50, y51) => (fiducialref13_Equal y14 y15 y16 y17 y48 y49 y50 y51).bind fun y58 => some y58 else some false))))
/-! raster_Crop_c1 -/
def raster_Crop_c1 (p0 : Int) (p1 : Int) (q0_0 : Int) (q0_1 : Int) (q0_2 : Int) (q0_3 : List Int) (q1_0 : Int) (q2_0 : Int) : Option Int :=
  (raster_at q0_0 q0_1 q0_2 q0_3 (w64 (q1_0 + p0)) (w64 (q2_0 + p1))).bind fun y2 => some y2
/-! raster_Crop -/
def raster_Crop (p0_0 : Int) (p0_1 : Int) (p0_2 : Int) (p0_3 : List Int) (p1 : Int) (p2 : Int) (p3 : Int) (p4 : Int) : Option (Int × Int × Int × List Int × Int) :=
  (raster_Check p0_0 p0_1 p0_2 p0_3).bind fun y6 => (if (y6 != 0) = true then some (0, 0, 0, ([] : List Int), y6) else ((raster_has p0_0 p0_1 p0_2 p0_3 p1 p2).bind fun y25 => (if (!y25) = true then some true else (if (decide (p3 < 1)) = true then some true else (if (decide (p4 < 1)) = true then some true else (if (decide ((w64 (p0_0 - p1)) < p3)) = true then some true else some (decide ((w64 (p0_1 - p2)) < p4))))))).bind fun s9 => (if s9 = true then some (0, 0, 0, ([] : List Int), 2) else (raster_made p3 p4 p0_2 (fun (z13 : Int) (z14 : Int) => raster_Crop_c1 z13 z14 p0_0 p0_1 p0_2 p0_3 p1 p2)).bind fun (y15, y16, y17, y18) => some (y15, y16, y17, y18, 0)))
/-! fiducialref13_Crop -/
def fiducialref13_Crop_s2 (p0_0 : Int) (p0_1 : Int) (p0_2 : Int) (p0_3 : List Int) (p1 : Int) (p2 : Int) (p3 : Int) (s18 : Int) (l32 : List Int) (s35 : Int) : Option (Step (List Int × Int) (List Int)) :=
  (if (decide (s35 < p3)) = true then (fiducialref13_At p0_0 p0_1 p0_2 p0_3 (w64 (p1 + s35)) (w64 (p2 + s18))).bind fun y49 => chk (0 ≤ (w64 ((w64 (s18 * p3)) + s35)) ∧ (w64 ((w64 (s18 * p3)) + s35)) < (l32.length : Int)) (some (.next ((l32.set (w64 ((w64 (s18 * p3)) + s35)).toNat y49), w64 (s35 + 1)))) else some (.done l32))
def fiducialref13_Crop_s1 (p0_0 : Int) (p0_1 : Int) (p0_2 : Int) (p0_3 : List Int) (p1 : Int) (p2 : Int) (p3 : Int) (p4 : Int) (l15 : List Int) (s18 : Int) : Option (Step (List Int × Int) (List Int)) :=
  (if (decide (s18 < p4)) = true then (loopM FUEL (fun (s : List Int × Int) => fiducialref13_Crop_s2 p0_0 p0_1 p0_2 p0_3 p1 p2 p3 s18 s.1 s.2) (l15, 0)).bind fun l36 => some (.next (l36, w64 (s18 + 1))) else some (.done l15))
def fiducialref13_Crop (p0_0 : Int) (p0_1 : Int) (p0_2 : Int) (p0_3 : List Int) (p1 : Int) (p2 : Int) (p3 : Int) (p4 : Int) : Option (Int × Int × Int × List Int) :=
  (fiducialref13_New p3 p4 p0_2).bind fun (y4, y5, y6, y7) => (loopM FUEL (fun (s : List Int × Int) => fiducialref13_Crop_s1 p0_0 p0_1 p0_2 p0_3 p1 p2 p3 p4 s.1 s.2) (y7, 0)).bind fun l19 => some (y4, y5, y6, l19)
/-! fiduciallaw13_RasterParts -/
def fiduciallaw13_RasterParts (p0_0 : Int) (p0_1 : Int) (p0_2 : Int) (p0_3 : List Int) (p1_0 : Int) (p1_1 : Int) (p1_2 : Int) (p1_3 : Int) : Option Bool :=
  (fiduciallaw13_known).bind fun y4 => (if (!y4) = true then some false else (fiduciallaw13_few ([(p0_0, p0_1, p0_2, p0_3)] : List (Int × Int × Int × List Int))).bind fun y9 => (if (!y9) = true then some true else (raster_Crop p0_0 p0_1 p0_2 p0_3 p1_0 p1_1 p1_2 p1_3).bind fun (y12, y13, y14, y15, y16) => (fiducialref13_Check p0_0 p0_1 p0_2 p0_3).bind fun y24 => ((if (y24 == 0) = true then (if (decide (p1_0 < 0)) = true then some true else (if (decide (p1_1 < 0)) = true then some true else (if (decide (p1_2 < 1)) = true then some true else (if (decide (p1_3 < 1)) = true then some true else (if (decide ((w64 (p0_0 - 1)) < p1_0)) = true then some true else (if (decide ((w64 (p0_1 - 1)) < p1_1)) = true then some true else (if (decide ((w64 (p0_0 - p1_0)) < p1_2)) = true then some true else some (decide ((w64 (p0_1 - p1_1)) < p1_3))))))))) else some false)).bind fun s26 => ((if s26 = true then some 2 else some y24)).bind fun s29 => (if (s29 != 0) = true then (if (y16 == s29) = true then (fiduciallaw13_empty y12 y13 y14 y15).bind fun y34 => some y34 else some false) else (raster_Paste p0_0 p0_1 p0_2 p0_3 y12 y13 y14 y15 p1_0 p1_1).bind fun (y36, y37, y38, y39, y40) => (if (y16 == 0) = true then (if (y40 == 0) = true then (fiducialref13_Crop p0_0 p0_1 p0_2 p0_3 p1_0 p1_1 p1_2 p1_3).bind fun (y50, y51, y52, y53) => (fiducialref13_Equal y12 y13 y14 y15 y50 y51 y52 y53).bind fun y60 => (if y60 = true then (fiducialref13_Equal y36 y37 y38 y39 p0_0 p0_1 p0_2 p0_3).bind fun y63 => some y63 else some false) else some false) else some false))))
/-! raster_At -/
def raster_At (p0_0 : Int) (p0_1 : Int) (p0_2 : Int) (p0_3 : List Int) (p1 : Int) (p2 : Int) : Option (Int × Int) :=
  (raster_Check p0_0 p0_1 p0_2 p0_3).bind fun y3 => (if (y3 != 0) = true then some (0, y3) else (raster_has p0_0 p0_1 p0_2 p0_3 p1 p2).bind fun y6 => (if (!y6) = true then some (0, 2) else (raster_at p0_0 p0_1 p0_2 p0_3 p1 p2).bind fun y9 => some (y9, 0)))
/-! slices_Clone_sint -/
def slices_Clone_sint (p0 : List Int) : Option (List Int) :=
  chk (([] : List Int).length + p0.length ≤ 1099511627776) (some (([] : List Int) ++ p0))
/-! raster_Set -/
def raster_Set (p0_0 : Int) (p0_1 : Int) (p0_2 : Int) (p0_3 : List Int) (p1 : Int) (p2 : Int) (p3 : Int) : Option (Int × Int × Int × List Int × Int) :=
  (raster_Check p0_0 p0_1 p0_2 p0_3).bind fun y4 => (if (y4 != 0) = true then some (0, 0, 0, ([] : List Int), y4) else ((raster_has p0_0 p0_1 p0_2 p0_3 p1 p2).bind fun y21 => (if (!y21) = true then some true else (if (decide (p3 < 0)) = true then some true else some (decide (p0_2 < p3))))).bind fun s7 => (if s7 = true then some (0, 0, 0, ([] : List Int), 2) else (slices_Clone_sint p0_3).bind fun y11 => chk (0 ≤ (w64 ((w64 (p2 * p0_0)) + p1)) ∧ (w64 ((w64 (p2 * p0_0)) + p1)) < (y11.length : Int)) (some (p0_0, p0_1, p0_2, (y11.set (w64 ((w64 (p2 * p0_0)) + p1)).toNat p3), 0))))
/-! fiducialref13_Set -/
def fiducialref13_Set (p0_0 : Int) (p0_1 : Int) (p0_2 : Int) (p0_3 : List Int) (p1 : Int) (p2 : Int) (p3 : Int) : Option (Int × Int × Int × List Int) :=
  (fiducialref13_Copy p0_0 p0_1 p0_2 p0_3).bind fun (y4, y5, y6, y7) => chk (0 ≤ (w64 ((w64 (p2 * y4)) + p1)) ∧ (w64 ((w64 (p2 * y4)) + p1)) < (y7.length : Int)) (some (y4, y5, y6, (y7.set (w64 ((w64 (p2 * y4)) + p1)).toNat p3)))
/-! fiduciallaw13_RasterPixels -/
def fiduciallaw13_RasterPixels (p0_0 : Int) (p0_1 : Int) (p0_2 : Int) (p0_3 : List Int) (p1_0 : Int) (p1_1 : Int) (p2 : Int) : Option Bool :=
  (fiduciallaw13_known).bind fun y4 => (if (!y4) = true then some false else (fiduciallaw13_few ([(p0_0, p0_1, p0_2, p0_3)] : List (Int × Int × Int × List Int))).bind fun y9 => (if (!y9) = true then some true else (raster_At p0_0 p0_1 p0_2 p0_3 p1_0 p1_1).bind fun (y12, y13) => (raster_Set p0_0 p0_1 p0_2 p0_3 p1_0 p1_1 p2).bind fun (y15, y16, y17, y18, y19) => (fiducialref13_Check p0_0 p0_1 p0_2 p0_3).bind fun y27 => ((if (y27 == 0) = true then (fiducialref13_Inside p0_0 p0_1 p0_2 p0_3 p1_0 p1_1).bind fun y71 => some (!y71) else some false)).bind fun s29 => ((if s29 = true then some 2 else some y27)).bind fun s32 => (if (s32 != 0) = true then (if (y13 == s32) = true then (if (y19 == s32) = true then (if (y12 == 0) = true then (fiduciallaw13_empty y15 y16 y17 y18).bind fun y39 => some y39 else some false) else some false) else some false) else ((if (y13 != 0) = true then some true else (fiducialref13_At p0_0 p0_1 p0_2 p0_3 p1_0 p1_1).bind fun y67 => some (y12 != y67))).bind fun s41 => (if s41 = true then some false else ((if (decide (p2 < 0)) = true then some true else some (decide (p0_2 < p2)))).bind fun s45 => (if s45 = true then (if (y19 == 2) = true then (fiduciallaw13_empty y15 y16 y17 y18).bind fun y50 => some y50 else some false) else (if (y19 == 0) = true then (fiducialref13_Set p0_0 p0_1 p0_2 p0_3 p1_0 p1_1 p2).bind fun (y53, y54, y55, y56) => (fiducialref13_Equal y15 y16 y17 y18 y53 y54 y55 y56).bind fun y63 => some y63 else some false))))))
end Go.Proofs.Ytoflllddpoonbaa
