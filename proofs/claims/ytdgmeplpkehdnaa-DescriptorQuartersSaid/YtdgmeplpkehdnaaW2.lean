import Derived.Test.YtdgmeplpkehdnaaTab
import Derived.Test.YtdgmeplpkehdnaaM
import Derived.Test.YtdgmeplpkehdnaaW1
set_option linter.unusedVariables false
set_option maxRecDepth 100000
set_option maxHeartbeats 4000000
namespace Go.Proofs.Ytdgmeplpkehdnaa
open Go.E Go.RowKit
attribute [local irreducible] Go.E.WO Go.E.WK
theorem bits_OnesCount64_walk {m : Mu} {p0 : Int}   {r : Int} (hm : bits_OnesCount64 p0 = some r) :
    Go.E.Spec Try.prog 13 [.int .u64 p0] m (fun v _ _ => v = .int .i64 r) := by
  refine Spec_enter Try.func13 rfl rfl rfl (fun w0 => ?_)
  refine WK.sub (e' := [(0, .int .u64 p0)]) ⟨rfl, trivial⟩ ?_
  refine WK.sub (e' := [(0, .int .u64 p0)]) ⟨rfl, trivial⟩ ?_
  unfold bits_OnesCount64 at hm
  refine WK_seq ?_
  refine WK_region ?_
  refine WO_pure tbok 1 [(0, .int .u64 p0), (2, .int .i64 0)] rfl ⟨rfl, rfl, trivial⟩ ?_
  refine WO_end ?_
  refine WK_seq ?_
  refine WK_region ?_
  refine WO_pure tbok 1 [(0, .int .u64 p0), (2, .int .i64 0), (3, .int .u64 p0)] rfl ⟨rfl, rfl, rfl, trivial⟩ ?_
  refine WO_shr rfl rfl rfl rfl rfl (by decide) ?_
  refine WO_pure tbok 5 [(0, .int .u64 (wu64 ((wu64 (((BitVec.ofInt 64 (Int.fdiv p0 (2 ^ (min (1 : Int).toNat 64))) &&& BitVec.ofInt 64 6148914691236517205).toNat : Int))) + (wu64 (((BitVec.ofInt 64 p0 &&& BitVec.ofInt 64 6148914691236517205).toNat : Int)))))), (2, .int .i64 0)] rfl ⟨rfl, rfl, trivial⟩ ?_
  refine WO_end ?_
  refine WK_seq ?_
  refine WK_region ?_
  refine WO_pure tbok 1 [(0, .int .u64 (wu64 ((wu64 (((BitVec.ofInt 64 (Int.fdiv p0 (2 ^ (min (1 : Int).toNat 64))) &&& BitVec.ofInt 64 6148914691236517205).toNat : Int))) + (wu64 (((BitVec.ofInt 64 p0 &&& BitVec.ofInt 64 6148914691236517205).toNat : Int)))))), (2, .int .i64 0), (9, .int .u64 (wu64 ((wu64 (((BitVec.ofInt 64 (Int.fdiv p0 (2 ^ (min (1 : Int).toNat 64))) &&& BitVec.ofInt 64 6148914691236517205).toNat : Int))) + (wu64 (((BitVec.ofInt 64 p0 &&& BitVec.ofInt 64 6148914691236517205).toNat : Int))))))] rfl ⟨rfl, rfl, rfl, trivial⟩ ?_
  refine WO_shr rfl rfl rfl rfl rfl (by decide) ?_
  refine WO_pure tbok 5 [(0, .int .u64 (wu64 ((wu64 (((BitVec.ofInt 64 (Int.fdiv (wu64 ((wu64 (((BitVec.ofInt 64 (Int.fdiv p0 (2 ^ (min (1 : Int).toNat 64))) &&& BitVec.ofInt 64 6148914691236517205).toNat : Int))) + (wu64 (((BitVec.ofInt 64 p0 &&& BitVec.ofInt 64 6148914691236517205).toNat : Int))))) (2 ^ (min (2 : Int).toNat 64))) &&& BitVec.ofInt 64 3689348814741910323).toNat : Int))) + (wu64 (((BitVec.ofInt 64 (wu64 ((wu64 (((BitVec.ofInt 64 (Int.fdiv p0 (2 ^ (min (1 : Int).toNat 64))) &&& BitVec.ofInt 64 6148914691236517205).toNat : Int))) + (wu64 (((BitVec.ofInt 64 p0 &&& BitVec.ofInt 64 6148914691236517205).toNat : Int))))) &&& BitVec.ofInt 64 3689348814741910323).toNat : Int)))))), (2, .int .i64 0)] rfl ⟨rfl, rfl, trivial⟩ ?_
  refine WO_end ?_
  refine WK_seq ?_
  refine WK_region ?_
  refine WO_pure tbok 1 [(0, .int .u64 (wu64 ((wu64 (((BitVec.ofInt 64 (Int.fdiv (wu64 ((wu64 (((BitVec.ofInt 64 (Int.fdiv p0 (2 ^ (min (1 : Int).toNat 64))) &&& BitVec.ofInt 64 6148914691236517205).toNat : Int))) + (wu64 (((BitVec.ofInt 64 p0 &&& BitVec.ofInt 64 6148914691236517205).toNat : Int))))) (2 ^ (min (2 : Int).toNat 64))) &&& BitVec.ofInt 64 3689348814741910323).toNat : Int))) + (wu64 (((BitVec.ofInt 64 (wu64 ((wu64 (((BitVec.ofInt 64 (Int.fdiv p0 (2 ^ (min (1 : Int).toNat 64))) &&& BitVec.ofInt 64 6148914691236517205).toNat : Int))) + (wu64 (((BitVec.ofInt 64 p0 &&& BitVec.ofInt 64 6148914691236517205).toNat : Int))))) &&& BitVec.ofInt 64 3689348814741910323).toNat : Int)))))), (2, .int .i64 0), (15, .int .u64 (wu64 ((wu64 (((BitVec.ofInt 64 (Int.fdiv (wu64 ((wu64 (((BitVec.ofInt 64 (Int.fdiv p0 (2 ^ (min (1 : Int).toNat 64))) &&& BitVec.ofInt 64 6148914691236517205).toNat : Int))) + (wu64 (((BitVec.ofInt 64 p0 &&& BitVec.ofInt 64 6148914691236517205).toNat : Int))))) (2 ^ (min (2 : Int).toNat 64))) &&& BitVec.ofInt 64 3689348814741910323).toNat : Int))) + (wu64 (((BitVec.ofInt 64 (wu64 ((wu64 (((BitVec.ofInt 64 (Int.fdiv p0 (2 ^ (min (1 : Int).toNat 64))) &&& BitVec.ofInt 64 6148914691236517205).toNat : Int))) + (wu64 (((BitVec.ofInt 64 p0 &&& BitVec.ofInt 64 6148914691236517205).toNat : Int))))) &&& BitVec.ofInt 64 3689348814741910323).toNat : Int))))))] rfl ⟨rfl, rfl, rfl, trivial⟩ ?_
  refine WO_shr rfl rfl rfl rfl rfl (by decide) ?_
  refine WO_pure tbok 4 [(0, .int .u64 (wu64 (((BitVec.ofInt 64 (wu64 ((Int.fdiv (wu64 ((wu64 (((BitVec.ofInt 64 (Int.fdiv (wu64 ((wu64 (((BitVec.ofInt 64 (Int.fdiv p0 (2 ^ (min (1 : Int).toNat 64))) &&& BitVec.ofInt 64 6148914691236517205).toNat : Int))) + (wu64 (((BitVec.ofInt 64 p0 &&& BitVec.ofInt 64 6148914691236517205).toNat : Int))))) (2 ^ (min (2 : Int).toNat 64))) &&& BitVec.ofInt 64 3689348814741910323).toNat : Int))) + (wu64 (((BitVec.ofInt 64 (wu64 ((wu64 (((BitVec.ofInt 64 (Int.fdiv p0 (2 ^ (min (1 : Int).toNat 64))) &&& BitVec.ofInt 64 6148914691236517205).toNat : Int))) + (wu64 (((BitVec.ofInt 64 p0 &&& BitVec.ofInt 64 6148914691236517205).toNat : Int))))) &&& BitVec.ofInt 64 3689348814741910323).toNat : Int))))) (2 ^ (min (4 : Int).toNat 64))) + (wu64 ((wu64 (((BitVec.ofInt 64 (Int.fdiv (wu64 ((wu64 (((BitVec.ofInt 64 (Int.fdiv p0 (2 ^ (min (1 : Int).toNat 64))) &&& BitVec.ofInt 64 6148914691236517205).toNat : Int))) + (wu64 (((BitVec.ofInt 64 p0 &&& BitVec.ofInt 64 6148914691236517205).toNat : Int))))) (2 ^ (min (2 : Int).toNat 64))) &&& BitVec.ofInt 64 3689348814741910323).toNat : Int))) + (wu64 (((BitVec.ofInt 64 (wu64 ((wu64 (((BitVec.ofInt 64 (Int.fdiv p0 (2 ^ (min (1 : Int).toNat 64))) &&& BitVec.ofInt 64 6148914691236517205).toNat : Int))) + (wu64 (((BitVec.ofInt 64 p0 &&& BitVec.ofInt 64 6148914691236517205).toNat : Int))))) &&& BitVec.ofInt 64 3689348814741910323).toNat : Int))))))) &&& BitVec.ofInt 64 1085102592571150095).toNat : Int)))), (2, .int .i64 0)] rfl ⟨rfl, rfl, trivial⟩ ?_
  refine WO_end ?_
  refine WK_seq ?_
  refine WK_region ?_
  refine WO_pure tbok 2 [(0, .int .u64 (wu64 (((BitVec.ofInt 64 (wu64 ((Int.fdiv (wu64 ((wu64 (((BitVec.ofInt 64 (Int.fdiv (wu64 ((wu64 (((BitVec.ofInt 64 (Int.fdiv p0 (2 ^ (min (1 : Int).toNat 64))) &&& BitVec.ofInt 64 6148914691236517205).toNat : Int))) + (wu64 (((BitVec.ofInt 64 p0 &&& BitVec.ofInt 64 6148914691236517205).toNat : Int))))) (2 ^ (min (2 : Int).toNat 64))) &&& BitVec.ofInt 64 3689348814741910323).toNat : Int))) + (wu64 (((BitVec.ofInt 64 (wu64 ((wu64 (((BitVec.ofInt 64 (Int.fdiv p0 (2 ^ (min (1 : Int).toNat 64))) &&& BitVec.ofInt 64 6148914691236517205).toNat : Int))) + (wu64 (((BitVec.ofInt 64 p0 &&& BitVec.ofInt 64 6148914691236517205).toNat : Int))))) &&& BitVec.ofInt 64 3689348814741910323).toNat : Int))))) (2 ^ (min (4 : Int).toNat 64))) + (wu64 ((wu64 (((BitVec.ofInt 64 (Int.fdiv (wu64 ((wu64 (((BitVec.ofInt 64 (Int.fdiv p0 (2 ^ (min (1 : Int).toNat 64))) &&& BitVec.ofInt 64 6148914691236517205).toNat : Int))) + (wu64 (((BitVec.ofInt 64 p0 &&& BitVec.ofInt 64 6148914691236517205).toNat : Int))))) (2 ^ (min (2 : Int).toNat 64))) &&& BitVec.ofInt 64 3689348814741910323).toNat : Int))) + (wu64 (((BitVec.ofInt 64 (wu64 ((wu64 (((BitVec.ofInt 64 (Int.fdiv p0 (2 ^ (min (1 : Int).toNat 64))) &&& BitVec.ofInt 64 6148914691236517205).toNat : Int))) + (wu64 (((BitVec.ofInt 64 p0 &&& BitVec.ofInt 64 6148914691236517205).toNat : Int))))) &&& BitVec.ofInt 64 3689348814741910323).toNat : Int))))))) &&& BitVec.ofInt 64 1085102592571150095).toNat : Int)))), (2, .int .i64 0), (20, .int .u64 (wu64 (((BitVec.ofInt 64 (wu64 ((Int.fdiv (wu64 ((wu64 (((BitVec.ofInt 64 (Int.fdiv (wu64 ((wu64 (((BitVec.ofInt 64 (Int.fdiv p0 (2 ^ (min (1 : Int).toNat 64))) &&& BitVec.ofInt 64 6148914691236517205).toNat : Int))) + (wu64 (((BitVec.ofInt 64 p0 &&& BitVec.ofInt 64 6148914691236517205).toNat : Int))))) (2 ^ (min (2 : Int).toNat 64))) &&& BitVec.ofInt 64 3689348814741910323).toNat : Int))) + (wu64 (((BitVec.ofInt 64 (wu64 ((wu64 (((BitVec.ofInt 64 (Int.fdiv p0 (2 ^ (min (1 : Int).toNat 64))) &&& BitVec.ofInt 64 6148914691236517205).toNat : Int))) + (wu64 (((BitVec.ofInt 64 p0 &&& BitVec.ofInt 64 6148914691236517205).toNat : Int))))) &&& BitVec.ofInt 64 3689348814741910323).toNat : Int))))) (2 ^ (min (4 : Int).toNat 64))) + (wu64 ((wu64 (((BitVec.ofInt 64 (Int.fdiv (wu64 ((wu64 (((BitVec.ofInt 64 (Int.fdiv p0 (2 ^ (min (1 : Int).toNat 64))) &&& BitVec.ofInt 64 6148914691236517205).toNat : Int))) + (wu64 (((BitVec.ofInt 64 p0 &&& BitVec.ofInt 64 6148914691236517205).toNat : Int))))) (2 ^ (min (2 : Int).toNat 64))) &&& BitVec.ofInt 64 3689348814741910323).toNat : Int))) + (wu64 (((BitVec.ofInt 64 (wu64 ((wu64 (((BitVec.ofInt 64 (Int.fdiv p0 (2 ^ (min (1 : Int).toNat 64))) &&& BitVec.ofInt 64 6148914691236517205).toNat : Int))) + (wu64 (((BitVec.ofInt 64 p0 &&& BitVec.ofInt 64 6148914691236517205).toNat : Int))))) &&& BitVec.ofInt 64 3689348814741910323).toNat : Int))))))) &&& BitVec.ofInt 64 1085102592571150095).toNat : Int)))), (21, .int .u64 (wu64 (((BitVec.ofInt 64 (wu64 ((Int.fdiv (wu64 ((wu64 (((BitVec.ofInt 64 (Int.fdiv (wu64 ((wu64 (((BitVec.ofInt 64 (Int.fdiv p0 (2 ^ (min (1 : Int).toNat 64))) &&& BitVec.ofInt 64 6148914691236517205).toNat : Int))) + (wu64 (((BitVec.ofInt 64 p0 &&& BitVec.ofInt 64 6148914691236517205).toNat : Int))))) (2 ^ (min (2 : Int).toNat 64))) &&& BitVec.ofInt 64 3689348814741910323).toNat : Int))) + (wu64 (((BitVec.ofInt 64 (wu64 ((wu64 (((BitVec.ofInt 64 (Int.fdiv p0 (2 ^ (min (1 : Int).toNat 64))) &&& BitVec.ofInt 64 6148914691236517205).toNat : Int))) + (wu64 (((BitVec.ofInt 64 p0 &&& BitVec.ofInt 64 6148914691236517205).toNat : Int))))) &&& BitVec.ofInt 64 3689348814741910323).toNat : Int))))) (2 ^ (min (4 : Int).toNat 64))) + (wu64 ((wu64 (((BitVec.ofInt 64 (Int.fdiv (wu64 ((wu64 (((BitVec.ofInt 64 (Int.fdiv p0 (2 ^ (min (1 : Int).toNat 64))) &&& BitVec.ofInt 64 6148914691236517205).toNat : Int))) + (wu64 (((BitVec.ofInt 64 p0 &&& BitVec.ofInt 64 6148914691236517205).toNat : Int))))) (2 ^ (min (2 : Int).toNat 64))) &&& BitVec.ofInt 64 3689348814741910323).toNat : Int))) + (wu64 (((BitVec.ofInt 64 (wu64 ((wu64 (((BitVec.ofInt 64 (Int.fdiv p0 (2 ^ (min (1 : Int).toNat 64))) &&& BitVec.ofInt 64 6148914691236517205).toNat : Int))) + (wu64 (((BitVec.ofInt 64 p0 &&& BitVec.ofInt 64 6148914691236517205).toNat : Int))))) &&& BitVec.ofInt 64 3689348814741910323).toNat : Int))))))) &&& BitVec.ofInt 64 1085102592571150095).toNat : Int))))] rfl ⟨rfl, rfl, rfl, rfl, trivial⟩ ?_
  refine WO_shr rfl rfl rfl rfl rfl (by decide) ?_
  refine WO_pure tbok 2 [(0, .int .u64 (wu64 ((wu64 (((BitVec.ofInt 64 (wu64 ((Int.fdiv (wu64 ((wu64 (((BitVec.ofInt 64 (Int.fdiv (wu64 ((wu64 (((BitVec.ofInt 64 (Int.fdiv p0 (2 ^ (min (1 : Int).toNat 64))) &&& BitVec.ofInt 64 6148914691236517205).toNat : Int))) + (wu64 (((BitVec.ofInt 64 p0 &&& BitVec.ofInt 64 6148914691236517205).toNat : Int))))) (2 ^ (min (2 : Int).toNat 64))) &&& BitVec.ofInt 64 3689348814741910323).toNat : Int))) + (wu64 (((BitVec.ofInt 64 (wu64 ((wu64 (((BitVec.ofInt 64 (Int.fdiv p0 (2 ^ (min (1 : Int).toNat 64))) &&& BitVec.ofInt 64 6148914691236517205).toNat : Int))) + (wu64 (((BitVec.ofInt 64 p0 &&& BitVec.ofInt 64 6148914691236517205).toNat : Int))))) &&& BitVec.ofInt 64 3689348814741910323).toNat : Int))))) (2 ^ (min (4 : Int).toNat 64))) + (wu64 ((wu64 (((BitVec.ofInt 64 (Int.fdiv (wu64 ((wu64 (((BitVec.ofInt 64 (Int.fdiv p0 (2 ^ (min (1 : Int).toNat 64))) &&& BitVec.ofInt 64 6148914691236517205).toNat : Int))) + (wu64 (((BitVec.ofInt 64 p0 &&& BitVec.ofInt 64 6148914691236517205).toNat : Int))))) (2 ^ (min (2 : Int).toNat 64))) &&& BitVec.ofInt 64 3689348814741910323).toNat : Int))) + (wu64 (((BitVec.ofInt 64 (wu64 ((wu64 (((BitVec.ofInt 64 (Int.fdiv p0 (2 ^ (min (1 : Int).toNat 64))) &&& BitVec.ofInt 64 6148914691236517205).toNat : Int))) + (wu64 (((BitVec.ofInt 64 p0 &&& BitVec.ofInt 64 6148914691236517205).toNat : Int))))) &&& BitVec.ofInt 64 3689348814741910323).toNat : Int))))))) &&& BitVec.ofInt 64 1085102592571150095).toNat : Int))) + (Int.fdiv (wu64 (((BitVec.ofInt 64 (wu64 ((Int.fdiv (wu64 ((wu64 (((BitVec.ofInt 64 (Int.fdiv (wu64 ((wu64 (((BitVec.ofInt 64 (Int.fdiv p0 (2 ^ (min (1 : Int).toNat 64))) &&& BitVec.ofInt 64 6148914691236517205).toNat : Int))) + (wu64 (((BitVec.ofInt 64 p0 &&& BitVec.ofInt 64 6148914691236517205).toNat : Int))))) (2 ^ (min (2 : Int).toNat 64))) &&& BitVec.ofInt 64 3689348814741910323).toNat : Int))) + (wu64 (((BitVec.ofInt 64 (wu64 ((wu64 (((BitVec.ofInt 64 (Int.fdiv p0 (2 ^ (min (1 : Int).toNat 64))) &&& BitVec.ofInt 64 6148914691236517205).toNat : Int))) + (wu64 (((BitVec.ofInt 64 p0 &&& BitVec.ofInt 64 6148914691236517205).toNat : Int))))) &&& BitVec.ofInt 64 3689348814741910323).toNat : Int))))) (2 ^ (min (4 : Int).toNat 64))) + (wu64 ((wu64 (((BitVec.ofInt 64 (Int.fdiv (wu64 ((wu64 (((BitVec.ofInt 64 (Int.fdiv p0 (2 ^ (min (1 : Int).toNat 64))) &&& BitVec.ofInt 64 6148914691236517205).toNat : Int))) + (wu64 (((BitVec.ofInt 64 p0 &&& BitVec.ofInt 64 6148914691236517205).toNat : Int))))) (2 ^ (min (2 : Int).toNat 64))) &&& BitVec.ofInt 64 3689348814741910323).toNat : Int))) + (wu64 (((BitVec.ofInt 64 (wu64 ((wu64 (((BitVec.ofInt 64 (Int.fdiv p0 (2 ^ (min (1 : Int).toNat 64))) &&& BitVec.ofInt 64 6148914691236517205).toNat : Int))) + (wu64 (((BitVec.ofInt 64 p0 &&& BitVec.ofInt 64 6148914691236517205).toNat : Int))))) &&& BitVec.ofInt 64 3689348814741910323).toNat : Int))))))) &&& BitVec.ofInt 64 1085102592571150095).toNat : Int))) (2 ^ (min (8 : Int).toNat 64)))))), (2, .int .i64 0)] rfl ⟨rfl, rfl, trivial⟩ ?_
  refine WO_end ?_
  refine WK_seq ?_
  refine WK_region ?_
  refine WO_pure tbok 2 [(0, .int .u64 (wu64 ((wu64 (((BitVec.ofInt 64 (wu64 ((Int.fdiv (wu64 ((wu64 (((BitVec.ofInt 64 (Int.fdiv (wu64 ((wu64 (((BitVec.ofInt 64 (Int.fdiv p0 (2 ^ (min (1 : Int).toNat 64))) &&& BitVec.ofInt 64 6148914691236517205).toNat : Int))) + (wu64 (((BitVec.ofInt 64 p0 &&& BitVec.ofInt 64 6148914691236517205).toNat : Int))))) (2 ^ (min (2 : Int).toNat 64))) &&& BitVec.ofInt 64 3689348814741910323).toNat : Int))) + (wu64 (((BitVec.ofInt 64 (wu64 ((wu64 (((BitVec.ofInt 64 (Int.fdiv p0 (2 ^ (min (1 : Int).toNat 64))) &&& BitVec.ofInt 64 6148914691236517205).toNat : Int))) + (wu64 (((BitVec.ofInt 64 p0 &&& BitVec.ofInt 64 6148914691236517205).toNat : Int))))) &&& BitVec.ofInt 64 3689348814741910323).toNat : Int))))) (2 ^ (min (4 : Int).toNat 64))) + (wu64 ((wu64 (((BitVec.ofInt 64 (Int.fdiv (wu64 ((wu64 (((BitVec.ofInt 64 (Int.fdiv p0 (2 ^ (min (1 : Int).toNat 64))) &&& BitVec.ofInt 64 6148914691236517205).toNat : Int))) + (wu64 (((BitVec.ofInt 64 p0 &&& BitVec.ofInt 64 6148914691236517205).toNat : Int))))) (2 ^ (min (2 : Int).toNat 64))) &&& BitVec.ofInt 64 3689348814741910323).toNat : Int))) + (wu64 (((BitVec.ofInt 64 (wu64 ((wu64 (((BitVec.ofInt 64 (Int.fdiv p0 (2 ^ (min (1 : Int).toNat 64))) &&& BitVec.ofInt 64 6148914691236517205).toNat : Int))) + (wu64 (((BitVec.ofInt 64 p0 &&& BitVec.ofInt 64 6148914691236517205).toNat : Int))))) &&& BitVec.ofInt 64 3689348814741910323).toNat : Int))))))) &&& BitVec.ofInt 64 1085102592571150095).toNat : Int))) + (Int.fdiv (wu64 (((BitVec.ofInt 64 (wu64 ((Int.fdiv (wu64 ((wu64 (((BitVec.ofInt 64 (Int.fdiv (wu64 ((wu64 (((BitVec.ofInt 64 (Int.fdiv p0 (2 ^ (min (1 : Int).toNat 64))) &&& BitVec.ofInt 64 6148914691236517205).toNat : Int))) + (wu64 (((BitVec.ofInt 64 p0 &&& BitVec.ofInt 64 6148914691236517205).toNat : Int))))) (2 ^ (min (2 : Int).toNat 64))) &&& BitVec.ofInt 64 3689348814741910323).toNat : Int))) + (wu64 (((BitVec.ofInt 64 (wu64 ((wu64 (((BitVec.ofInt 64 (Int.fdiv p0 (2 ^ (min (1 : Int).toNat 64))) &&& BitVec.ofInt 64 6148914691236517205).toNat : Int))) + (wu64 (((BitVec.ofInt 64 p0 &&& BitVec.ofInt 64 6148914691236517205).toNat : Int))))) &&& BitVec.ofInt 64 3689348814741910323).toNat : Int))))) (2 ^ (min (4 : Int).toNat 64))) + (wu64 ((wu64 (((BitVec.ofInt 64 (Int.fdiv (wu64 ((wu64 (((BitVec.ofInt 64 (Int.fdiv p0 (2 ^ (min (1 : Int).toNat 64))) &&& BitVec.ofInt 64 6148914691236517205).toNat : Int))) + (wu64 (((BitVec.ofInt 64 p0 &&& BitVec.ofInt 64 6148914691236517205).toNat : Int))))) (2 ^ (min (2 : Int).toNat 64))) &&& BitVec.ofInt 64 3689348814741910323).toNat : Int))) + (wu64 (((BitVec.ofInt 64 (wu64 ((wu64 (((BitVec.ofInt 64 (Int.fdiv p0 (2 ^ (min (1 : Int).toNat 64))) &&& BitVec.ofInt 64 6148914691236517205).toNat : Int))) + (wu64 (((BitVec.ofInt 64 p0 &&& BitVec.ofInt 64 6148914691236517205).toNat : Int))))) &&& BitVec.ofInt 64 3689348814741910323).toNat : Int))))))) &&& BitVec.ofInt 64 1085102592571150095).toNat : Int))) (2 ^ (min (8 : Int).toNat 64)))))), (2, .int .i64 0), (24, .int .u64 (wu64 ((wu64 (((BitVec.ofInt 64 (wu64 ((Int.fdiv (wu64 ((wu64 (((BitVec.ofInt 64 (Int.fdiv (wu64 ((wu64 (((BitVec.ofInt 64 (Int.fdiv p0 (2 ^ (min (1 : Int).toNat 64))) &&& BitVec.ofInt 64 6148914691236517205).toNat : Int))) + (wu64 (((BitVec.ofInt 64 p0 &&& BitVec.ofInt 64 6148914691236517205).toNat : Int))))) (2 ^ (min (2 : Int).toNat 64))) &&& BitVec.ofInt 64 3689348814741910323).toNat : Int))) + (wu64 (((BitVec.ofInt 64 (wu64 ((wu64 (((BitVec.ofInt 64 (Int.fdiv p0 (2 ^ (min (1 : Int).toNat 64))) &&& BitVec.ofInt 64 6148914691236517205).toNat : Int))) + (wu64 (((BitVec.ofInt 64 p0 &&& BitVec.ofInt 64 6148914691236517205).toNat : Int))))) &&& BitVec.ofInt 64 3689348814741910323).toNat : Int))))) (2 ^ (min (4 : Int).toNat 64))) + (wu64 ((wu64 (((BitVec.ofInt 64 (Int.fdiv (wu64 ((wu64 (((BitVec.ofInt 64 (Int.fdiv p0 (2 ^ (min (1 : Int).toNat 64))) &&& BitVec.ofInt 64 6148914691236517205).toNat : Int))) + (wu64 (((BitVec.ofInt 64 p0 &&& BitVec.ofInt 64 6148914691236517205).toNat : Int))))) (2 ^ (min (2 : Int).toNat 64))) &&& BitVec.ofInt 64 3689348814741910323).toNat : Int))) + (wu64 (((BitVec.ofInt 64 (wu64 ((wu64 (((BitVec.ofInt 64 (Int.fdiv p0 (2 ^ (min (1 : Int).toNat 64))) &&& BitVec.ofInt 64 6148914691236517205).toNat : Int))) + (wu64 (((BitVec.ofInt 64 p0 &&& BitVec.ofInt 64 6148914691236517205).toNat : Int))))) &&& BitVec.ofInt 64 3689348814741910323).toNat : Int))))))) &&& BitVec.ofInt 64 1085102592571150095).toNat : Int))) + (Int.fdiv (wu64 (((BitVec.ofInt 64 (wu64 ((Int.fdiv (wu64 ((wu64 (((BitVec.ofInt 64 (Int.fdiv (wu64 ((wu64 (((BitVec.ofInt 64 (Int.fdiv p0 (2 ^ (min (1 : Int).toNat 64))) &&& BitVec.ofInt 64 6148914691236517205).toNat : Int))) + (wu64 (((BitVec.ofInt 64 p0 &&& BitVec.ofInt 64 6148914691236517205).toNat : Int))))) (2 ^ (min (2 : Int).toNat 64))) &&& BitVec.ofInt 64 3689348814741910323).toNat : Int))) + (wu64 (((BitVec.ofInt 64 (wu64 ((wu64 (((BitVec.ofInt 64 (Int.fdiv p0 (2 ^ (min (1 : Int).toNat 64))) &&& BitVec.ofInt 64 6148914691236517205).toNat : Int))) + (wu64 (((BitVec.ofInt 64 p0 &&& BitVec.ofInt 64 6148914691236517205).toNat : Int))))) &&& BitVec.ofInt 64 3689348814741910323).toNat : Int))))) (2 ^ (min (4 : Int).toNat 64))) + (wu64 ((wu64 (((BitVec.ofInt 64 (Int.fdiv (wu64 ((wu64 (((BitVec.ofInt 64 (Int.fdiv p0 (2 ^ (min (1 : Int).toNat 64))) &&& BitVec.ofInt 64 6148914691236517205).toNat : Int))) + (wu64 (((BitVec.ofInt 64 p0 &&& BitVec.ofInt 64 6148914691236517205).toNat : Int))))) (2 ^ (min (2 : Int).toNat 64))) &&& BitVec.ofInt 64 3689348814741910323).toNat : Int))) + (wu64 (((BitVec.ofInt 64 (wu64 ((wu64 (((BitVec.ofInt 64 (Int.fdiv p0 (2 ^ (min (1 : Int).toNat 64))) &&& BitVec.ofInt 64 6148914691236517205).toNat : Int))) + (wu64 (((BitVec.ofInt 64 p0 &&& BitVec.ofInt 64 6148914691236517205).toNat : Int))))) &&& BitVec.ofInt 64 3689348814741910323).toNat : Int))))))) &&& BitVec.ofInt 64 1085102592571150095).toNat : Int))) (2 ^ (min (8 : Int).toNat 64)))))), (25, .int .u64 (wu64 ((wu64 (((BitVec.ofInt 64 (wu64 ((Int.fdiv (wu64 ((wu64 (((BitVec.ofInt 64 (Int.fdiv (wu64 ((wu64 (((BitVec.ofInt 64 (Int.fdiv p0 (2 ^ (min (1 : Int).toNat 64))) &&& BitVec.ofInt 64 6148914691236517205).toNat : Int))) + (wu64 (((BitVec.ofInt 64 p0 &&& BitVec.ofInt 64 6148914691236517205).toNat : Int))))) (2 ^ (min (2 : Int).toNat 64))) &&& BitVec.ofInt 64 3689348814741910323).toNat : Int))) + (wu64 (((BitVec.ofInt 64 (wu64 ((wu64 (((BitVec.ofInt 64 (Int.fdiv p0 (2 ^ (min (1 : Int).toNat 64))) &&& BitVec.ofInt 64 6148914691236517205).toNat : Int))) + (wu64 (((BitVec.ofInt 64 p0 &&& BitVec.ofInt 64 6148914691236517205).toNat : Int))))) &&& BitVec.ofInt 64 3689348814741910323).toNat : Int))))) (2 ^ (min (4 : Int).toNat 64))) + (wu64 ((wu64 (((BitVec.ofInt 64 (Int.fdiv (wu64 ((wu64 (((BitVec.ofInt 64 (Int.fdiv p0 (2 ^ (min (1 : Int).toNat 64))) &&& BitVec.ofInt 64 6148914691236517205).toNat : Int))) + (wu64 (((BitVec.ofInt 64 p0 &&& BitVec.ofInt 64 6148914691236517205).toNat : Int))))) (2 ^ (min (2 : Int).toNat 64))) &&& BitVec.ofInt 64 3689348814741910323).toNat : Int))) + (wu64 (((BitVec.ofInt 64 (wu64 ((wu64 (((BitVec.ofInt 64 (Int.fdiv p0 (2 ^ (min (1 : Int).toNat 64))) &&& BitVec.ofInt 64 6148914691236517205).toNat : Int))) + (wu64 (((BitVec.ofInt 64 p0 &&& BitVec.ofInt 64 6148914691236517205).toNat : Int))))) &&& BitVec.ofInt 64 3689348814741910323).toNat : Int))))))) &&& BitVec.ofInt 64 1085102592571150095).toNat : Int))) + (Int.fdiv (wu64 (((BitVec.ofInt 64 (wu64 ((Int.fdiv (wu64 ((wu64 (((BitVec.ofInt 64 (Int.fdiv (wu64 ((wu64 (((BitVec.ofInt 64 (Int.fdiv p0 (2 ^ (min (1 : Int).toNat 64))) &&& BitVec.ofInt 64 6148914691236517205).toNat : Int))) + (wu64 (((BitVec.ofInt 64 p0 &&& BitVec.ofInt 64 6148914691236517205).toNat : Int))))) (2 ^ (min (2 : Int).toNat 64))) &&& BitVec.ofInt 64 3689348814741910323).toNat : Int))) + (wu64 (((BitVec.ofInt 64 (wu64 ((wu64 (((BitVec.ofInt 64 (Int.fdiv p0 (2 ^ (min (1 : Int).toNat 64))) &&& BitVec.ofInt 64 6148914691236517205).toNat : Int))) + (wu64 (((BitVec.ofInt 64 p0 &&& BitVec.ofInt 64 6148914691236517205).toNat : Int))))) &&& BitVec.ofInt 64 3689348814741910323).toNat : Int))))) (2 ^ (min (4 : Int).toNat 64))) + (wu64 ((wu64 (((BitVec.ofInt 64 (Int.fdiv (wu64 ((wu64 (((BitVec.ofInt 64 (Int.fdiv p0 (2 ^ (min (1 : Int).toNat 64))) &&& BitVec.ofInt 64 6148914691236517205).toNat : Int))) + (wu64 (((BitVec.ofInt 64 p0 &&& BitVec.ofInt 64 6148914691236517205).toNat : Int))))) (2 ^ (min (2 : Int).toNat 64))) &&& BitVec.ofInt 64 3689348814741910323).toNat : Int))) + (wu64 (((BitVec.ofInt 64 (wu64 ((wu64 (((BitVec.ofInt 64 (Int.fdiv p0 (2 ^ (min (1 : Int).toNat 64))) &&& BitVec.ofInt 64 6148914691236517205).toNat : Int))) + (wu64 (((BitVec.ofInt 64 p0 &&& BitVec.ofInt 64 6148914691236517205).toNat : Int))))) &&& BitVec.ofInt 64 3689348814741910323).toNat : Int))))))) &&& BitVec.ofInt 64 1085102592571150095).toNat : Int))) (2 ^ (min (8 : Int).toNat 64))))))] rfl ⟨rfl, rfl, rfl, rfl, trivial⟩ ?_
  refine WO_shr rfl rfl rfl rfl rfl (by decide) ?_
  refine WO_pure tbok 2 [(0, .int .u64 (wu64 ((wu64 ((wu64 (((BitVec.ofInt 64 (wu64 ((Int.fdiv (wu64 ((wu64 (((BitVec.ofInt 64 (Int.fdiv (wu64 ((wu64 (((BitVec.ofInt 64 (Int.fdiv p0 (2 ^ (min (1 : Int).toNat 64))) &&& BitVec.ofInt 64 6148914691236517205).toNat : Int))) + (wu64 (((BitVec.ofInt 64 p0 &&& BitVec.ofInt 64 6148914691236517205).toNat : Int))))) (2 ^ (min (2 : Int).toNat 64))) &&& BitVec.ofInt 64 3689348814741910323).toNat : Int))) + (wu64 (((BitVec.ofInt 64 (wu64 ((wu64 (((BitVec.ofInt 64 (Int.fdiv p0 (2 ^ (min (1 : Int).toNat 64))) &&& BitVec.ofInt 64 6148914691236517205).toNat : Int))) + (wu64 (((BitVec.ofInt 64 p0 &&& BitVec.ofInt 64 6148914691236517205).toNat : Int))))) &&& BitVec.ofInt 64 3689348814741910323).toNat : Int))))) (2 ^ (min (4 : Int).toNat 64))) + (wu64 ((wu64 (((BitVec.ofInt 64 (Int.fdiv (wu64 ((wu64 (((BitVec.ofInt 64 (Int.fdiv p0 (2 ^ (min (1 : Int).toNat 64))) &&& BitVec.ofInt 64 6148914691236517205).toNat : Int))) + (wu64 (((BitVec.ofInt 64 p0 &&& BitVec.ofInt 64 6148914691236517205).toNat : Int))))) (2 ^ (min (2 : Int).toNat 64))) &&& BitVec.ofInt 64 3689348814741910323).toNat : Int))) + (wu64 (((BitVec.ofInt 64 (wu64 ((wu64 (((BitVec.ofInt 64 (Int.fdiv p0 (2 ^ (min (1 : Int).toNat 64))) &&& BitVec.ofInt 64 6148914691236517205).toNat : Int))) + (wu64 (((BitVec.ofInt 64 p0 &&& BitVec.ofInt 64 6148914691236517205).toNat : Int))))) &&& BitVec.ofInt 64 3689348814741910323).toNat : Int))))))) &&& BitVec.ofInt 64 1085102592571150095).toNat : Int))) + (Int.fdiv (wu64 (((BitVec.ofInt 64 (wu64 ((Int.fdiv (wu64 ((wu64 (((BitVec.ofInt 64 (Int.fdiv (wu64 ((wu64 (((BitVec.ofInt 64 (Int.fdiv p0 (2 ^ (min (1 : Int).toNat 64))) &&& BitVec.ofInt 64 6148914691236517205).toNat : Int))) + (wu64 (((BitVec.ofInt 64 p0 &&& BitVec.ofInt 64 6148914691236517205).toNat : Int))))) (2 ^ (min (2 : Int).toNat 64))) &&& BitVec.ofInt 64 3689348814741910323).toNat : Int))) + (wu64 (((BitVec.ofInt 64 (wu64 ((wu64 (((BitVec.ofInt 64 (Int.fdiv p0 (2 ^ (min (1 : Int).toNat 64))) &&& BitVec.ofInt 64 6148914691236517205).toNat : Int))) + (wu64 (((BitVec.ofInt 64 p0 &&& BitVec.ofInt 64 6148914691236517205).toNat : Int))))) &&& BitVec.ofInt 64 3689348814741910323).toNat : Int))))) (2 ^ (min (4 : Int).toNat 64))) + (wu64 ((wu64 (((BitVec.ofInt 64 (Int.fdiv (wu64 ((wu64 (((BitVec.ofInt 64 (Int.fdiv p0 (2 ^ (min (1 : Int).toNat 64))) &&& BitVec.ofInt 64 6148914691236517205).toNat : Int))) + (wu64 (((BitVec.ofInt 64 p0 &&& BitVec.ofInt 64 6148914691236517205).toNat : Int))))) (2 ^ (min (2 : Int).toNat 64))) &&& BitVec.ofInt 64 3689348814741910323).toNat : Int))) + (wu64 (((BitVec.ofInt 64 (wu64 ((wu64 (((BitVec.ofInt 64 (Int.fdiv p0 (2 ^ (min (1 : Int).toNat 64))) &&& BitVec.ofInt 64 6148914691236517205).toNat : Int))) + (wu64 (((BitVec.ofInt 64 p0 &&& BitVec.ofInt 64 6148914691236517205).toNat : Int))))) &&& BitVec.ofInt 64 3689348814741910323).toNat : Int))))))) &&& BitVec.ofInt 64 1085102592571150095).toNat : Int))) (2 ^ (min (8 : Int).toNat 64))))) + (Int.fdiv (wu64 ((wu64 (((BitVec.ofInt 64 (wu64 ((Int.fdiv (wu64 ((wu64 (((BitVec.ofInt 64 (Int.fdiv (wu64 ((wu64 (((BitVec.ofInt 64 (Int.fdiv p0 (2 ^ (min (1 : Int).toNat 64))) &&& BitVec.ofInt 64 6148914691236517205).toNat : Int))) + (wu64 (((BitVec.ofInt 64 p0 &&& BitVec.ofInt 64 6148914691236517205).toNat : Int))))) (2 ^ (min (2 : Int).toNat 64))) &&& BitVec.ofInt 64 3689348814741910323).toNat : Int))) + (wu64 (((BitVec.ofInt 64 (wu64 ((wu64 (((BitVec.ofInt 64 (Int.fdiv p0 (2 ^ (min (1 : Int).toNat 64))) &&& BitVec.ofInt 64 6148914691236517205).toNat : Int))) + (wu64 (((BitVec.ofInt 64 p0 &&& BitVec.ofInt 64 6148914691236517205).toNat : Int))))) &&& BitVec.ofInt 64 3689348814741910323).toNat : Int))))) (2 ^ (min (4 : Int).toNat 64))) + (wu64 ((wu64 (((BitVec.ofInt 64 (Int.fdiv (wu64 ((wu64 (((BitVec.ofInt 64 (Int.fdiv p0 (2 ^ (min (1 : Int).toNat 64))) &&& BitVec.ofInt 64 6148914691236517205).toNat : Int))) + (wu64 (((BitVec.ofInt 64 p0 &&& BitVec.ofInt 64 6148914691236517205).toNat : Int))))) (2 ^ (min (2 : Int).toNat 64))) &&& BitVec.ofInt 64 3689348814741910323).toNat : Int))) + (wu64 (((BitVec.ofInt 64 (wu64 ((wu64 (((BitVec.ofInt 64 (Int.fdiv p0 (2 ^ (min (1 : Int).toNat 64))) &&& BitVec.ofInt 64 6148914691236517205).toNat : Int))) + (wu64 (((BitVec.ofInt 64 p0 &&& BitVec.ofInt 64 6148914691236517205).toNat : Int))))) &&& BitVec.ofInt 64 3689348814741910323).toNat : Int))))))) &&& BitVec.ofInt 64 1085102592571150095).toNat : Int))) + (Int.fdiv (wu64 (((BitVec.ofInt 64 (wu64 ((Int.fdiv (wu64 ((wu64 (((BitVec.ofInt 64 (Int.fdiv (wu64 ((wu64 (((BitVec.ofInt 64 (Int.fdiv p0 (2 ^ (min (1 : Int).toNat 64))) &&& BitVec.ofInt 64 6148914691236517205).toNat : Int))) + (wu64 (((BitVec.ofInt 64 p0 &&& BitVec.ofInt 64 6148914691236517205).toNat : Int))))) (2 ^ (min (2 : Int).toNat 64))) &&& BitVec.ofInt 64 3689348814741910323).toNat : Int))) + (wu64 (((BitVec.ofInt 64 (wu64 ((wu64 (((BitVec.ofInt 64 (Int.fdiv p0 (2 ^ (min (1 : Int).toNat 64))) &&& BitVec.ofInt 64 6148914691236517205).toNat : Int))) + (wu64 (((BitVec.ofInt 64 p0 &&& BitVec.ofInt 64 6148914691236517205).toNat : Int))))) &&& BitVec.ofInt 64 3689348814741910323).toNat : Int))))) (2 ^ (min (4 : Int).toNat 64))) + (wu64 ((wu64 (((BitVec.ofInt 64 (Int.fdiv (wu64 ((wu64 (((BitVec.ofInt 64 (Int.fdiv p0 (2 ^ (min (1 : Int).toNat 64))) &&& BitVec.ofInt 64 6148914691236517205).toNat : Int))) + (wu64 (((BitVec.ofInt 64 p0 &&& BitVec.ofInt 64 6148914691236517205).toNat : Int))))) (2 ^ (min (2 : Int).toNat 64))) &&& BitVec.ofInt 64 3689348814741910323).toNat : Int))) + (wu64 (((BitVec.ofInt 64 (wu64 ((wu64 (((BitVec.ofInt 64 (Int.fdiv p0 (2 ^ (min (1 : Int).toNat 64))) &&& BitVec.ofInt 64 6148914691236517205).toNat : Int))) + (wu64 (((BitVec.ofInt 64 p0 &&& BitVec.ofInt 64 6148914691236517205).toNat : Int))))) &&& BitVec.ofInt 64 3689348814741910323).toNat : Int))))))) &&& BitVec.ofInt 64 1085102592571150095).toNat : Int))) (2 ^ (min (8 : Int).toNat 64))))) (2 ^ (min (16 : Int).toNat 64)))))), (2, .int .i64 0)] rfl ⟨rfl, rfl, trivial⟩ ?_
  refine WO_end ?_
  refine WK_seq ?_
  refine WK_region ?_
  refine WO_pure tbok 2 [(0, .int .u64 (wu64 ((wu64 ((wu64 (((BitVec.ofInt 64 (wu64 ((Int.fdiv (wu64 ((wu64 (((BitVec.ofInt 64 (Int.fdiv (wu64 ((wu64 (((BitVec.ofInt 64 (Int.fdiv p0 (2 ^ (min (1 : Int).toNat 64))) &&& BitVec.ofInt 64 6148914691236517205).toNat : Int))) + (wu64 (((BitVec.ofInt 64 p0 &&& BitVec.ofInt 64 6148914691236517205).toNat : Int))))) (2 ^ (min (2 : Int).toNat 64))) &&& BitVec.ofInt 64 3689348814741910323).toNat : Int))) + (wu64 (((BitVec.ofInt 64 (wu64 ((wu64 (((BitVec.ofInt 64 (Int.fdiv p0 (2 ^ (min (1 : Int).toNat 64))) &&& BitVec.ofInt 64 6148914691236517205).toNat : Int))) + (wu64 (((BitVec.ofInt 64 p0 &&& BitVec.ofInt 64 6148914691236517205).toNat : Int))))) &&& BitVec.ofInt 64 3689348814741910323).toNat : Int))))) (2 ^ (min (4 : Int).toNat 64))) + (wu64 ((wu64 (((BitVec.ofInt 64 (Int.fdiv (wu64 ((wu64 (((BitVec.ofInt 64 (Int.fdiv p0 (2 ^ (min (1 : Int).toNat 64))) &&& BitVec.ofInt 64 6148914691236517205).toNat : Int))) + (wu64 (((BitVec.ofInt 64 p0 &&& BitVec.ofInt 64 6148914691236517205).toNat : Int))))) (2 ^ (min (2 : Int).toNat 64))) &&& BitVec.ofInt 64 3689348814741910323).toNat : Int))) + (wu64 (((BitVec.ofInt 64 (wu64 ((wu64 (((BitVec.ofInt 64 (Int.fdiv p0 (2 ^ (min (1 : Int).toNat 64))) &&& BitVec.ofInt 64 6148914691236517205).toNat : Int))) + (wu64 (((BitVec.ofInt 64 p0 &&& BitVec.ofInt 64 6148914691236517205).toNat : Int))))) &&& BitVec.ofInt 64 3689348814741910323).toNat : Int))))))) &&& BitVec.ofInt 64 1085102592571150095).toNat : Int))) + (Int.fdiv (wu64 (((BitVec.ofInt 64 (wu64 ((Int.fdiv (wu64 ((wu64 (((BitVec.ofInt 64 (Int.fdiv (wu64 ((wu64 (((BitVec.ofInt 64 (Int.fdiv p0 (2 ^ (min (1 : Int).toNat 64))) &&& BitVec.ofInt 64 6148914691236517205).toNat : Int))) + (wu64 (((BitVec.ofInt 64 p0 &&& BitVec.ofInt 64 6148914691236517205).toNat : Int))))) (2 ^ (min (2 : Int).toNat 64))) &&& BitVec.ofInt 64 3689348814741910323).toNat : Int))) + (wu64 (((BitVec.ofInt 64 (wu64 ((wu64 (((BitVec.ofInt 64 (Int.fdiv p0 (2 ^ (min (1 : Int).toNat 64))) &&& BitVec.ofInt 64 6148914691236517205).toNat : Int))) + (wu64 (((BitVec.ofInt 64 p0 &&& BitVec.ofInt 64 6148914691236517205).toNat : Int))))) &&& BitVec.ofInt 64 3689348814741910323).toNat : Int))))) (2 ^ (min (4 : Int).toNat 64))) + (wu64 ((wu64 (((BitVec.ofInt 64 (Int.fdiv (wu64 ((wu64 (((BitVec.ofInt 64 (Int.fdiv p0 (2 ^ (min (1 : Int).toNat 64))) &&& BitVec.ofInt 64 6148914691236517205).toNat : Int))) + (wu64 (((BitVec.ofInt 64 p0 &&& BitVec.ofInt 64 6148914691236517205).toNat : Int))))) (2 ^ (min (2 : Int).toNat 64))) &&& BitVec.ofInt 64 3689348814741910323).toNat : Int))) + (wu64 (((BitVec.ofInt 64 (wu64 ((wu64 (((BitVec.ofInt 64 (Int.fdiv p0 (2 ^ (min (1 : Int).toNat 64))) &&& BitVec.ofInt 64 6148914691236517205).toNat : Int))) + (wu64 (((BitVec.ofInt 64 p0 &&& BitVec.ofInt 64 6148914691236517205).toNat : Int))))) &&& BitVec.ofInt 64 3689348814741910323).toNat : Int))))))) &&& BitVec.ofInt 64 1085102592571150095).toNat : Int))) (2 ^ (min (8 : Int).toNat 64))))) + (Int.fdiv (wu64 ((wu64 (((BitVec.ofInt 64 (wu64 ((Int.fdiv (wu64 ((wu64 (((BitVec.ofInt 64 (Int.fdiv (wu64 ((wu64 (((BitVec.ofInt 64 (Int.fdiv p0 (2 ^ (min (1 : Int).toNat 64))) &&& BitVec.ofInt 64 6148914691236517205).toNat : Int))) + (wu64 (((BitVec.ofInt 64 p0 &&& BitVec.ofInt 64 6148914691236517205).toNat : Int))))) (2 ^ (min (2 : Int).toNat 64))) &&& BitVec.ofInt 64 3689348814741910323).toNat : Int))) + (wu64 (((BitVec.ofInt 64 (wu64 ((wu64 (((BitVec.ofInt 64 (Int.fdiv p0 (2 ^ (min (1 : Int).toNat 64))) &&& BitVec.ofInt 64 6148914691236517205).toNat : Int))) + (wu64 (((BitVec.ofInt 64 p0 &&& BitVec.ofInt 64 6148914691236517205).toNat : Int))))) &&& BitVec.ofInt 64 3689348814741910323).toNat : Int))))) (2 ^ (min (4 : Int).toNat 64))) + (wu64 ((wu64 (((BitVec.ofInt 64 (Int.fdiv (wu64 ((wu64 (((BitVec.ofInt 64 (Int.fdiv p0 (2 ^ (min (1 : Int).toNat 64))) &&& BitVec.ofInt 64 6148914691236517205).toNat : Int))) + (wu64 (((BitVec.ofInt 64 p0 &&& BitVec.ofInt 64 6148914691236517205).toNat : Int))))) (2 ^ (min (2 : Int).toNat 64))) &&& BitVec.ofInt 64 3689348814741910323).toNat : Int))) + (wu64 (((BitVec.ofInt 64 (wu64 ((wu64 (((BitVec.ofInt 64 (Int.fdiv p0 (2 ^ (min (1 : Int).toNat 64))) &&& BitVec.ofInt 64 6148914691236517205).toNat : Int))) + (wu64 (((BitVec.ofInt 64 p0 &&& BitVec.ofInt 64 6148914691236517205).toNat : Int))))) &&& BitVec.ofInt 64 3689348814741910323).toNat : Int))))))) &&& BitVec.ofInt 64 1085102592571150095).toNat : Int))) + (Int.fdiv (wu64 (((BitVec.ofInt 64 (wu64 ((Int.fdiv (wu64 ((wu64 (((BitVec.ofInt 64 (Int.fdiv (wu64 ((wu64 (((BitVec.ofInt 64 (Int.fdiv p0 (2 ^ (min (1 : Int).toNat 64))) &&& BitVec.ofInt 64 6148914691236517205).toNat : Int))) + (wu64 (((BitVec.ofInt 64 p0 &&& BitVec.ofInt 64 6148914691236517205).toNat : Int))))) (2 ^ (min (2 : Int).toNat 64))) &&& BitVec.ofInt 64 3689348814741910323).toNat : Int))) + (wu64 (((BitVec.ofInt 64 (wu64 ((wu64 (((BitVec.ofInt 64 (Int.fdiv p0 (2 ^ (min (1 : Int).toNat 64))) &&& BitVec.ofInt 64 6148914691236517205).toNat : Int))) + (wu64 (((BitVec.ofInt 64 p0 &&& BitVec.ofInt 64 6148914691236517205).toNat : Int))))) &&& BitVec.ofInt 64 3689348814741910323).toNat : Int))))) (2 ^ (min (4 : Int).toNat 64))) + (wu64 ((wu64 (((BitVec.ofInt 64 (Int.fdiv (wu64 ((wu64 (((BitVec.ofInt 64 (Int.fdiv p0 (2 ^ (min (1 : Int).toNat 64))) &&& BitVec.ofInt 64 6148914691236517205).toNat : Int))) + (wu64 (((BitVec.ofInt 64 p0 &&& BitVec.ofInt 64 6148914691236517205).toNat : Int))))) (2 ^ (min (2 : Int).toNat 64))) &&& BitVec.ofInt 64 3689348814741910323).toNat : Int))) + (wu64 (((BitVec.ofInt 64 (wu64 ((wu64 (((BitVec.ofInt 64 (Int.fdiv p0 (2 ^ (min (1 : Int).toNat 64))) &&& BitVec.ofInt 64 6148914691236517205).toNat : Int))) + (wu64 (((BitVec.ofInt 64 p0 &&& BitVec.ofInt 64 6148914691236517205).toNat : Int))))) &&& BitVec.ofInt 64 3689348814741910323).toNat : Int))))))) &&& BitVec.ofInt 64 1085102592571150095).toNat : Int))) (2 ^ (min (8 : Int).toNat 64))))) (2 ^ (min (16 : Int).toNat 64)))))), (2, .int .i64 0), (28, .int .u64 (wu64 ((wu64 ((wu64 (((BitVec.ofInt 64 (wu64 ((Int.fdiv (wu64 ((wu64 (((BitVec.ofInt 64 (Int.fdiv (wu64 ((wu64 (((BitVec.ofInt 64 (Int.fdiv p0 (2 ^ (min (1 : Int).toNat 64))) &&& BitVec.ofInt 64 6148914691236517205).toNat : Int))) + (wu64 (((BitVec.ofInt 64 p0 &&& BitVec.ofInt 64 6148914691236517205).toNat : Int))))) (2 ^ (min (2 : Int).toNat 64))) &&& BitVec.ofInt 64 3689348814741910323).toNat : Int))) + (wu64 (((BitVec.ofInt 64 (wu64 ((wu64 (((BitVec.ofInt 64 (Int.fdiv p0 (2 ^ (min (1 : Int).toNat 64))) &&& BitVec.ofInt 64 6148914691236517205).toNat : Int))) + (wu64 (((BitVec.ofInt 64 p0 &&& BitVec.ofInt 64 6148914691236517205).toNat : Int))))) &&& BitVec.ofInt 64 3689348814741910323).toNat : Int))))) (2 ^ (min (4 : Int).toNat 64))) + (wu64 ((wu64 (((BitVec.ofInt 64 (Int.fdiv (wu64 ((wu64 (((BitVec.ofInt 64 (Int.fdiv p0 (2 ^ (min (1 : Int).toNat 64))) &&& BitVec.ofInt 64 6148914691236517205).toNat : Int))) + (wu64 (((BitVec.ofInt 64 p0 &&& BitVec.ofInt 64 6148914691236517205).toNat : Int))))) (2 ^ (min (2 : Int).toNat 64))) &&& BitVec.ofInt 64 3689348814741910323).toNat : Int))) + (wu64 (((BitVec.ofInt 64 (wu64 ((wu64 (((BitVec.ofInt 64 (Int.fdiv p0 (2 ^ (min (1 : Int).toNat 64))) &&& BitVec.ofInt 64 6148914691236517205).toNat : Int))) + (wu64 (((BitVec.ofInt 64 p0 &&& BitVec.ofInt 64 6148914691236517205).toNat : Int))))) &&& BitVec.ofInt 64 3689348814741910323).toNat : Int))))))) &&& BitVec.ofInt 64 1085102592571150095).toNat : Int))) + (Int.fdiv (wu64 (((BitVec.ofInt 64 (wu64 ((Int.fdiv (wu64 ((wu64 (((BitVec.ofInt 64 (Int.fdiv (wu64 ((wu64 (((BitVec.ofInt 64 (Int.fdiv p0 (2 ^ (min (1 : Int).toNat 64))) &&& BitVec.ofInt 64 6148914691236517205).toNat : Int))) + (wu64 (((BitVec.ofInt 64 p0 &&& BitVec.ofInt 64 6148914691236517205).toNat : Int))))) (2 ^ (min (2 : Int).toNat 64))) &&& BitVec.ofInt 64 3689348814741910323).toNat : Int))) + (wu64 (((BitVec.ofInt 64 (wu64 ((wu64 (((BitVec.ofInt 64 (Int.fdiv p0 (2 ^ (min (1 : Int).toNat 64))) &&& BitVec.ofInt 64 6148914691236517205).toNat : Int))) + (wu64 (((BitVec.ofInt 64 p0 &&& BitVec.ofInt 64 6148914691236517205).toNat : Int))))) &&& BitVec.ofInt 64 3689348814741910323).toNat : Int))))) (2 ^ (min (4 : Int).toNat 64))) + (wu64 ((wu64 (((BitVec.ofInt 64 (Int.fdiv (wu64 ((wu64 (((BitVec.ofInt 64 (Int.fdiv p0 (2 ^ (min (1 : Int).toNat 64))) &&& BitVec.ofInt 64 6148914691236517205).toNat : Int))) + (wu64 (((BitVec.ofInt 64 p0 &&& BitVec.ofInt 64 6148914691236517205).toNat : Int))))) (2 ^ (min (2 : Int).toNat 64))) &&& BitVec.ofInt 64 3689348814741910323).toNat : Int))) + (wu64 (((BitVec.ofInt 64 (wu64 ((wu64 (((BitVec.ofInt 64 (Int.fdiv p0 (2 ^ (min (1 : Int).toNat 64))) &&& BitVec.ofInt 64 6148914691236517205).toNat : Int))) + (wu64 (((BitVec.ofInt 64 p0 &&& BitVec.ofInt 64 6148914691236517205).toNat : Int))))) &&& BitVec.ofInt 64 3689348814741910323).toNat : Int))))))) &&& BitVec.ofInt 64 1085102592571150095).toNat : Int))) (2 ^ (min (8 : Int).toNat 64))))) + (Int.fdiv (wu64 ((wu64 (((BitVec.ofInt 64 (wu64 ((Int.fdiv (wu64 ((wu64 (((BitVec.ofInt 64 (Int.fdiv (wu64 ((wu64 (((BitVec.ofInt 64 (Int.fdiv p0 (2 ^ (min (1 : Int).toNat 64))) &&& BitVec.ofInt 64 6148914691236517205).toNat : Int))) + (wu64 (((BitVec.ofInt 64 p0 &&& BitVec.ofInt 64 6148914691236517205).toNat : Int))))) (2 ^ (min (2 : Int).toNat 64))) &&& BitVec.ofInt 64 3689348814741910323).toNat : Int))) + (wu64 (((BitVec.ofInt 64 (wu64 ((wu64 (((BitVec.ofInt 64 (Int.fdiv p0 (2 ^ (min (1 : Int).toNat 64))) &&& BitVec.ofInt 64 6148914691236517205).toNat : Int))) + (wu64 (((BitVec.ofInt 64 p0 &&& BitVec.ofInt 64 6148914691236517205).toNat : Int))))) &&& BitVec.ofInt 64 3689348814741910323).toNat : Int))))) (2 ^ (min (4 : Int).toNat 64))) + (wu64 ((wu64 (((BitVec.ofInt 64 (Int.fdiv (wu64 ((wu64 (((BitVec.ofInt 64 (Int.fdiv p0 (2 ^ (min (1 : Int).toNat 64))) &&& BitVec.ofInt 64 6148914691236517205).toNat : Int))) + (wu64 (((BitVec.ofInt 64 p0 &&& BitVec.ofInt 64 6148914691236517205).toNat : Int))))) (2 ^ (min (2 : Int).toNat 64))) &&& BitVec.ofInt 64 3689348814741910323).toNat : Int))) + (wu64 (((BitVec.ofInt 64 (wu64 ((wu64 (((BitVec.ofInt 64 (Int.fdiv p0 (2 ^ (min (1 : Int).toNat 64))) &&& BitVec.ofInt 64 6148914691236517205).toNat : Int))) + (wu64 (((BitVec.ofInt 64 p0 &&& BitVec.ofInt 64 6148914691236517205).toNat : Int))))) &&& BitVec.ofInt 64 3689348814741910323).toNat : Int))))))) &&& BitVec.ofInt 64 1085102592571150095).toNat : Int))) + (Int.fdiv (wu64 (((BitVec.ofInt 64 (wu64 ((Int.fdiv (wu64 ((wu64 (((BitVec.ofInt 64 (Int.fdiv (wu64 ((wu64 (((BitVec.ofInt 64 (Int.fdiv p0 (2 ^ (min (1 : Int).toNat 64))) &&& BitVec.ofInt 64 6148914691236517205).toNat : Int))) + (wu64 (((BitVec.ofInt 64 p0 &&& BitVec.ofInt 64 6148914691236517205).toNat : Int))))) (2 ^ (min (2 : Int).toNat 64))) &&& BitVec.ofInt 64 3689348814741910323).toNat : Int))) + (wu64 (((BitVec.ofInt 64 (wu64 ((wu64 (((BitVec.ofInt 64 (Int.fdiv p0 (2 ^ (min (1 : Int).toNat 64))) &&& BitVec.ofInt 64 6148914691236517205).toNat : Int))) + (wu64 (((BitVec.ofInt 64 p0 &&& BitVec.ofInt 64 6148914691236517205).toNat : Int))))) &&& BitVec.ofInt 64 3689348814741910323).toNat : Int))))) (2 ^ (min (4 : Int).toNat 64))) + (wu64 ((wu64 (((BitVec.ofInt 64 (Int.fdiv (wu64 ((wu64 (((BitVec.ofInt 64 (Int.fdiv p0 (2 ^ (min (1 : Int).toNat 64))) &&& BitVec.ofInt 64 6148914691236517205).toNat : Int))) + (wu64 (((BitVec.ofInt 64 p0 &&& BitVec.ofInt 64 6148914691236517205).toNat : Int))))) (2 ^ (min (2 : Int).toNat 64))) &&& BitVec.ofInt 64 3689348814741910323).toNat : Int))) + (wu64 (((BitVec.ofInt 64 (wu64 ((wu64 (((BitVec.ofInt 64 (Int.fdiv p0 (2 ^ (min (1 : Int).toNat 64))) &&& BitVec.ofInt 64 6148914691236517205).toNat : Int))) + (wu64 (((BitVec.ofInt 64 p0 &&& BitVec.ofInt 64 6148914691236517205).toNat : Int))))) &&& BitVec.ofInt 64 3689348814741910323).toNat : Int))))))) &&& BitVec.ofInt 64 1085102592571150095).toNat : Int))) (2 ^ (min (8 : Int).toNat 64))))) (2 ^ (min (16 : Int).toNat 64)))))), (29, .int .u64 (wu64 ((wu64 ((wu64 (((BitVec.ofInt 64 (wu64 ((Int.fdiv (wu64 ((wu64 (((BitVec.ofInt 64 (Int.fdiv (wu64 ((wu64 (((BitVec.ofInt 64 (Int.fdiv p0 (2 ^ (min (1 : Int).toNat 64))) &&& BitVec.ofInt 64 6148914691236517205).toNat : Int))) + (wu64 (((BitVec.ofInt 64 p0 &&& BitVec.ofInt 64 6148914691236517205).toNat : Int))))) (2 ^ (min (2 : Int).toNat 64))) &&& BitVec.ofInt 64 3689348814741910323).toNat : Int))) + (wu64 (((BitVec.ofInt 64 (wu64 ((wu64 (((BitVec.ofInt 64 (Int.fdiv p0 (2 ^ (min (1 : Int).toNat 64))) &&& BitVec.ofInt 64 6148914691236517205).toNat : Int))) + (wu64 (((BitVec.ofInt 64 p0 &&& BitVec.ofInt 64 6148914691236517205).toNat : Int))))) &&& BitVec.ofInt 64 3689348814741910323).toNat : Int))))) (2 ^ (min (4 : Int).toNat 64))) + (wu64 ((wu64 (((BitVec.ofInt 64 (Int.fdiv (wu64 ((wu64 (((BitVec.ofInt 64 (Int.fdiv p0 (2 ^ (min (1 : Int).toNat 64))) &&& BitVec.ofInt 64 6148914691236517205).toNat : Int))) + (wu64 (((BitVec.ofInt 64 p0 &&& BitVec.ofInt 64 6148914691236517205).toNat : Int))))) (2 ^ (min (2 : Int).toNat 64))) &&& BitVec.ofInt 64 3689348814741910323).toNat : Int))) + (wu64 (((BitVec.ofInt 64 (wu64 ((wu64 (((BitVec.ofInt 64 (Int.fdiv p0 (2 ^ (min (1 : Int).toNat 64))) &&& BitVec.ofInt 64 6148914691236517205).toNat : Int))) + (wu64 (((BitVec.ofInt 64 p0 &&& BitVec.ofInt 64 6148914691236517205).toNat : Int))))) &&& BitVec.ofInt 64 3689348814741910323).toNat : Int))))))) &&& BitVec.ofInt 64 1085102592571150095).toNat : Int))) + (Int.fdiv (wu64 (((BitVec.ofInt 64 (wu64 ((Int.fdiv (wu64 ((wu64 (((BitVec.ofInt 64 (Int.fdiv (wu64 ((wu64 (((BitVec.ofInt 64 (Int.fdiv p0 (2 ^ (min (1 : Int).toNat 64))) &&& BitVec.ofInt 64 6148914691236517205).toNat : Int))) + (wu64 (((BitVec.ofInt 64 p0 &&& BitVec.ofInt 64 6148914691236517205).toNat : Int))))) (2 ^ (min (2 : Int).toNat 64))) &&& BitVec.ofInt 64 3689348814741910323).toNat : Int))) + (wu64 (((BitVec.ofInt 64 (wu64 ((wu64 (((BitVec.ofInt 64 (Int.fdiv p0 (2 ^ (min (1 : Int).toNat 64))) &&& BitVec.ofInt 64 6148914691236517205).toNat : Int))) + (wu64 (((BitVec.ofInt 64 p0 &&& BitVec.ofInt 64 6148914691236517205).toNat : Int))))) &&& BitVec.ofInt 64 3689348814741910323).toNat : Int))))) (2 ^ (min (4 : Int).toNat 64))) + (wu64 ((wu64 (((BitVec.ofInt 64 (Int.fdiv (wu64 ((wu64 (((BitVec.ofInt 64 (Int.fdiv p0 (2 ^ (min (1 : Int).toNat 64))) &&& BitVec.ofInt 64 6148914691236517205).toNat : Int))) + (wu64 (((BitVec.ofInt 64 p0 &&& BitVec.ofInt 64 6148914691236517205).toNat : Int))))) (2 ^ (min (2 : Int).toNat 64))) &&& BitVec.ofInt 64 3689348814741910323).toNat : Int))) + (wu64 (((BitVec.ofInt 64 (wu64 ((wu64 (((BitVec.ofInt 64 (Int.fdiv p0 (2 ^ (min (1 : Int).toNat 64))) &&& BitVec.ofInt 64 6148914691236517205).toNat : Int))) + (wu64 (((BitVec.ofInt 64 p0 &&& BitVec.ofInt 64 6148914691236517205).toNat : Int))))) &&& BitVec.ofInt 64 3689348814741910323).toNat : Int))))))) &&& BitVec.ofInt 64 1085102592571150095).toNat : Int))) (2 ^ (min (8 : Int).toNat 64))))) + (Int.fdiv (wu64 ((wu64 (((BitVec.ofInt 64 (wu64 ((Int.fdiv (wu64 ((wu64 (((BitVec.ofInt 64 (Int.fdiv (wu64 ((wu64 (((BitVec.ofInt 64 (Int.fdiv p0 (2 ^ (min (1 : Int).toNat 64))) &&& BitVec.ofInt 64 6148914691236517205).toNat : Int))) + (wu64 (((BitVec.ofInt 64 p0 &&& BitVec.ofInt 64 6148914691236517205).toNat : Int))))) (2 ^ (min (2 : Int).toNat 64))) &&& BitVec.ofInt 64 3689348814741910323).toNat : Int))) + (wu64 (((BitVec.ofInt 64 (wu64 ((wu64 (((BitVec.ofInt 64 (Int.fdiv p0 (2 ^ (min (1 : Int).toNat 64))) &&& BitVec.ofInt 64 6148914691236517205).toNat : Int))) + (wu64 (((BitVec.ofInt 64 p0 &&& BitVec.ofInt 64 6148914691236517205).toNat : Int))))) &&& BitVec.ofInt 64 3689348814741910323).toNat : Int))))) (2 ^ (min (4 : Int).toNat 64))) + (wu64 ((wu64 (((BitVec.ofInt 64 (Int.fdiv (wu64 ((wu64 (((BitVec.ofInt 64 (Int.fdiv p0 (2 ^ (min (1 : Int).toNat 64))) &&& BitVec.ofInt 64 6148914691236517205).toNat : Int))) + (wu64 (((BitVec.ofInt 64 p0 &&& BitVec.ofInt 64 6148914691236517205).toNat : Int))))) (2 ^ (min (2 : Int).toNat 64))) &&& BitVec.ofInt 64 3689348814741910323).toNat : Int))) + (wu64 (((BitVec.ofInt 64 (wu64 ((wu64 (((BitVec.ofInt 64 (Int.fdiv p0 (2 ^ (min (1 : Int).toNat 64))) &&& BitVec.ofInt 64 6148914691236517205).toNat : Int))) + (wu64 (((BitVec.ofInt 64 p0 &&& BitVec.ofInt 64 6148914691236517205).toNat : Int))))) &&& BitVec.ofInt 64 3689348814741910323).toNat : Int))))))) &&& BitVec.ofInt 64 1085102592571150095).toNat : Int))) + (Int.fdiv (wu64 (((BitVec.ofInt 64 (wu64 ((Int.fdiv (wu64 ((wu64 (((BitVec.ofInt 64 (Int.fdiv (wu64 ((wu64 (((BitVec.ofInt 64 (Int.fdiv p0 (2 ^ (min (1 : Int).toNat 64))) &&& BitVec.ofInt 64 6148914691236517205).toNat : Int))) + (wu64 (((BitVec.ofInt 64 p0 &&& BitVec.ofInt 64 6148914691236517205).toNat : Int))))) (2 ^ (min (2 : Int).toNat 64))) &&& BitVec.ofInt 64 3689348814741910323).toNat : Int))) + (wu64 (((BitVec.ofInt 64 (wu64 ((wu64 (((BitVec.ofInt 64 (Int.fdiv p0 (2 ^ (min (1 : Int).toNat 64))) &&& BitVec.ofInt 64 6148914691236517205).toNat : Int))) + (wu64 (((BitVec.ofInt 64 p0 &&& BitVec.ofInt 64 6148914691236517205).toNat : Int))))) &&& BitVec.ofInt 64 3689348814741910323).toNat : Int))))) (2 ^ (min (4 : Int).toNat 64))) + (wu64 ((wu64 (((BitVec.ofInt 64 (Int.fdiv (wu64 ((wu64 (((BitVec.ofInt 64 (Int.fdiv p0 (2 ^ (min (1 : Int).toNat 64))) &&& BitVec.ofInt 64 6148914691236517205).toNat : Int))) + (wu64 (((BitVec.ofInt 64 p0 &&& BitVec.ofInt 64 6148914691236517205).toNat : Int))))) (2 ^ (min (2 : Int).toNat 64))) &&& BitVec.ofInt 64 3689348814741910323).toNat : Int))) + (wu64 (((BitVec.ofInt 64 (wu64 ((wu64 (((BitVec.ofInt 64 (Int.fdiv p0 (2 ^ (min (1 : Int).toNat 64))) &&& BitVec.ofInt 64 6148914691236517205).toNat : Int))) + (wu64 (((BitVec.ofInt 64 p0 &&& BitVec.ofInt 64 6148914691236517205).toNat : Int))))) &&& BitVec.ofInt 64 3689348814741910323).toNat : Int))))))) &&& BitVec.ofInt 64 1085102592571150095).toNat : Int))) (2 ^ (min (8 : Int).toNat 64))))) (2 ^ (min (16 : Int).toNat 64))))))] rfl ⟨rfl, rfl, rfl, rfl, trivial⟩ ?_
  refine WO_shr rfl rfl rfl rfl rfl (by decide) ?_
  refine WO_pure tbok 2 [(0, .int .u64 (wu64 ((wu64 ((wu64 ((wu64 (((BitVec.ofInt 64 (wu64 ((Int.fdiv (wu64 ((wu64 (((BitVec.ofInt 64 (Int.fdiv (wu64 ((wu64 (((BitVec.ofInt 64 (Int.fdiv p0 (2 ^ (min (1 : Int).toNat 64))) &&& BitVec.ofInt 64 6148914691236517205).toNat : Int))) + (wu64 (((BitVec.ofInt 64 p0 &&& BitVec.ofInt 64 6148914691236517205).toNat : Int))))) (2 ^ (min (2 : Int).toNat 64))) &&& BitVec.ofInt 64 3689348814741910323).toNat : Int))) + (wu64 (((BitVec.ofInt 64 (wu64 ((wu64 (((BitVec.ofInt 64 (Int.fdiv p0 (2 ^ (min (1 : Int).toNat 64))) &&& BitVec.ofInt 64 6148914691236517205).toNat : Int))) + (wu64 (((BitVec.ofInt 64 p0 &&& BitVec.ofInt 64 6148914691236517205).toNat : Int))))) &&& BitVec.ofInt 64 3689348814741910323).toNat : Int))))) (2 ^ (min (4 : Int).toNat 64))) + (wu64 ((wu64 (((BitVec.ofInt 64 (Int.fdiv (wu64 ((wu64 (((BitVec.ofInt 64 (Int.fdiv p0 (2 ^ (min (1 : Int).toNat 64))) &&& BitVec.ofInt 64 6148914691236517205).toNat : Int))) + (wu64 (((BitVec.ofInt 64 p0 &&& BitVec.ofInt 64 6148914691236517205).toNat : Int))))) (2 ^ (min (2 : Int).toNat 64))) &&& BitVec.ofInt 64 3689348814741910323).toNat : Int))) + (wu64 (((BitVec.ofInt 64 (wu64 ((wu64 (((BitVec.ofInt 64 (Int.fdiv p0 (2 ^ (min (1 : Int).toNat 64))) &&& BitVec.ofInt 64 6148914691236517205).toNat : Int))) + (wu64 (((BitVec.ofInt 64 p0 &&& BitVec.ofInt 64 6148914691236517205).toNat : Int))))) &&& BitVec.ofInt 64 3689348814741910323).toNat : Int))))))) &&& BitVec.ofInt 64 1085102592571150095).toNat : Int))) + (Int.fdiv (wu64 (((BitVec.ofInt 64 (wu64 ((Int.fdiv (wu64 ((wu64 (((BitVec.ofInt 64 (Int.fdiv (wu64 ((wu64 (((BitVec.ofInt 64 (Int.fdiv p0 (2 ^ (min (1 : Int).toNat 64))) &&& BitVec.ofInt 64 6148914691236517205).toNat : Int))) + (wu64 (((BitVec.ofInt 64 p0 &&& BitVec.ofInt 64 6148914691236517205).toNat : Int))))) (2 ^ (min (2 : Int).toNat 64))) &&& BitVec.ofInt 64 3689348814741910323).toNat : Int))) + (wu64 (((BitVec.ofInt 64 (wu64 ((wu64 (((BitVec.ofInt 64 (Int.fdiv p0 (2 ^ (min (1 : Int).toNat 64))) &&& BitVec.ofInt 64 6148914691236517205).toNat : Int))) + (wu64 (((BitVec.ofInt 64 p0 &&& BitVec.ofInt 64 6148914691236517205).toNat : Int))))) &&& BitVec.ofInt 64 3689348814741910323).toNat : Int))))) (2 ^ (min (4 : Int).toNat 64))) + (wu64 ((wu64 (((BitVec.ofInt 64 (Int.fdiv (wu64 ((wu64 (((BitVec.ofInt 64 (Int.fdiv p0 (2 ^ (min (1 : Int).toNat 64))) &&& BitVec.ofInt 64 6148914691236517205).toNat : Int))) + (wu64 (((BitVec.ofInt 64 p0 &&& BitVec.ofInt 64 6148914691236517205).toNat : Int))))) (2 ^ (min (2 : Int).toNat 64))) &&& BitVec.ofInt 64 3689348814741910323).toNat : Int))) + (wu64 (((BitVec.ofInt 64 (wu64 ((wu64 (((BitVec.ofInt 64 (Int.fdiv p0 (2 ^ (min (1 : Int).toNat 64))) &&& BitVec.ofInt 64 6148914691236517205).toNat : Int))) + (wu64 (((BitVec.ofInt 64 p0 &&& BitVec.ofInt 64 6148914691236517205).toNat : Int))))) &&& BitVec.ofInt 64 3689348814741910323).toNat : Int))))))) &&& BitVec.ofInt 64 1085102592571150095).toNat : Int))) (2 ^ (min (8 : Int).toNat 64))))) + (Int.fdiv (wu64 ((wu64 (((BitVec.ofInt 64 (wu64 ((Int.fdiv (wu64 ((wu64 (((BitVec.ofInt 64 (Int.fdiv (wu64 ((wu64 (((BitVec.ofInt 64 (Int.fdiv p0 (2 ^ (min (1 : Int).toNat 64))) &&& BitVec.ofInt 64 6148914691236517205).toNat : Int))) + (wu64 (((BitVec.ofInt 64 p0 &&& BitVec.ofInt 64 6148914691236517205).toNat : Int))))) (2 ^ (min (2 : Int).toNat 64))) &&& BitVec.ofInt 64 3689348814741910323).toNat : Int))) + (wu64 (((BitVec.ofInt 64 (wu64 ((wu64 (((BitVec.ofInt 64 (Int.fdiv p0 (2 ^ (min (1 : Int).toNat 64))) &&& BitVec.ofInt 64 6148914691236517205).toNat : Int))) + (wu64 (((BitVec.ofInt 64 p0 &&& BitVec.ofInt 64 6148914691236517205).toNat : Int))))) &&& BitVec.ofInt 64 3689348814741910323).toNat : Int))))) (2 ^ (min (4 : Int).toNat 64))) + (wu64 ((wu64 (((BitVec.ofInt 64 (Int.fdiv (wu64 ((wu64 (((BitVec.ofInt 64 (Int.fdiv p0 (2 ^ (min (1 : Int).toNat 64))) &&& BitVec.ofInt 64 6148914691236517205).toNat : Int))) + (wu64 (((BitVec.ofInt 64 p0 &&& BitVec.ofInt 64 6148914691236517205).toNat : Int))))) (2 ^ (min (2 : Int).toNat 64))) &&& BitVec.ofInt 64 3689348814741910323).toNat : Int))) + (wu64 (((BitVec.ofInt 64 (wu64 ((wu64 (((BitVec.ofInt 64 (Int.fdiv p0 (2 ^ (min (1 : Int).toNat 64))) &&& BitVec.ofInt 64 6148914691236517205).toNat : Int))) + (wu64 (((BitVec.ofInt 64 p0 &&& BitVec.ofInt 64 6148914691236517205).toNat : Int))))) &&& BitVec.ofInt 64 3689348814741910323).toNat : Int))))))) &&& BitVec.ofInt 64 1085102592571150095).toNat : Int))) + (Int.fdiv (wu64 (((BitVec.ofInt 64 (wu64 ((Int.fdiv (wu64 ((wu64 (((BitVec.ofInt 64 (Int.fdiv (wu64 ((wu64 (((BitVec.ofInt 64 (Int.fdiv p0 (2 ^ (min (1 : Int).toNat 64))) &&& BitVec.ofInt 64 6148914691236517205).toNat : Int))) + (wu64 (((BitVec.ofInt 64 p0 &&& BitVec.ofInt 64 6148914691236517205).toNat : Int))))) (2 ^ (min (2 : Int).toNat 64))) &&& BitVec.ofInt 64 3689348814741910323).toNat : Int))) + (wu64 (((BitVec.ofInt 64 (wu64 ((wu64 (((BitVec.ofInt 64 (Int.fdiv p0 (2 ^ (min (1 : Int).toNat 64))) &&& BitVec.ofInt 64 6148914691236517205).toNat : Int))) + (wu64 (((BitVec.ofInt 64 p0 &&& BitVec.ofInt 64 6148914691236517205).toNat : Int))))) &&& BitVec.ofInt 64 3689348814741910323).toNat : Int))))) (2 ^ (min (4 : Int).toNat 64))) + (wu64 ((wu64 (((BitVec.ofInt 64 (Int.fdiv (wu64 ((wu64 (((BitVec.ofInt 64 (Int.fdiv p0 (2 ^ (min (1 : Int).toNat 64))) &&& BitVec.ofInt 64 6148914691236517205).toNat : Int))) + (wu64 (((BitVec.ofInt 64 p0 &&& BitVec.ofInt 64 6148914691236517205).toNat : Int))))) (2 ^ (min (2 : Int).toNat 64))) &&& BitVec.ofInt 64 3689348814741910323).toNat : Int))) + (wu64 (((BitVec.ofInt 64 (wu64 ((wu64 (((BitVec.ofInt 64 (Int.fdiv p0 (2 ^ (min (1 : Int).toNat 64))) &&& BitVec.ofInt 64 6148914691236517205).toNat : Int))) + (wu64 (((BitVec.ofInt 64 p0 &&& BitVec.ofInt 64 6148914691236517205).toNat : Int))))) &&& BitVec.ofInt 64 3689348814741910323).toNat : Int))))))) &&& BitVec.ofInt 64 1085102592571150095).toNat : Int))) (2 ^ (min (8 : Int).toNat 64))))) (2 ^ (min (16 : Int).toNat 64))))) + (Int.fdiv (wu64 ((wu64 ((wu64 (((BitVec.ofInt 64 (wu64 ((Int.fdiv (wu64 ((wu64 (((BitVec.ofInt 64 (Int.fdiv (wu64 ((wu64 (((BitVec.ofInt 64 (Int.fdiv p0 (2 ^ (min (1 : Int).toNat 64))) &&& BitVec.ofInt 64 6148914691236517205).toNat : Int))) + (wu64 (((BitVec.ofInt 64 p0 &&& BitVec.ofInt 64 6148914691236517205).toNat : Int))))) (2 ^ (min (2 : Int).toNat 64))) &&& BitVec.ofInt 64 3689348814741910323).toNat : Int))) + (wu64 (((BitVec.ofInt 64 (wu64 ((wu64 (((BitVec.ofInt 64 (Int.fdiv p0 (2 ^ (min (1 : Int).toNat 64))) &&& BitVec.ofInt 64 6148914691236517205).toNat : Int))) + (wu64 (((BitVec.ofInt 64 p0 &&& BitVec.ofInt 64 6148914691236517205).toNat : Int))))) &&& BitVec.ofInt 64 3689348814741910323).toNat : Int))))) (2 ^ (min (4 : Int).toNat 64))) + (wu64 ((wu64 (((BitVec.ofInt 64 (Int.fdiv (wu64 ((wu64 (((BitVec.ofInt 64 (Int.fdiv p0 (2 ^ (min (1 : Int).toNat 64))) &&& BitVec.ofInt 64 6148914691236517205).toNat : Int))) + (wu64 (((BitVec.ofInt 64 p0 &&& BitVec.ofInt 64 6148914691236517205).toNat : Int))))) (2 ^ (min (2 : Int).toNat 64))) &&& BitVec.ofInt 64 3689348814741910323).toNat : Int))) + (wu64 (((BitVec.ofInt 64 (wu64 ((wu64 (((BitVec.ofInt 64 (Int.fdiv p0 (2 ^ (min (1 : Int).toNat 64))) &&& BitVec.ofInt 64 6148914691236517205).toNat : Int))) + (wu64 (((BitVec.ofInt 64 p0 &&& BitVec.ofInt 64 6148914691236517205).toNat : Int))))) &&& BitVec.ofInt 64 3689348814741910323).toNat : Int))))))) &&& BitVec.ofInt 64 1085102592571150095).toNat : Int))) + (Int.fdiv (wu64 (((BitVec.ofInt 64 (wu64 ((Int.fdiv (wu64 ((wu64 (((BitVec.ofInt 64 (Int.fdiv (wu64 ((wu64 (((BitVec.ofInt 64 (Int.fdiv p0 (2 ^ (min (1 : Int).toNat 64))) &&& BitVec.ofInt 64 6148914691236517205).toNat : Int))) + (wu64 (((BitVec.ofInt 64 p0 &&& BitVec.ofInt 64 6148914691236517205).toNat : Int))))) (2 ^ (min (2 : Int).toNat 64))) &&& BitVec.ofInt 64 3689348814741910323).toNat : Int))) + (wu64 (((BitVec.ofInt 64 (wu64 ((wu64 (((BitVec.ofInt 64 (Int.fdiv p0 (2 ^ (min (1 : Int).toNat 64))) &&& BitVec.ofInt 64 6148914691236517205).toNat : Int))) + (wu64 (((BitVec.ofInt 64 p0 &&& BitVec.ofInt 64 6148914691236517205).toNat : Int))))) &&& BitVec.ofInt 64 3689348814741910323).toNat : Int))))) (2 ^ (min (4 : Int).toNat 64))) + (wu64 ((wu64 (((BitVec.ofInt 64 (Int.fdiv (wu64 ((wu64 (((BitVec.ofInt 64 (Int.fdiv p0 (2 ^ (min (1 : Int).toNat 64))) &&& BitVec.ofInt 64 6148914691236517205).toNat : Int))) + (wu64 (((BitVec.ofInt 64 p0 &&& BitVec.ofInt 64 6148914691236517205).toNat : Int))))) (2 ^ (min (2 : Int).toNat 64))) &&& BitVec.ofInt 64 3689348814741910323).toNat : Int))) + (wu64 (((BitVec.ofInt 64 (wu64 ((wu64 (((BitVec.ofInt 64 (Int.fdiv p0 (2 ^ (min (1 : Int).toNat 64))) &&& BitVec.ofInt 64 6148914691236517205).toNat : Int))) + (wu64 (((BitVec.ofInt 64 p0 &&& BitVec.ofInt 64 6148914691236517205).toNat : Int))))) &&& BitVec.ofInt 64 3689348814741910323).toNat : Int))))))) &&& BitVec.ofInt 64 1085102592571150095).toNat : Int))) (2 ^ (min (8 : Int).toNat 64))))) + (Int.fdiv (wu64 ((wu64 (((BitVec.ofInt 64 (wu64 ((Int.fdiv (wu64 ((wu64 (((BitVec.ofInt 64 (Int.fdiv (wu64 ((wu64 (((BitVec.ofInt 64 (Int.fdiv p0 (2 ^ (min (1 : Int).toNat 64))) &&& BitVec.ofInt 64 6148914691236517205).toNat : Int))) + (wu64 (((BitVec.ofInt 64 p0 &&& BitVec.ofInt 64 6148914691236517205).toNat : Int))))) (2 ^ (min (2 : Int).toNat 64))) &&& BitVec.ofInt 64 3689348814741910323).toNat : Int))) + (wu64 (((BitVec.ofInt 64 (wu64 ((wu64 (((BitVec.ofInt 64 (Int.fdiv p0 (2 ^ (min (1 : Int).toNat 64))) &&& BitVec.ofInt 64 6148914691236517205).toNat : Int))) + (wu64 (((BitVec.ofInt 64 p0 &&& BitVec.ofInt 64 6148914691236517205).toNat : Int))))) &&& BitVec.ofInt 64 3689348814741910323).toNat : Int))))) (2 ^ (min (4 : Int).toNat 64))) + (wu64 ((wu64 (((BitVec.ofInt 64 (Int.fdiv (wu64 ((wu64 (((BitVec.ofInt 64 (Int.fdiv p0 (2 ^ (min (1 : Int).toNat 64))) &&& BitVec.ofInt 64 6148914691236517205).toNat : Int))) + (wu64 (((BitVec.ofInt 64 p0 &&& BitVec.ofInt 64 6148914691236517205).toNat : Int))))) (2 ^ (min (2 : Int).toNat 64))) &&& BitVec.ofInt 64 3689348814741910323).toNat : Int))) + (wu64 (((BitVec.ofInt 64 (wu64 ((wu64 (((BitVec.ofInt 64 (Int.fdiv p0 (2 ^ (min (1 : Int).toNat 64))) &&& BitVec.ofInt 64 6148914691236517205).toNat : Int))) + (wu64 (((BitVec.ofInt 64 p0 &&& BitVec.ofInt 64 6148914691236517205).toNat : Int))))) &&& BitVec.ofInt 64 3689348814741910323).toNat : Int))))))) &&& BitVec.ofInt 64 1085102592571150095).toNat : Int))) + (Int.fdiv (wu64 (((BitVec.ofInt 64 (wu64 ((Int.fdiv (wu64 ((wu64 (((BitVec.ofInt 64 (Int.fdiv (wu64 ((wu64 (((BitVec.ofInt 64 (Int.fdiv p0 (2 ^ (min (1 : Int).toNat 64))) &&& BitVec.ofInt 64 6148914691236517205).toNat : Int))) + (wu64 (((BitVec.ofInt 64 p0 &&& BitVec.ofInt 64 6148914691236517205).toNat : Int))))) (2 ^ (min (2 : Int).toNat 64))) &&& BitVec.ofInt 64 3689348814741910323).toNat : Int))) + (wu64 (((BitVec.ofInt 64 (wu64 ((wu64 (((BitVec.ofInt 64 (Int.fdiv p0 (2 ^ (min (1 : Int).toNat 64))) &&& BitVec.ofInt 64 6148914691236517205).toNat : Int))) + (wu64 (((BitVec.ofInt 64 p0 &&& BitVec.ofInt 64 6148914691236517205).toNat : Int))))) &&& BitVec.ofInt 64 3689348814741910323).toNat : Int))))) (2 ^ (min (4 : Int).toNat 64))) + (wu64 ((wu64 (((BitVec.ofInt 64 (Int.fdiv (wu64 ((wu64 (((BitVec.ofInt 64 (Int.fdiv p0 (2 ^ (min (1 : Int).toNat 64))) &&& BitVec.ofInt 64 6148914691236517205).toNat : Int))) + (wu64 (((BitVec.ofInt 64 p0 &&& BitVec.ofInt 64 6148914691236517205).toNat : Int))))) (2 ^ (min (2 : Int).toNat 64))) &&& BitVec.ofInt 64 3689348814741910323).toNat : Int))) + (wu64 (((BitVec.ofInt 64 (wu64 ((wu64 (((BitVec.ofInt 64 (Int.fdiv p0 (2 ^ (min (1 : Int).toNat 64))) &&& BitVec.ofInt 64 6148914691236517205).toNat : Int))) + (wu64 (((BitVec.ofInt 64 p0 &&& BitVec.ofInt 64 6148914691236517205).toNat : Int))))) &&& BitVec.ofInt 64 3689348814741910323).toNat : Int))))))) &&& BitVec.ofInt 64 1085102592571150095).toNat : Int))) (2 ^ (min (8 : Int).toNat 64))))) (2 ^ (min (16 : Int).toNat 64))))) (2 ^ (min (32 : Int).toNat 64)))))), (2, .int .i64 0)] rfl ⟨rfl, rfl, trivial⟩ ?_
  refine WO_end ?_
  refine WK_seq ?_
  refine WK_region ?_
  refine WO_pure tbok 4 [(2, .int .i64 (w64 (((BitVec.ofInt 64 (w64 (wu64 ((wu64 ((wu64 ((wu64 (((BitVec.ofInt 64 (wu64 ((Int.fdiv (wu64 ((wu64 (((BitVec.ofInt 64 (Int.fdiv (wu64 ((wu64 (((BitVec.ofInt 64 (Int.fdiv p0 (2 ^ (min (1 : Int).toNat 64))) &&& BitVec.ofInt 64 6148914691236517205).toNat : Int))) + (wu64 (((BitVec.ofInt 64 p0 &&& BitVec.ofInt 64 6148914691236517205).toNat : Int))))) (2 ^ (min (2 : Int).toNat 64))) &&& BitVec.ofInt 64 3689348814741910323).toNat : Int))) + (wu64 (((BitVec.ofInt 64 (wu64 ((wu64 (((BitVec.ofInt 64 (Int.fdiv p0 (2 ^ (min (1 : Int).toNat 64))) &&& BitVec.ofInt 64 6148914691236517205).toNat : Int))) + (wu64 (((BitVec.ofInt 64 p0 &&& BitVec.ofInt 64 6148914691236517205).toNat : Int))))) &&& BitVec.ofInt 64 3689348814741910323).toNat : Int))))) (2 ^ (min (4 : Int).toNat 64))) + (wu64 ((wu64 (((BitVec.ofInt 64 (Int.fdiv (wu64 ((wu64 (((BitVec.ofInt 64 (Int.fdiv p0 (2 ^ (min (1 : Int).toNat 64))) &&& BitVec.ofInt 64 6148914691236517205).toNat : Int))) + (wu64 (((BitVec.ofInt 64 p0 &&& BitVec.ofInt 64 6148914691236517205).toNat : Int))))) (2 ^ (min (2 : Int).toNat 64))) &&& BitVec.ofInt 64 3689348814741910323).toNat : Int))) + (wu64 (((BitVec.ofInt 64 (wu64 ((wu64 (((BitVec.ofInt 64 (Int.fdiv p0 (2 ^ (min (1 : Int).toNat 64))) &&& BitVec.ofInt 64 6148914691236517205).toNat : Int))) + (wu64 (((BitVec.ofInt 64 p0 &&& BitVec.ofInt 64 6148914691236517205).toNat : Int))))) &&& BitVec.ofInt 64 3689348814741910323).toNat : Int))))))) &&& BitVec.ofInt 64 1085102592571150095).toNat : Int))) + (Int.fdiv (wu64 (((BitVec.ofInt 64 (wu64 ((Int.fdiv (wu64 ((wu64 (((BitVec.ofInt 64 (Int.fdiv (wu64 ((wu64 (((BitVec.ofInt 64 (Int.fdiv p0 (2 ^ (min (1 : Int).toNat 64))) &&& BitVec.ofInt 64 6148914691236517205).toNat : Int))) + (wu64 (((BitVec.ofInt 64 p0 &&& BitVec.ofInt 64 6148914691236517205).toNat : Int))))) (2 ^ (min (2 : Int).toNat 64))) &&& BitVec.ofInt 64 3689348814741910323).toNat : Int))) + (wu64 (((BitVec.ofInt 64 (wu64 ((wu64 (((BitVec.ofInt 64 (Int.fdiv p0 (2 ^ (min (1 : Int).toNat 64))) &&& BitVec.ofInt 64 6148914691236517205).toNat : Int))) + (wu64 (((BitVec.ofInt 64 p0 &&& BitVec.ofInt 64 6148914691236517205).toNat : Int))))) &&& BitVec.ofInt 64 3689348814741910323).toNat : Int))))) (2 ^ (min (4 : Int).toNat 64))) + (wu64 ((wu64 (((BitVec.ofInt 64 (Int.fdiv (wu64 ((wu64 (((BitVec.ofInt 64 (Int.fdiv p0 (2 ^ (min (1 : Int).toNat 64))) &&& BitVec.ofInt 64 6148914691236517205).toNat : Int))) + (wu64 (((BitVec.ofInt 64 p0 &&& BitVec.ofInt 64 6148914691236517205).toNat : Int))))) (2 ^ (min (2 : Int).toNat 64))) &&& BitVec.ofInt 64 3689348814741910323).toNat : Int))) + (wu64 (((BitVec.ofInt 64 (wu64 ((wu64 (((BitVec.ofInt 64 (Int.fdiv p0 (2 ^ (min (1 : Int).toNat 64))) &&& BitVec.ofInt 64 6148914691236517205).toNat : Int))) + (wu64 (((BitVec.ofInt 64 p0 &&& BitVec.ofInt 64 6148914691236517205).toNat : Int))))) &&& BitVec.ofInt 64 3689348814741910323).toNat : Int))))))) &&& BitVec.ofInt 64 1085102592571150095).toNat : Int))) (2 ^ (min (8 : Int).toNat 64))))) + (Int.fdiv (wu64 ((wu64 (((BitVec.ofInt 64 (wu64 ((Int.fdiv (wu64 ((wu64 (((BitVec.ofInt 64 (Int.fdiv (wu64 ((wu64 (((BitVec.ofInt 64 (Int.fdiv p0 (2 ^ (min (1 : Int).toNat 64))) &&& BitVec.ofInt 64 6148914691236517205).toNat : Int))) + (wu64 (((BitVec.ofInt 64 p0 &&& BitVec.ofInt 64 6148914691236517205).toNat : Int))))) (2 ^ (min (2 : Int).toNat 64))) &&& BitVec.ofInt 64 3689348814741910323).toNat : Int))) + (wu64 (((BitVec.ofInt 64 (wu64 ((wu64 (((BitVec.ofInt 64 (Int.fdiv p0 (2 ^ (min (1 : Int).toNat 64))) &&& BitVec.ofInt 64 6148914691236517205).toNat : Int))) + (wu64 (((BitVec.ofInt 64 p0 &&& BitVec.ofInt 64 6148914691236517205).toNat : Int))))) &&& BitVec.ofInt 64 3689348814741910323).toNat : Int))))) (2 ^ (min (4 : Int).toNat 64))) + (wu64 ((wu64 (((BitVec.ofInt 64 (Int.fdiv (wu64 ((wu64 (((BitVec.ofInt 64 (Int.fdiv p0 (2 ^ (min (1 : Int).toNat 64))) &&& BitVec.ofInt 64 6148914691236517205).toNat : Int))) + (wu64 (((BitVec.ofInt 64 p0 &&& BitVec.ofInt 64 6148914691236517205).toNat : Int))))) (2 ^ (min (2 : Int).toNat 64))) &&& BitVec.ofInt 64 3689348814741910323).toNat : Int))) + (wu64 (((BitVec.ofInt 64 (wu64 ((wu64 (((BitVec.ofInt 64 (Int.fdiv p0 (2 ^ (min (1 : Int).toNat 64))) &&& BitVec.ofInt 64 6148914691236517205).toNat : Int))) + (wu64 (((BitVec.ofInt 64 p0 &&& BitVec.ofInt 64 6148914691236517205).toNat : Int))))) &&& BitVec.ofInt 64 3689348814741910323).toNat : Int))))))) &&& BitVec.ofInt 64 1085102592571150095).toNat : Int))) + (Int.fdiv (wu64 (((BitVec.ofInt 64 (wu64 ((Int.fdiv (wu64 ((wu64 (((BitVec.ofInt 64 (Int.fdiv (wu64 ((wu64 (((BitVec.ofInt 64 (Int.fdiv p0 (2 ^ (min (1 : Int).toNat 64))) &&& BitVec.ofInt 64 6148914691236517205).toNat : Int))) + (wu64 (((BitVec.ofInt 64 p0 &&& BitVec.ofInt 64 6148914691236517205).toNat : Int))))) (2 ^ (min (2 : Int).toNat 64))) &&& BitVec.ofInt 64 3689348814741910323).toNat : Int))) + (wu64 (((BitVec.ofInt 64 (wu64 ((wu64 (((BitVec.ofInt 64 (Int.fdiv p0 (2 ^ (min (1 : Int).toNat 64))) &&& BitVec.ofInt 64 6148914691236517205).toNat : Int))) + (wu64 (((BitVec.ofInt 64 p0 &&& BitVec.ofInt 64 6148914691236517205).toNat : Int))))) &&& BitVec.ofInt 64 3689348814741910323).toNat : Int))))) (2 ^ (min (4 : Int).toNat 64))) + (wu64 ((wu64 (((BitVec.ofInt 64 (Int.fdiv (wu64 ((wu64 (((BitVec.ofInt 64 (Int.fdiv p0 (2 ^ (min (1 : Int).toNat 64))) &&& BitVec.ofInt 64 6148914691236517205).toNat : Int))) + (wu64 (((BitVec.ofInt 64 p0 &&& BitVec.ofInt 64 6148914691236517205).toNat : Int))))) (2 ^ (min (2 : Int).toNat 64))) &&& BitVec.ofInt 64 3689348814741910323).toNat : Int))) + (wu64 (((BitVec.ofInt 64 (wu64 ((wu64 (((BitVec.ofInt 64 (Int.fdiv p0 (2 ^ (min (1 : Int).toNat 64))) &&& BitVec.ofInt 64 6148914691236517205).toNat : Int))) + (wu64 (((BitVec.ofInt 64 p0 &&& BitVec.ofInt 64 6148914691236517205).toNat : Int))))) &&& BitVec.ofInt 64 3689348814741910323).toNat : Int))))))) &&& BitVec.ofInt 64 1085102592571150095).toNat : Int))) (2 ^ (min (8 : Int).toNat 64))))) (2 ^ (min (16 : Int).toNat 64))))) + (Int.fdiv (wu64 ((wu64 ((wu64 (((BitVec.ofInt 64 (wu64 ((Int.fdiv (wu64 ((wu64 (((BitVec.ofInt 64 (Int.fdiv (wu64 ((wu64 (((BitVec.ofInt 64 (Int.fdiv p0 (2 ^ (min (1 : Int).toNat 64))) &&& BitVec.ofInt 64 6148914691236517205).toNat : Int))) + (wu64 (((BitVec.ofInt 64 p0 &&& BitVec.ofInt 64 6148914691236517205).toNat : Int))))) (2 ^ (min (2 : Int).toNat 64))) &&& BitVec.ofInt 64 3689348814741910323).toNat : Int))) + (wu64 (((BitVec.ofInt 64 (wu64 ((wu64 (((BitVec.ofInt 64 (Int.fdiv p0 (2 ^ (min (1 : Int).toNat 64))) &&& BitVec.ofInt 64 6148914691236517205).toNat : Int))) + (wu64 (((BitVec.ofInt 64 p0 &&& BitVec.ofInt 64 6148914691236517205).toNat : Int))))) &&& BitVec.ofInt 64 3689348814741910323).toNat : Int))))) (2 ^ (min (4 : Int).toNat 64))) + (wu64 ((wu64 (((BitVec.ofInt 64 (Int.fdiv (wu64 ((wu64 (((BitVec.ofInt 64 (Int.fdiv p0 (2 ^ (min (1 : Int).toNat 64))) &&& BitVec.ofInt 64 6148914691236517205).toNat : Int))) + (wu64 (((BitVec.ofInt 64 p0 &&& BitVec.ofInt 64 6148914691236517205).toNat : Int))))) (2 ^ (min (2 : Int).toNat 64))) &&& BitVec.ofInt 64 3689348814741910323).toNat : Int))) + (wu64 (((BitVec.ofInt 64 (wu64 ((wu64 (((BitVec.ofInt 64 (Int.fdiv p0 (2 ^ (min (1 : Int).toNat 64))) &&& BitVec.ofInt 64 6148914691236517205).toNat : Int))) + (wu64 (((BitVec.ofInt 64 p0 &&& BitVec.ofInt 64 6148914691236517205).toNat : Int))))) &&& BitVec.ofInt 64 3689348814741910323).toNat : Int))))))) &&& BitVec.ofInt 64 1085102592571150095).toNat : Int))) + (Int.fdiv (wu64 (((BitVec.ofInt 64 (wu64 ((Int.fdiv (wu64 ((wu64 (((BitVec.ofInt 64 (Int.fdiv (wu64 ((wu64 (((BitVec.ofInt 64 (Int.fdiv p0 (2 ^ (min (1 : Int).toNat 64))) &&& BitVec.ofInt 64 6148914691236517205).toNat : Int))) + (wu64 (((BitVec.ofInt 64 p0 &&& BitVec.ofInt 64 6148914691236517205).toNat : Int))))) (2 ^ (min (2 : Int).toNat 64))) &&& BitVec.ofInt 64 3689348814741910323).toNat : Int))) + (wu64 (((BitVec.ofInt 64 (wu64 ((wu64 (((BitVec.ofInt 64 (Int.fdiv p0 (2 ^ (min (1 : Int).toNat 64))) &&& BitVec.ofInt 64 6148914691236517205).toNat : Int))) + (wu64 (((BitVec.ofInt 64 p0 &&& BitVec.ofInt 64 6148914691236517205).toNat : Int))))) &&& BitVec.ofInt 64 3689348814741910323).toNat : Int))))) (2 ^ (min (4 : Int).toNat 64))) + (wu64 ((wu64 (((BitVec.ofInt 64 (Int.fdiv (wu64 ((wu64 (((BitVec.ofInt 64 (Int.fdiv p0 (2 ^ (min (1 : Int).toNat 64))) &&& BitVec.ofInt 64 6148914691236517205).toNat : Int))) + (wu64 (((BitVec.ofInt 64 p0 &&& BitVec.ofInt 64 6148914691236517205).toNat : Int))))) (2 ^ (min (2 : Int).toNat 64))) &&& BitVec.ofInt 64 3689348814741910323).toNat : Int))) + (wu64 (((BitVec.ofInt 64 (wu64 ((wu64 (((BitVec.ofInt 64 (Int.fdiv p0 (2 ^ (min (1 : Int).toNat 64))) &&& BitVec.ofInt 64 6148914691236517205).toNat : Int))) + (wu64 (((BitVec.ofInt 64 p0 &&& BitVec.ofInt 64 6148914691236517205).toNat : Int))))) &&& BitVec.ofInt 64 3689348814741910323).toNat : Int))))))) &&& BitVec.ofInt 64 1085102592571150095).toNat : Int))) (2 ^ (min (8 : Int).toNat 64))))) + (Int.fdiv (wu64 ((wu64 (((BitVec.ofInt 64 (wu64 ((Int.fdiv (wu64 ((wu64 (((BitVec.ofInt 64 (Int.fdiv (wu64 ((wu64 (((BitVec.ofInt 64 (Int.fdiv p0 (2 ^ (min (1 : Int).toNat 64))) &&& BitVec.ofInt 64 6148914691236517205).toNat : Int))) + (wu64 (((BitVec.ofInt 64 p0 &&& BitVec.ofInt 64 6148914691236517205).toNat : Int))))) (2 ^ (min (2 : Int).toNat 64))) &&& BitVec.ofInt 64 3689348814741910323).toNat : Int))) + (wu64 (((BitVec.ofInt 64 (wu64 ((wu64 (((BitVec.ofInt 64 (Int.fdiv p0 (2 ^ (min (1 : Int).toNat 64))) &&& BitVec.ofInt 64 6148914691236517205).toNat : Int))) + (wu64 (((BitVec.ofInt 64 p0 &&& BitVec.ofInt 64 6148914691236517205).toNat : Int))))) &&& BitVec.ofInt 64 3689348814741910323).toNat : Int))))) (2 ^ (min (4 : Int).toNat 64))) + (wu64 ((wu64 (((BitVec.ofInt 64 (Int.fdiv (wu64 ((wu64 (((BitVec.ofInt 64 (Int.fdiv p0 (2 ^ (min (1 : Int).toNat 64))) &&& BitVec.ofInt 64 6148914691236517205).toNat : Int))) + (wu64 (((BitVec.ofInt 64 p0 &&& BitVec.ofInt 64 6148914691236517205).toNat : Int))))) (2 ^ (min (2 : Int).toNat 64))) &&& BitVec.ofInt 64 3689348814741910323).toNat : Int))) + (wu64 (((BitVec.ofInt 64 (wu64 ((wu64 (((BitVec.ofInt 64 (Int.fdiv p0 (2 ^ (min (1 : Int).toNat 64))) &&& BitVec.ofInt 64 6148914691236517205).toNat : Int))) + (wu64 (((BitVec.ofInt 64 p0 &&& BitVec.ofInt 64 6148914691236517205).toNat : Int))))) &&& BitVec.ofInt 64 3689348814741910323).toNat : Int))))))) &&& BitVec.ofInt 64 1085102592571150095).toNat : Int))) + (Int.fdiv (wu64 (((BitVec.ofInt 64 (wu64 ((Int.fdiv (wu64 ((wu64 (((BitVec.ofInt 64 (Int.fdiv (wu64 ((wu64 (((BitVec.ofInt 64 (Int.fdiv p0 (2 ^ (min (1 : Int).toNat 64))) &&& BitVec.ofInt 64 6148914691236517205).toNat : Int))) + (wu64 (((BitVec.ofInt 64 p0 &&& BitVec.ofInt 64 6148914691236517205).toNat : Int))))) (2 ^ (min (2 : Int).toNat 64))) &&& BitVec.ofInt 64 3689348814741910323).toNat : Int))) + (wu64 (((BitVec.ofInt 64 (wu64 ((wu64 (((BitVec.ofInt 64 (Int.fdiv p0 (2 ^ (min (1 : Int).toNat 64))) &&& BitVec.ofInt 64 6148914691236517205).toNat : Int))) + (wu64 (((BitVec.ofInt 64 p0 &&& BitVec.ofInt 64 6148914691236517205).toNat : Int))))) &&& BitVec.ofInt 64 3689348814741910323).toNat : Int))))) (2 ^ (min (4 : Int).toNat 64))) + (wu64 ((wu64 (((BitVec.ofInt 64 (Int.fdiv (wu64 ((wu64 (((BitVec.ofInt 64 (Int.fdiv p0 (2 ^ (min (1 : Int).toNat 64))) &&& BitVec.ofInt 64 6148914691236517205).toNat : Int))) + (wu64 (((BitVec.ofInt 64 p0 &&& BitVec.ofInt 64 6148914691236517205).toNat : Int))))) (2 ^ (min (2 : Int).toNat 64))) &&& BitVec.ofInt 64 3689348814741910323).toNat : Int))) + (wu64 (((BitVec.ofInt 64 (wu64 ((wu64 (((BitVec.ofInt 64 (Int.fdiv p0 (2 ^ (min (1 : Int).toNat 64))) &&& BitVec.ofInt 64 6148914691236517205).toNat : Int))) + (wu64 (((BitVec.ofInt 64 p0 &&& BitVec.ofInt 64 6148914691236517205).toNat : Int))))) &&& BitVec.ofInt 64 3689348814741910323).toNat : Int))))))) &&& BitVec.ofInt 64 1085102592571150095).toNat : Int))) (2 ^ (min (8 : Int).toNat 64))))) (2 ^ (min (16 : Int).toNat 64))))) (2 ^ (min (32 : Int).toNat 64)))))) &&& BitVec.ofInt 64 127).toNat : Int))))] rfl ⟨rfl, trivial⟩ ?_
  refine WO_end ?_
  cases hm
  exact WK_ret (ret_out (L := []) (RLc_tmp rfl RLc_nil) (List.nil_sublist _) rfl)
theorem descriptor_Distance_walk {m : Mu} {p0 : Int} {p1 : Int}   {r : Int} (hm : descriptor_Distance p0 p1 = some r) :
    Go.E.Spec Try.prog 12 [.int .u64 p0, .int .u64 p1] m (fun v _ _ => v = .int .i64 r) := by
  refine Spec_enter Try.func12 rfl rfl rfl (fun w0 => ?_)
  refine WK.sub (e' := [(0, .int .u64 p0), (1, .int .u64 p1)]) ⟨rfl, rfl, trivial⟩ ?_
  refine WK.sub (e' := [(0, .int .u64 p0), (1, .int .u64 p1)]) ⟨rfl, rfl, trivial⟩ ?_
  unfold descriptor_Distance at hm
  refine WK_seq ?_
  refine WK_region ?_
  refine WO_pure tbok 1 [(0, .int .u64 p0), (1, .int .u64 p1), (4, .int .i64 0)] rfl ⟨rfl, rfl, rfl, trivial⟩ ?_
  refine WO_end ?_
  refine WK_seq ?_
  refine WK_region ?_
  refine WO_pure tbok 3 [(4, .int .i64 0), (7, .int .u64 (wu64 (((BitVec.ofInt 64 p0 ^^^ BitVec.ofInt 64 p1).toNat : Int))))] rfl ⟨rfl, rfl, trivial⟩ ?_
  obtain ⟨y_1, hc1, hm⟩ := bind_some hm
  refine WO_call0 (.int .i64 y_1) rfl rfl trivial rfl rfl rfl rfl St_closed ⟨13, #[], #[], rfl, callable_13, fun w hw => ⟨_, hw.sat, bits_OnesCount64_walk hc1⟩⟩ ?_
  refine WO_pure tbok 1 [(4, .int .i64 y_1)] rfl ⟨rfl, trivial⟩ ?_
  refine WO_end ?_
  cases hm
  exact WK_ret (ret_out (L := []) (RLc_tmp rfl RLc_nil) (List.nil_sublist _) rfl)
theorem fiduciallaw21_known_walk {m : Mu}    {r : Bool} (hm : fiduciallaw21_known = some r) :
    Go.E.Spec Try.prog 11 [] m (fun v _ _ => v = .bool r) := by
  refine Spec_enter Try.func11 rfl rfl rfl (fun w0 => ?_)
  refine WK.sub (e' := []) trivial ?_
  refine WK.sub (e' := []) trivial ?_
  unfold fiduciallaw21_known at hm
  refine WK_seq ?_
  refine WK_region ?_
  refine WO_pure tbok 1 [(0, .bool false)] rfl ⟨rfl, trivial⟩ ?_
  refine WO_end ?_
  refine WK_seq ?_
  refine WK_region ?_
  refine WO_bslice (E := (I1 .i64)) tbok (fun _ => rfl) (by decide) [.int .i64 1, .int .i64 5, .int .i64 5] ([1, 5, 5] : List Int) rfl rfl trivial rfl rfl rfl rfl rfl rfl rfl rfl rfl rfl rfl rfl (fun b1 hb1 => ?_)
  refine WO.cls (C' := St w0 m m [[⟨b1, 3, ([1, 5, 5] : List Int).flatMap (I1 .i64)⟩]]) (fun _ h => h) ?_
  refine WO_pure tbok 1 [(0, .bool false), (10, .agg #[.int .i64 3, .int .i64 1, .int .i64 9, .slice (some ⟨b1, 0, none⟩) 3 3])] rfl ⟨rfl, rfl, trivial⟩ ?_
  refine WO_alloc tbok [.int .i64 0, .int .i64 0, .int .i64 0, .slice none 0 0] rfl rfl trivial rfl rfl rfl rfl (fun b3 => ?_)
  refine WO.cls (C' := St w0 m m [[⟨b1, 3, ([1, 5, 5] : List Int).flatMap (I1 .i64)⟩], [⟨b3, 29, [.int .i64 0, .int .i64 0, .int .i64 0, .slice none 0 0]⟩]]) (fun _ h => h) ?_
  refine WO_storeB tbok 1 [.int .i64 3, .int .i64 1, .int .i64 9, .slice (some ⟨b1, 0, none⟩) 3 3] rfl rfl rfl rfl rfl rfl rfl ?_
  refine WO.cls (C' := St w0 m m [[⟨b1, 3, ([1, 5, 5] : List Int).flatMap (I1 .i64)⟩], [⟨b3, 29, [.int .i64 3, .int .i64 1, .int .i64 9, .slice (some ⟨b1, 0, none⟩) 3 3]⟩]]) (fun _ h => h) ?_
  refine WO_end ?_
  refine WK_seq ?_
  refine WK_region ?_
  refine WO_pure tbok 3 [(0, .bool false), (1, .pointer (some ⟨b3, 0, none⟩)), (13, .agg #[.int .i64 0, .int .i64 0, .int .i64 1, .int .i64 1, .int .i64 1, .int .i64 0, .int .i64 1, .int .i64 1])] rfl ⟨rfl, rfl, rfl, trivial⟩ ?_
  refine WO_bslice (E := T8) tbok (fun _ => rfl) (by decide) [.agg #[.int .i64 0, .int .i64 0, .int .i64 1, .int .i64 1, .int .i64 1, .int .i64 0, .int .i64 1, .int .i64 1]] ([(0, 0, 1, 1, 1, 0, 1, 1)] : List (Int × Int × Int × Int × Int × Int × Int × Int)) rfl rfl trivial rfl rfl rfl rfl rfl rfl rfl rfl rfl rfl rfl rfl (fun b4 hb4 => ?_)
  refine WO.cls (C' := St w0 m m [[⟨b1, 3, ([1, 5, 5] : List Int).flatMap (I1 .i64)⟩], [⟨b3, 29, [.int .i64 3, .int .i64 1, .int .i64 9, .slice (some ⟨b1, 0, none⟩) 3 3]⟩], [⟨b4, 46, ([(0, 0, 1, 1, 1, 0, 1, 1)] : List (Int × Int × Int × Int × Int × Int × Int × Int)).flatMap T8⟩]]) (fun _ h => h) ?_
  refine WO_pure tbok 1 [(0, .bool false), (1, .pointer (some ⟨b3, 0, none⟩)), (2, .slice (some ⟨b4, 0, none⟩) 1 1)] rfl ⟨rfl, rfl, rfl, trivial⟩ ?_
  refine WO_end ?_
  refine WK_seq ?_
  refine WK_region ?_
  refine WO_loadB tbok 1 rfl rfl rfl rfl (fun _ h => h) rfl rfl ?_
  refine WO_pure tbok 1 [(0, .bool false), (1, .pointer (some ⟨b3, 0, none⟩)), (2, .slice (some ⟨b4, 0, none⟩) 1 1), (16, .agg #[.int .i64 3, .int .i64 1, .int .i64 9, .slice (some ⟨b1, 0, none⟩) 3 3]), (17, .slice (some ⟨b4, 0, none⟩) 1 1)] rfl ⟨rfl, rfl, rfl, rfl, rfl, trivial⟩ ?_
  obtain ⟨⟨y_1, y_2⟩, hc6, hm⟩ := bind_some hm
  refine WO_call0 (.tuple #[.int .u64 y_1, .int .i64 y_2]) rfl rfl trivial rfl rfl rfl rfl St_closed ⟨15, #[], #[], rfl, callable_15, fun w hw => ⟨_, hw.satV, descriptor_Describe_walk (OwnE.rd (E := (I1 .i64)) (k := 1) (fun _ => rfl) hb1 (fun _ hx => hw.memV (i := 0) rfl hx)) (OwnE.rd (E := T8) (k := 8) (fun _ => rfl) hb4 (fun _ hx => hw.memV (i := 2) rfl hx)) hc6⟩⟩ ?_
  refine WO_pure tbok 5 [(0, .bool false), (1, .pointer (some ⟨b3, 0, none⟩)), (2, .slice (some ⟨b4, 0, none⟩) 1 1), (3, .int .u64 y_1), (4, .int .i64 y_2)] rfl ⟨rfl, rfl, rfl, rfl, rfl, trivial⟩ ?_
  refine WO_end ?_
  refine WK_seq ?_
  refine WK_region ?_
  refine WO_loadB tbok 1 rfl rfl rfl rfl (fun _ h => h) rfl rfl ?_
  refine WO_pure tbok 1 [(0, .bool false), (1, .pointer (some ⟨b3, 0, none⟩)), (2, .slice (some ⟨b4, 0, none⟩) 1 1), (3, .int .u64 y_1), (4, .int .i64 y_2), (22, .agg #[.int .i64 3, .int .i64 1, .int .i64 9, .slice (some ⟨b1, 0, none⟩) 3 3]), (23, .slice (some ⟨b4, 0, none⟩) 1 1)] rfl ⟨rfl, rfl, rfl, rfl, rfl, rfl, rfl, trivial⟩ ?_
  obtain ⟨⟨y_3, y_4⟩, hc7, hm⟩ := bind_some hm
  refine WO_call0 (.tuple #[.int .u64 y_3, .int .i64 y_4]) rfl rfl trivial rfl rfl rfl rfl St_closed ⟨15, #[], #[], rfl, callable_15, fun w hw => ⟨_, hw.satV, descriptor_Describe_walk (OwnE.rd (E := (I1 .i64)) (k := 1) (fun _ => rfl) hb1 (fun _ hx => hw.memV (i := 0) rfl hx)) (OwnE.rd (E := T8) (k := 8) (fun _ => rfl) hb4 (fun _ hx => hw.memV (i := 2) rfl hx)) hc7⟩⟩ ?_
  refine WO_pure tbok 5 [(0, .bool false), (1, .pointer (some ⟨b3, 0, none⟩)), (2, .slice (some ⟨b4, 0, none⟩) 1 1), (3, .int .u64 y_1), (4, .int .i64 y_2), (5, .int .u64 y_3), (6, .int .i64 y_4)] rfl ⟨rfl, rfl, rfl, rfl, rfl, rfl, rfl, trivial⟩ ?_
  refine WO_end ?_
  refine WK_seq ?_
  refine WK_region ?_
  refine WO_loadB tbok 1 rfl rfl rfl rfl (fun _ h => h) rfl rfl ?_
  refine WO_pure tbok 1 [(0, .bool false), (3, .int .u64 y_1), (4, .int .i64 y_2), (5, .int .u64 y_3), (6, .int .i64 y_4), (28, .agg #[.int .i64 3, .int .i64 1, .int .i64 9, .slice (some ⟨b1, 0, none⟩) 3 3]), (29, .slice (some ⟨b4, 0, none⟩) 1 1)] rfl ⟨rfl, rfl, rfl, rfl, rfl, rfl, rfl, trivial⟩ ?_
  obtain ⟨⟨y_5, y_6⟩, hc8, hm⟩ := bind_some hm
  refine WO_call0 (.tuple #[.int .u64 y_5, .int .i64 y_6]) rfl rfl trivial rfl rfl rfl rfl St_closed ⟨15, #[], #[], rfl, callable_15, fun w hw => ⟨_, hw.satV, descriptor_Describe_walk (OwnE.rd (E := (I1 .i64)) (k := 1) (fun _ => rfl) hb1 (fun _ hx => hw.memV (i := 0) rfl hx)) (OwnE.rd (E := T8) (k := 8) (fun _ => rfl) hb4 (fun _ hx => hw.memV (i := 2) rfl hx)) hc8⟩⟩ ?_
  refine WO_pure tbok 5 [(0, .bool false), (3, .int .u64 y_1), (4, .int .i64 y_2), (5, .int .u64 y_3), (6, .int .i64 y_4), (8, .int .i64 y_6)] rfl ⟨rfl, rfl, rfl, rfl, rfl, rfl, trivial⟩ ?_
  refine WO_end ?_
  refine WK_seq ?_
  refine WK_region ?_
  refine WO_pure tbok 3 [(0, .bool false), (4, .int .i64 y_2), (5, .int .u64 y_3), (6, .int .i64 y_4), (8, .int .i64 y_6), (35, .bool (y_1 == 1))] rfl ⟨rfl, rfl, rfl, rfl, rfl, rfl, trivial⟩ ?_
  refine WO_split (d := 35) (b := y_1 == 1) rfl (fun hb9 => ?_) (fun hb9 => ?_)
  · have hm := ifT hb9 hm
    refine WO_pure tbok 4 [(0, .bool false), (5, .int .u64 y_3), (6, .int .i64 y_4), (8, .int .i64 y_6), (39, .bool (y_2 == 0))] rfl ⟨rfl, rfl, rfl, rfl, rfl, trivial⟩ ?_
    refine WO_split (d := 39) (b := y_2 == 0) rfl (fun hb10 => ?_) (fun hb10 => ?_)
    · have hm := ifT hb10 hm
      refine WO_pure tbok 4 [(0, .bool false), (6, .int .i64 y_4), (8, .int .i64 y_6), (43, .bool (y_3 == 0))] rfl ⟨rfl, rfl, rfl, rfl, trivial⟩ ?_
      refine WO_split (d := 43) (b := y_3 == 0) rfl (fun hb11 => ?_) (fun hb11 => ?_)
      · have hm := ifT hb11 hm
        refine WO_pure tbok 4 [(0, .bool false), (8, .int .i64 y_6), (47, .bool (y_4 == 0))] rfl ⟨rfl, rfl, rfl, trivial⟩ ?_
        refine WO_split (d := 47) (b := y_4 == 0) rfl (fun hb12 => ?_) (fun hb12 => ?_)
        · have hm := ifT hb12 hm
          refine WO_pure tbok 4 [(0, .bool false), (51, .bool (y_6 == 15))] rfl ⟨rfl, rfl, trivial⟩ ?_
          refine WO_split (d := 51) (b := y_6 == 15) rfl (fun hb13 => ?_) (fun hb13 => ?_)
          · have hm := ifT hb13 hm
            obtain ⟨y_7, hc14, hm⟩ := bind_some hm
            refine WO_call0 (.int .i64 y_7) rfl rfl trivial rfl rfl rfl rfl St_closed ⟨12, #[], #[], rfl, callable_12, fun w hw => ⟨_, hw.sat, descriptor_Distance_walk hc14⟩⟩ ?_
            refine WO_pure tbok 3 [(0, .bool (y_7 == 2))] rfl ⟨rfl, trivial⟩ ?_
            refine WO_end ?_
            cases hm
            exact WK_ret (ret_out (L := []) (RLc_tmp rfl RLc_nil) (List.nil_sublist _) rfl)
          · have hm := ifF hb13 hm
            refine WO_skip rfl rfl ?_
            refine WO_pure tbok 3 [(0, .bool false)] rfl ⟨rfl, trivial⟩ ?_
            refine WO_end ?_
            cases hm
            exact WK_ret (ret_out (L := []) (RLc_tmp rfl RLc_nil) (List.nil_sublist _) rfl)
        · have hm := ifF hb12 hm
          refine WO_pure tbok 4 [(0, .bool false), (51, .bool false)] rfl ⟨rfl, rfl, trivial⟩ ?_
          refine WO_skip rfl rfl ?_
          refine WO_pure tbok 3 [(0, .bool false)] rfl ⟨rfl, trivial⟩ ?_
          refine WO_end ?_
          cases hm
          exact WK_ret (ret_out (L := []) (RLc_tmp rfl RLc_nil) (List.nil_sublist _) rfl)
      · have hm := ifF hb11 hm
        refine WO_pure tbok 8 [(0, .bool false), (51, .bool false)] rfl ⟨rfl, rfl, trivial⟩ ?_
        refine WO_skip rfl rfl ?_
        refine WO_pure tbok 3 [(0, .bool false)] rfl ⟨rfl, trivial⟩ ?_
        refine WO_end ?_
        cases hm
        exact WK_ret (ret_out (L := []) (RLc_tmp rfl RLc_nil) (List.nil_sublist _) rfl)
    · have hm := ifF hb10 hm
      refine WO_pure tbok 12 [(0, .bool false), (51, .bool false)] rfl ⟨rfl, rfl, trivial⟩ ?_
      refine WO_skip rfl rfl ?_
      refine WO_pure tbok 3 [(0, .bool false)] rfl ⟨rfl, trivial⟩ ?_
      refine WO_end ?_
      cases hm
      exact WK_ret (ret_out (L := []) (RLc_tmp rfl RLc_nil) (List.nil_sublist _) rfl)
  · have hm := ifF hb9 hm
    refine WO_pure tbok 16 [(0, .bool false), (51, .bool false)] rfl ⟨rfl, rfl, trivial⟩ ?_
    refine WO_skip rfl rfl ?_
    refine WO_pure tbok 3 [(0, .bool false)] rfl ⟨rfl, trivial⟩ ?_
    refine WO_end ?_
    cases hm
    exact WK_ret (ret_out (L := []) (RLc_tmp rfl RLc_nil) (List.nil_sublist _) rfl)
theorem fiduciallaw21_DescriptorDistances_walk {m : Mu} {p0 : Int} {p1 : Int} {p2 : Int}   {r : Bool} (hm : fiduciallaw21_DescriptorDistances p0 p1 p2 = some r) :
    Go.E.Spec Try.prog 3 [.int .u64 p0, .int .u64 p1, .int .u64 p2] m (fun v _ _ => v = .bool r) := by
  refine Spec_enter Try.func3 rfl rfl rfl (fun w0 => ?_)
  refine WK.sub (e' := [(0, .int .u64 p0), (1, .int .u64 p1), (2, .int .u64 p2)]) ⟨rfl, rfl, rfl, trivial⟩ ?_
  refine WK.sub (e' := [(0, .int .u64 p0), (1, .int .u64 p1), (2, .int .u64 p2)]) ⟨rfl, rfl, rfl, trivial⟩ ?_
  unfold fiduciallaw21_DescriptorDistances at hm
  refine WK_seq ?_
  refine WK_region ?_
  refine WO_pure tbok 1 [(0, .int .u64 p0), (1, .int .u64 p1), (2, .int .u64 p2), (6, .bool false)] rfl ⟨rfl, rfl, rfl, rfl, trivial⟩ ?_
  refine WO_end ?_
  refine WK_seq ?_
  refine WK_seq ?_
  refine WK_region ?_
  obtain ⟨y_1, hc1, hm⟩ := bind_some hm
  refine WO_call0 (.bool y_1) rfl rfl trivial rfl rfl rfl rfl St_closed ⟨11, #[], #[], rfl, callable_11, fun w hw => ⟨_, hw.sat, fiduciallaw21_known_walk hc1⟩⟩ ?_
  refine WO_pure tbok 1 [(0, .int .u64 p0), (1, .int .u64 p1), (2, .int .u64 p2), (6, .bool false), (9, .bool (!y_1))] rfl ⟨rfl, rfl, rfl, rfl, rfl, trivial⟩ ?_
  refine WO_end ?_
  refine WK_cond (b := !y_1) rfl (fun hb2 => ?_) (fun hb2 => ?_)
  · have hm := ifT hb2 hm
    refine WK_seq ?_
    refine WK_region ?_
    refine WO_pure tbok 1 [(0, .int .u64 p0), (1, .int .u64 p1), (2, .int .u64 p2), (6, .bool false)] rfl ⟨rfl, rfl, rfl, rfl, trivial⟩ ?_
    refine WO_end ?_
    cases hm
    exact WK_ret (ret_out (L := []) (RLc_tmp rfl RLc_nil) (List.nil_sublist _) rfl)
  · have hm := ifF hb2 hm
    refine WK_skip ?_
    refine WK_seq ?_
    refine WK_region ?_
    refine WO_pure tbok 2 [(0, .int .u64 p0), (1, .int .u64 p1), (2, .int .u64 p2), (6, .bool false), (10, .int .u64 p0), (11, .int .u64 p1)] rfl ⟨rfl, rfl, rfl, rfl, rfl, rfl, trivial⟩ ?_
    obtain ⟨y_2, hc3, hm⟩ := bind_some hm
    refine WO_call0 (.int .i64 y_2) rfl rfl trivial rfl rfl rfl rfl St_closed ⟨12, #[], #[], rfl, callable_12, fun w hw => ⟨_, hw.sat, descriptor_Distance_walk hc3⟩⟩ ?_
    refine WO_pure tbok 1 [(0, .int .u64 p0), (1, .int .u64 p1), (2, .int .u64 p2), (6, .bool false), (7, .int .i64 y_2)] rfl ⟨rfl, rfl, rfl, rfl, rfl, trivial⟩ ?_
    refine WO_end ?_
    refine WK_seq ?_
    refine WK_region ?_
    refine WO_pure tbok 4 [(0, .int .u64 p0), (1, .int .u64 p1), (2, .int .u64 p2), (6, .bool false), (7, .int .i64 y_2), (13, .int .i64 y_2), (16, .int .u64 (wu64 (((BitVec.ofInt 64 p0 ^^^ BitVec.ofInt 64 p1).toNat : Int))))] rfl ⟨rfl, rfl, rfl, rfl, rfl, rfl, rfl, trivial⟩ ?_
    obtain ⟨y_3, hc4, hm⟩ := bind_some hm
    refine WO_call0 (.int .i64 y_3) rfl rfl trivial rfl rfl rfl rfl St_closed ⟨13, #[], #[], rfl, callable_13, fun w hw => ⟨_, hw.sat, bits_OnesCount64_walk hc4⟩⟩ ?_
    refine WO_pure tbok 2 [(0, .int .u64 p0), (1, .int .u64 p1), (2, .int .u64 p2), (6, .bool false), (7, .int .i64 y_2), (19, .bool (y_2 == y_3))] rfl ⟨rfl, rfl, rfl, rfl, rfl, rfl, trivial⟩ ?_
    refine WO_split (d := 19) (b := y_2 == y_3) rfl (fun hb5 => ?_) (fun hb5 => ?_)
    · have hm := ifT hb5 hm
      refine WO_pure tbok 3 [(0, .int .u64 p0), (1, .int .u64 p1), (2, .int .u64 p2), (6, .bool false), (7, .int .i64 y_2), (19, .bool true), (20, .int .i64 y_2), (21, .int .u64 p1), (22, .int .u64 p0)] rfl ⟨rfl, rfl, rfl, rfl, rfl, rfl, rfl, rfl, rfl, trivial⟩ ?_
      obtain ⟨y_4, hc6, hm⟩ := bind_some hm
      refine WO_call0 (.int .i64 y_4) rfl rfl trivial rfl rfl rfl rfl St_closed ⟨12, #[], #[], rfl, callable_12, fun w hw => ⟨_, hw.sat, descriptor_Distance_walk hc6⟩⟩ ?_
      refine WO_pure tbok 3 [(0, .int .u64 p0), (1, .int .u64 p1), (2, .int .u64 p2), (6, .bool false), (7, .int .i64 y_2), (26, .bool (y_2 == y_4))] rfl ⟨rfl, rfl, rfl, rfl, rfl, rfl, trivial⟩ ?_
      refine WO_split (d := 26) (b := y_2 == y_4) rfl (fun hb7 => ?_) (fun hb7 => ?_)
      · have hm := ifT hb7 hm
        refine WO_pure tbok 8 [(0, .int .u64 p0), (1, .int .u64 p1), (2, .int .u64 p2), (6, .bool false), (7, .int .i64 y_2), (34, .bool ((y_2 == 0) == (p0 == p1)))] rfl ⟨rfl, rfl, rfl, rfl, rfl, rfl, trivial⟩ ?_
        refine WO_split (d := 34) (b := (y_2 == 0) == (p0 == p1)) rfl (fun hb8 => ?_) (fun hb8 => ?_)
        · have hm := ifT hb8 hm
          refine WO_pure tbok 2 [(1, .int .u64 p1), (2, .int .u64 p2), (6, .bool false), (7, .int .i64 y_2), (34, .bool true), (35, .int .u64 p0), (36, .int .u64 p2)] rfl ⟨rfl, rfl, rfl, rfl, rfl, rfl, rfl, trivial⟩ ?_
          obtain ⟨y_5, hc9, hm⟩ := bind_some hm
          refine WO_call0 (.int .i64 y_5) rfl rfl trivial rfl rfl rfl rfl St_closed ⟨12, #[], #[], rfl, callable_12, fun w hw => ⟨_, hw.sat, descriptor_Distance_walk hc9⟩⟩ ?_
          refine WO_pure tbok 3 [(6, .bool false), (34, .bool true), (37, .int .i64 y_5), (38, .int .i64 y_2), (39, .int .u64 p1), (40, .int .u64 p2)] rfl ⟨rfl, rfl, rfl, rfl, rfl, rfl, trivial⟩ ?_
          obtain ⟨y_6, hc10, hm⟩ := bind_some hm
          refine WO_call0 (.int .i64 y_6) rfl rfl trivial rfl rfl rfl rfl St_closed ⟨12, #[], #[], rfl, callable_12, fun w hw => ⟨_, hw.sat, descriptor_Distance_walk hc10⟩⟩ ?_
          refine WO_pure tbok 4 [(6, .bool (decide (y_5 ≤ (w64 (y_2 + y_6)))))] rfl ⟨rfl, trivial⟩ ?_
          refine WO_end ?_
          cases hm
          exact WK_ret (ret_out (L := []) (RLc_tmp rfl RLc_nil) (List.nil_sublist _) rfl)
        · have hm := ifF hb8 hm
          refine WO_pure tbok 2 [(1, .int .u64 p1), (2, .int .u64 p2), (6, .bool false), (7, .int .i64 y_2), (34, .bool false)] rfl ⟨rfl, rfl, rfl, rfl, rfl, trivial⟩ ?_
          refine WO_skip rfl rfl ?_
          refine WO_pure tbok 3 [(6, .bool false), (34, .bool false)] rfl ⟨rfl, rfl, trivial⟩ ?_
          refine WO_skip rfl rfl ?_
          refine WO_pure tbok 4 [(6, .bool false)] rfl ⟨rfl, trivial⟩ ?_
          refine WO_end ?_
          cases hm
          exact WK_ret (ret_out (L := []) (RLc_tmp rfl RLc_nil) (List.nil_sublist _) rfl)
      · have hm := ifF hb7 hm
        refine WO_pure tbok 10 [(1, .int .u64 p1), (2, .int .u64 p2), (6, .bool false), (7, .int .i64 y_2), (34, .bool false)] rfl ⟨rfl, rfl, rfl, rfl, rfl, trivial⟩ ?_
        refine WO_skip rfl rfl ?_
        refine WO_pure tbok 3 [(6, .bool false), (34, .bool false)] rfl ⟨rfl, rfl, trivial⟩ ?_
        refine WO_skip rfl rfl ?_
        refine WO_pure tbok 4 [(6, .bool false)] rfl ⟨rfl, trivial⟩ ?_
        refine WO_end ?_
        cases hm
        exact WK_ret (ret_out (L := []) (RLc_tmp rfl RLc_nil) (List.nil_sublist _) rfl)
    · have hm := ifF hb5 hm
      refine WO_pure tbok 3 [(0, .int .u64 p0), (1, .int .u64 p1), (2, .int .u64 p2), (6, .bool false), (7, .int .i64 y_2), (19, .bool false)] rfl ⟨rfl, rfl, rfl, rfl, rfl, rfl, trivial⟩ ?_
      refine WO_skip rfl rfl ?_
      refine WO_pure tbok 13 [(1, .int .u64 p1), (2, .int .u64 p2), (6, .bool false), (7, .int .i64 y_2), (34, .bool false)] rfl ⟨rfl, rfl, rfl, rfl, rfl, trivial⟩ ?_
      refine WO_skip rfl rfl ?_
      refine WO_pure tbok 3 [(6, .bool false), (34, .bool false)] rfl ⟨rfl, rfl, trivial⟩ ?_
      refine WO_skip rfl rfl ?_
      refine WO_pure tbok 4 [(6, .bool false)] rfl ⟨rfl, trivial⟩ ?_
      refine WO_end ?_
      cases hm
      exact WK_ret (ret_out (L := []) (RLc_tmp rfl RLc_nil) (List.nil_sublist _) rfl)
theorem fiduciallaw21_few_walk {m : Mu} {p0_0 : Int} {p0_1 : Int} {p0_2 : Int} {p0_3 : List Int} {p1 : List (Int × Int × Int × Int × Int × Int × Int × Int)} {a_p0_3 : Option Addr} {q_p0_3 c_p0_3 : Nat} {a_p1 : Option Addr} {q_p1 c_p1 : Nat} (h_p0_3 : SlR (FE (I1 .i64)) 1 m (.slice a_p0_3 q_p0_3 c_p0_3) p0_3) (h_p1 : SlR (FE T8) 8 m (.slice a_p1 q_p1 c_p1) p1) {r : Bool} (hm : fiduciallaw21_few p0_0 p0_1 p0_2 p0_3 p1 = some r) :
    Go.E.Spec Try.prog 14 [.agg #[.int .i64 p0_0, .int .i64 p0_1, .int .i64 p0_2, .slice a_p0_3 q_p0_3 c_p0_3], .slice a_p1 q_p1 c_p1] m (fun v _ _ => v = .bool r) := by
  refine Spec_enter Try.func14 rfl rfl rfl (fun w0 => ?_)
  refine WK.sub (e' := [(0, .agg #[.int .i64 p0_0, .int .i64 p0_1, .int .i64 p0_2, .slice a_p0_3 q_p0_3 c_p0_3]), (1, .slice a_p1 q_p1 c_p1)]) ⟨rfl, rfl, trivial⟩ ?_
  obtain rfl := SlR.qlen h_p0_3
  obtain rfl := SlR.qlen h_p1
  refine WK.sub (e' := [(0, .agg #[.int .i64 p0_0, .int .i64 p0_1, .int .i64 p0_2, .slice a_p0_3 p0_3.length c_p0_3]), (1, .slice a_p1 p1.length c_p1)]) ⟨rfl, rfl, trivial⟩ ?_
  unfold fiduciallaw21_few at hm
  refine WK_seq ?_
  refine WK_region ?_
  refine WO_box [.int .i64 p0_0, .int .i64 p0_1, .int .i64 p0_2, .slice a_p0_3 p0_3.length c_p0_3] rfl rfl trivial rfl rfl rfl (fun b3 => ?_)
  refine WO.cls (C' := St w0 m m [[⟨b3, 29, [.int .i64 p0_0, .int .i64 p0_1, .int .i64 p0_2, .slice a_p0_3 p0_3.length c_p0_3]⟩]]) (fun _ h => h) ?_
  refine WO_pure tbok 1 [(1, .slice a_p1 p1.length c_p1), (2, .pointer (some ⟨b3, 0, none⟩)), (4, .bool false)] rfl ⟨rfl, rfl, rfl, trivial⟩ ?_
  refine WO_end ?_
  refine WK_seq ?_
  refine WK_region ?_
  refine WO_pure tbok 1 [(1, .slice a_p1 p1.length c_p1), (4, .bool false), (5, .pointer (some ⟨b3, 3, none⟩))] rfl ⟨rfl, rfl, rfl, trivial⟩ ?_
  refine WO_loadB tbok 0 rfl rfl rfl rfl (fun _ h => h) rfl rfl ?_
  refine WO_pure tbok 3 [(1, .slice a_p1 p1.length c_p1), (4, .bool false), (9, .bool (decide ((p0_3.length : Int) ≤ 600)))] rfl ⟨rfl, rfl, rfl, trivial⟩ ?_
  refine WO_split (d := 9) (b := decide ((p0_3.length : Int) ≤ 600)) rfl (fun hb4 => ?_) (fun hb4 => ?_)
  · have hm := ifT hb4 hm
    refine WO_pure tbok 5 [(4, .bool (decide ((p1.length : Int) ≤ 70)))] rfl ⟨rfl, trivial⟩ ?_
    refine WO_end ?_
    cases hm
    exact WK_ret (ret_out (L := []) (RLc_tmp rfl RLc_nil) (List.nil_sublist _) rfl)
  · have hm := ifF hb4 hm
    refine WO_pure tbok 5 [(4, .bool false)] rfl ⟨rfl, trivial⟩ ?_
    refine WO_end ?_
    cases hm
    exact WK_ret (ret_out (L := []) (RLc_tmp rfl RLc_nil) (List.nil_sublist _) rfl)
theorem fiducialref13_Check_walk {m : Mu} {p0_0 : Int} {p0_1 : Int} {p0_2 : Int} {p0_3 : List Int} {a_p0_3 : Option Addr} {q_p0_3 c_p0_3 : Nat} (h_p0_3 : SlR (FE (I1 .i64)) 1 m (.slice a_p0_3 q_p0_3 c_p0_3) p0_3) {r : Int} (hm : fiducialref13_Check p0_0 p0_1 p0_2 p0_3 = some r) :
    Go.E.Spec Try.prog 25 [.agg #[.int .i64 p0_0, .int .i64 p0_1, .int .i64 p0_2, .slice a_p0_3 q_p0_3 c_p0_3]] m (fun v _ _ => v = .int .i64 r) := by
  refine Spec_enter Try.func25 rfl rfl rfl (fun w0 => ?_)
  refine WK.sub (e' := [(0, .agg #[.int .i64 p0_0, .int .i64 p0_1, .int .i64 p0_2, .slice a_p0_3 q_p0_3 c_p0_3])]) ⟨rfl, trivial⟩ ?_
  obtain rfl := SlR.qlen h_p0_3
  refine WK.sub (e' := [(0, .agg #[.int .i64 p0_0, .int .i64 p0_1, .int .i64 p0_2, .slice a_p0_3 p0_3.length c_p0_3])]) ⟨rfl, trivial⟩ ?_
  unfold fiducialref13_Check at hm
  refine WK_seq ?_
  refine WK_region ?_
  refine WO_box [.int .i64 p0_0, .int .i64 p0_1, .int .i64 p0_2, .slice a_p0_3 p0_3.length c_p0_3] rfl rfl trivial rfl rfl rfl (fun b2 => ?_)
  refine WO.cls (C' := St w0 m m [[⟨b2, 29, [.int .i64 p0_0, .int .i64 p0_1, .int .i64 p0_2, .slice a_p0_3 p0_3.length c_p0_3]⟩]]) (fun _ h => h) ?_
  refine WO_pure tbok 1 [(1, .pointer (some ⟨b2, 0, none⟩)), (2, .int .i64 0)] rfl ⟨rfl, rfl, trivial⟩ ?_
  refine WO_end ?_
  refine WK_seq ?_
  refine WK_seq ?_
  obtain ⟨s_1, hx3, hm⟩ := bind_some hm
  refine WK_meet [(1, .pointer (some ⟨b2, 0, none⟩)), (2, .int .i64 0), (42, .bool s_1)] (St w0 m m [[⟨b2, 29, [.int .i64 p0_0, .int .i64 p0_1, .int .i64 p0_2, .slice a_p0_3 p0_3.length c_p0_3]⟩]]) ?_ (fun hk4 => ?_)
  · refine WK_cond (b := s_1) rfl (fun hb5 => ?_) (fun hb5 => ?_)
    · have hm := ifT hb5 hm
      refine WK_seq ?_
      refine WK_region ?_
      refine WO_pure tbok 1 [(1, .pointer (some ⟨b2, 0, none⟩)), (2, .int .i64 1)] rfl ⟨rfl, rfl, trivial⟩ ?_
      refine WO_end ?_
      cases hm
      exact WK_ret (ret_out (L := []) (RLc_tmp rfl RLc_nil) (List.nil_sublist _) rfl)
    · have hm := ifF hb5 hm
      refine WK_skip ?_
      refine WK_seq ?_
      refine WK_seq ?_
      refine WK_region ?_
      refine WO_pure tbok 1 [(1, .pointer (some ⟨b2, 0, none⟩)), (2, .int .i64 0), (3, .int .i64 0)] rfl ⟨rfl, rfl, rfl, trivial⟩ ?_
      refine WO_end ?_
      obtain ⟨x6, hx7, hm⟩ := bind_some hm
      refine WK_join (β := Unit × Unit) (fun p => Sum.inr p.1 = x6) (fun p => [(2, .int .i64 0)]) (fun p => St w0 m m [[⟨b2, 29, [.int .i64 p0_0, .int .i64 p0_1, .int .i64 p0_2, .slice a_p0_3 p0_3.length c_p0_3]⟩]]) ?_ (fun hk8 => ?_)
      · rintro ⟨⟨⟩, ⟨⟩⟩ hq14
        subst hq14
        refine WK.sub (e' := [(2, .int .i64 0)]) ⟨rfl, trivial⟩ (WK.cls (C' := St w0 m m [[⟨b2, 29, [.int .i64 p0_0, .int .i64 p0_1, .int .i64 p0_2, .slice a_p0_3 p0_3.length c_p0_3]⟩]]) (fun _ h => h) ?_)
        refine WK_seq ?_
        refine WK_region ?_
        refine WO_pure tbok 1 [(2, .int .i64 0)] rfl ⟨rfl, trivial⟩ ?_
        refine WO_end ?_
        cases hm
        exact WK_ret (ret_out (L := []) (RLc_tmp rfl RLc_nil) (List.nil_sublist _) rfl)
      · refine WK_block ?_
        refine WK_loop (S := Int) (G := Unit) (fun s => fiducialref13_Check_s1 p0_2 p0_3 s) (fun s g => [(1, .pointer (some ⟨b2, 0, none⟩)), (2, .int .i64 0), (3, .int .i64 s)]) (fun s g => St w0 m m [[⟨b2, 29, [.int .i64 p0_0, .int .i64 p0_1, .int .i64 p0_2, .slice a_p0_3 p0_3.length c_p0_3]⟩]]) (fun s g => True) FUEL 0 () x6 hx7 trivial ⟨rfl, rfl, rfl, trivial⟩ (fun _ h => h) ?_
        rintro s_2 ⟨⟩ o10 fl11 hm9 - hn12 hd13
        have hm9 : fiducialref13_Check_s1 p0_2 p0_3 s_2 = some o10 := hm9
        unfold fiducialref13_Check_s1 at hm9
        refine WK.sub (e' := [(1, .pointer (some ⟨b2, 0, none⟩)), (2, .int .i64 0), (3, .int .i64 s_2)]) ⟨rfl, rfl, rfl, trivial⟩ (WK.cls (C' := St w0 m m [[⟨b2, 29, [.int .i64 p0_0, .int .i64 p0_1, .int .i64 p0_2, .slice a_p0_3 p0_3.length c_p0_3]⟩]]) (fun _ h => h) ?_)
        refine WK_seq ?_
        refine WK_seq ?_
        refine WK_region ?_
        refine WO_pure tbok 2 [(1, .pointer (some ⟨b2, 0, none⟩)), (2, .int .i64 0), (3, .int .i64 s_2), (43, .int .i64 s_2), (44, .pointer (some ⟨b2, 3, none⟩))] rfl ⟨rfl, rfl, rfl, rfl, rfl, trivial⟩ ?_
        refine WO_loadB tbok 0 rfl rfl rfl rfl (fun _ h => h) rfl rfl ?_
        refine WO_pure tbok 2 [(1, .pointer (some ⟨b2, 0, none⟩)), (2, .int .i64 0), (3, .int .i64 s_2), (47, .bool (decide (s_2 < (p0_3.length : Int))))] rfl ⟨rfl, rfl, rfl, rfl, trivial⟩ ?_
        refine WO_end ?_
        refine WK_cond (b := decide (s_2 < (p0_3.length : Int))) rfl (fun hb15 => ?_) (fun hb15 => ?_)
        · have hm9 := ifT hb15 hm9
          refine WK_skip ?_
          refine WK_seq ?_
          refine WK_block ?_
          refine WK_seq ?_
          obtain ⟨s_3, hx16, hm9⟩ := bind_some hm9
          refine WK_meet [(1, .pointer (some ⟨b2, 0, none⟩)), (2, .int .i64 0), (3, .int .i64 s_2), (65, .bool s_3)] (St w0 m m [[⟨b2, 29, [.int .i64 p0_0, .int .i64 p0_1, .int .i64 p0_2, .slice a_p0_3 p0_3.length c_p0_3]⟩]]) ?_ (fun hk17 => ?_)
          · refine WK_cond (b := s_3) rfl (fun hb18 => ?_) (fun hb18 => ?_)
            · have hm9 := ifT hb18 hm9
              refine WK_seq ?_
              refine WK_region ?_
              refine WO_pure tbok 1 [(1, .pointer (some ⟨b2, 0, none⟩)), (2, .int .i64 1), (3, .int .i64 s_2)] rfl ⟨rfl, rfl, rfl, trivial⟩ ?_
              refine WO_end ?_
              cases hm9
              have hq := hd13 _ rfl
              subst hq
              have hm : some _ = some _ := hm
              cases hm
              exact WK_ret (ret_out (L := []) (RLc_tmp rfl RLc_nil) (List.nil_sublist _) rfl)
            · have hm9 := ifF hb18 hm9
              refine WK_skip ?_
              refine WK_blk ?_
              refine WK_region ?_
              refine WO_pure tbok 3 [(1, .pointer (some ⟨b2, 0, none⟩)), (2, .int .i64 0), (3, .int .i64 (w64 (s_2 + 1)))] rfl ⟨rfl, rfl, rfl, trivial⟩ ?_
              refine WO_end ?_
              cases hm9
              refine WK.sub ?_ (WK.cls (fun _ h => h) (hn12 _ () rfl trivial))
              exact ⟨rfl, rfl, rfl, trivial⟩
          · refine WK_draw 16 [0, 1, 2, 3, 4, 5, 6, 7, 8, 9, 10, 11, 12, 13, 14, 15] follows_ok (by kernel_rfl) St_closed ?_
            refine WO_pure tbok 1 [(1, .pointer (some ⟨b2, 0, none⟩)), (2, .int .i64 0), (3, .int .i64 s_2), (50, .pointer (some ⟨b2, 3, none⟩))] rfl ⟨rfl, rfl, rfl, rfl, trivial⟩ ?_
            refine WO_loadB tbok 0 rfl rfl rfl rfl (fun _ h => h) rfl rfl ?_
            refine WO_pure tbok 1 [(1, .pointer (some ⟨b2, 0, none⟩)), (2, .int .i64 0), (3, .int .i64 s_2), (51, .slice a_p0_3 p0_3.length c_p0_3), (52, .int .i64 s_2)] rfl ⟨rfl, rfl, rfl, rfl, rfl, trivial⟩ ?_
            obtain ⟨v_4, hy19, hx16⟩ := bind_some hx16
            obtain ⟨hc20, hy19⟩ := ix_some hy19
            refine WO_index tbok rfl rfl rfl rfl rfl rfl rfl rfl (SlR.addr h_p0_3) hc20 ?_
            refine WO_loadE tbok rfl rfl rfl rfl (fun _ h => St.sat h) h_p0_3 hy19 rfl ?_
            refine WO_pure tbok 2 [(1, .pointer (some ⟨b2, 0, none⟩)), (2, .int .i64 0), (3, .int .i64 s_2), (56, .bool (decide (v_4 < 0)))] rfl ⟨rfl, rfl, rfl, rfl, trivial⟩ ?_
            refine WO_split (d := 56) (b := decide (v_4 < 0)) rfl (fun hb21 => ?_) (fun hb21 => ?_)
            · have hx16 := ifT hb21 hx16
              refine WO_pure tbok 9 [(1, .pointer (some ⟨b2, 0, none⟩)), (2, .int .i64 0), (3, .int .i64 s_2), (65, .bool true)] rfl ⟨rfl, rfl, rfl, rfl, trivial⟩ ?_
              refine WO_tail ?_
              refine WO_end ?_
              cases hx16
              refine WK.sub ?_ (WK.cls (fun _ h => h) hk17)
              exact ⟨rfl, rfl, rfl, rfl, trivial⟩
            · have hx16 := ifF hb21 hx16
              refine WO_pure tbok 1 [(1, .pointer (some ⟨b2, 0, none⟩)), (2, .int .i64 0), (3, .int .i64 s_2), (56, .bool false), (57, .pointer (some ⟨b2, 3, none⟩))] rfl ⟨rfl, rfl, rfl, rfl, rfl, trivial⟩ ?_
              refine WO_loadB tbok 0 rfl rfl rfl rfl (fun _ h => h) rfl rfl ?_
              refine WO_pure tbok 1 [(1, .pointer (some ⟨b2, 0, none⟩)), (2, .int .i64 0), (3, .int .i64 s_2), (56, .bool false), (58, .slice a_p0_3 p0_3.length c_p0_3), (59, .int .i64 s_2)] rfl ⟨rfl, rfl, rfl, rfl, rfl, rfl, trivial⟩ ?_
              obtain ⟨v_5, hy22, hx16⟩ := bind_some hx16
              obtain ⟨hc23, hy22⟩ := ix_some hy22
              refine WO_index tbok rfl rfl rfl rfl rfl rfl rfl rfl (SlR.addr h_p0_3) hc23 ?_
              refine WO_loadE tbok rfl rfl rfl rfl (fun _ h => St.sat h) h_p0_3 hy22 rfl ?_
              refine WO_pure tbok 1 [(1, .pointer (some ⟨b2, 0, none⟩)), (2, .int .i64 0), (3, .int .i64 s_2), (56, .bool false), (61, .int .i64 v_5), (62, .pointer (some ⟨b2, 2, none⟩))] rfl ⟨rfl, rfl, rfl, rfl, rfl, rfl, trivial⟩ ?_
              refine WO_loadB tbok 0 rfl rfl rfl rfl (fun _ h => h) rfl rfl ?_
              refine WO_pure tbok 2 [(1, .pointer (some ⟨b2, 0, none⟩)), (2, .int .i64 0), (3, .int .i64 s_2), (65, .bool (decide (p0_2 < v_5)))] rfl ⟨rfl, rfl, rfl, rfl, trivial⟩ ?_
              refine WO_tail ?_
              refine WO_end ?_
              cases hx16
              refine WK.sub ?_ (WK.cls (fun _ h => h) hk17)
              exact ⟨rfl, rfl, rfl, rfl, trivial⟩
        · have hm9 := ifF hb15 hm9
          refine WK_exit rfl ?_
          cases hm9
          refine WK.sub ?_ (WK.cls (fun _ h => h) (hk8 ((), ()) (hd13 _ rfl)))
          exact ⟨rfl, trivial⟩
  · refine WK_region ?_
    refine WO_pure tbok 1 [(1, .pointer (some ⟨b2, 0, none⟩)), (2, .int .i64 0), (4, .pointer (some ⟨b2, 0, none⟩))] rfl ⟨rfl, rfl, rfl, trivial⟩ ?_
    refine WO_loadB tbok 0 rfl rfl rfl rfl (fun _ h => h) rfl rfl ?_
    refine WO_pure tbok 2 [(1, .pointer (some ⟨b2, 0, none⟩)), (2, .int .i64 0), (7, .bool (decide (p0_0 < 1)))] rfl ⟨rfl, rfl, rfl, trivial⟩ ?_
    refine WO_split (d := 7) (b := decide (p0_0 < 1)) rfl (fun hb24 => ?_) (fun hb24 => ?_)
    · have hx3 := ifT hb24 hx3
      refine WO_pure tbok 35 [(1, .pointer (some ⟨b2, 0, none⟩)), (2, .int .i64 0), (42, .bool true)] rfl ⟨rfl, rfl, rfl, trivial⟩ ?_
      refine WO_end ?_
      cases hx3
      refine WK.sub ?_ (WK.cls (fun _ h => h) hk4)
      exact ⟨rfl, rfl, rfl, trivial⟩
    · have hx3 := ifF hb24 hx3
      refine WO_pure tbok 1 [(1, .pointer (some ⟨b2, 0, none⟩)), (2, .int .i64 0), (7, .bool false), (8, .pointer (some ⟨b2, 0, none⟩))] rfl ⟨rfl, rfl, rfl, rfl, trivial⟩ ?_
      refine WO_loadB tbok 0 rfl rfl rfl rfl (fun _ h => h) rfl rfl ?_
      refine WO_pure tbok 3 [(1, .pointer (some ⟨b2, 0, none⟩)), (2, .int .i64 0), (12, .bool (decide (64 < p0_0)))] rfl ⟨rfl, rfl, rfl, trivial⟩ ?_
      refine WO_split (d := 12) (b := decide (64 < p0_0)) rfl (fun hb25 => ?_) (fun hb25 => ?_)
      · have hx3 := ifT hb25 hx3
        refine WO_pure tbok 30 [(1, .pointer (some ⟨b2, 0, none⟩)), (2, .int .i64 0), (42, .bool true)] rfl ⟨rfl, rfl, rfl, trivial⟩ ?_
        refine WO_end ?_
        cases hx3
        refine WK.sub ?_ (WK.cls (fun _ h => h) hk4)
        exact ⟨rfl, rfl, rfl, trivial⟩
      · have hx3 := ifF hb25 hx3
        refine WO_pure tbok 1 [(1, .pointer (some ⟨b2, 0, none⟩)), (2, .int .i64 0), (12, .bool false), (13, .pointer (some ⟨b2, 1, none⟩))] rfl ⟨rfl, rfl, rfl, rfl, trivial⟩ ?_
        refine WO_loadB tbok 0 rfl rfl rfl rfl (fun _ h => h) rfl rfl ?_
        refine WO_pure tbok 3 [(1, .pointer (some ⟨b2, 0, none⟩)), (2, .int .i64 0), (17, .bool (decide (p0_1 < 1)))] rfl ⟨rfl, rfl, rfl, trivial⟩ ?_
        refine WO_split (d := 17) (b := decide (p0_1 < 1)) rfl (fun hb26 => ?_) (fun hb26 => ?_)
        · have hx3 := ifT hb26 hx3
          refine WO_pure tbok 25 [(1, .pointer (some ⟨b2, 0, none⟩)), (2, .int .i64 0), (42, .bool true)] rfl ⟨rfl, rfl, rfl, trivial⟩ ?_
          refine WO_end ?_
          cases hx3
          refine WK.sub ?_ (WK.cls (fun _ h => h) hk4)
          exact ⟨rfl, rfl, rfl, trivial⟩
        · have hx3 := ifF hb26 hx3
          refine WO_pure tbok 1 [(1, .pointer (some ⟨b2, 0, none⟩)), (2, .int .i64 0), (17, .bool false), (18, .pointer (some ⟨b2, 1, none⟩))] rfl ⟨rfl, rfl, rfl, rfl, trivial⟩ ?_
          refine WO_loadB tbok 0 rfl rfl rfl rfl (fun _ h => h) rfl rfl ?_
          refine WO_pure tbok 3 [(1, .pointer (some ⟨b2, 0, none⟩)), (2, .int .i64 0), (22, .bool (decide (64 < p0_1)))] rfl ⟨rfl, rfl, rfl, trivial⟩ ?_
          refine WO_split (d := 22) (b := decide (64 < p0_1)) rfl (fun hb27 => ?_) (fun hb27 => ?_)
          · have hx3 := ifT hb27 hx3
            refine WO_pure tbok 20 [(1, .pointer (some ⟨b2, 0, none⟩)), (2, .int .i64 0), (42, .bool true)] rfl ⟨rfl, rfl, rfl, trivial⟩ ?_
            refine WO_end ?_
            cases hx3
            refine WK.sub ?_ (WK.cls (fun _ h => h) hk4)
            exact ⟨rfl, rfl, rfl, trivial⟩
          · have hx3 := ifF hb27 hx3
            refine WO_pure tbok 1 [(1, .pointer (some ⟨b2, 0, none⟩)), (2, .int .i64 0), (22, .bool false), (23, .pointer (some ⟨b2, 2, none⟩))] rfl ⟨rfl, rfl, rfl, rfl, trivial⟩ ?_
            refine WO_loadB tbok 0 rfl rfl rfl rfl (fun _ h => h) rfl rfl ?_
            refine WO_pure tbok 3 [(1, .pointer (some ⟨b2, 0, none⟩)), (2, .int .i64 0), (27, .bool (decide (p0_2 < 1)))] rfl ⟨rfl, rfl, rfl, trivial⟩ ?_
            refine WO_split (d := 27) (b := decide (p0_2 < 1)) rfl (fun hb28 => ?_) (fun hb28 => ?_)
            · have hx3 := ifT hb28 hx3
              refine WO_pure tbok 15 [(1, .pointer (some ⟨b2, 0, none⟩)), (2, .int .i64 0), (42, .bool true)] rfl ⟨rfl, rfl, rfl, trivial⟩ ?_
              refine WO_end ?_
              cases hx3
              refine WK.sub ?_ (WK.cls (fun _ h => h) hk4)
              exact ⟨rfl, rfl, rfl, trivial⟩
            · have hx3 := ifF hb28 hx3
              refine WO_pure tbok 1 [(1, .pointer (some ⟨b2, 0, none⟩)), (2, .int .i64 0), (27, .bool false), (28, .pointer (some ⟨b2, 2, none⟩))] rfl ⟨rfl, rfl, rfl, rfl, trivial⟩ ?_
              refine WO_loadB tbok 0 rfl rfl rfl rfl (fun _ h => h) rfl rfl ?_
              refine WO_pure tbok 3 [(1, .pointer (some ⟨b2, 0, none⟩)), (2, .int .i64 0), (32, .bool (decide (65535 < p0_2)))] rfl ⟨rfl, rfl, rfl, trivial⟩ ?_
              refine WO_split (d := 32) (b := decide (65535 < p0_2)) rfl (fun hb29 => ?_) (fun hb29 => ?_)
              · have hx3 := ifT hb29 hx3
                refine WO_pure tbok 10 [(1, .pointer (some ⟨b2, 0, none⟩)), (2, .int .i64 0), (42, .bool true)] rfl ⟨rfl, rfl, rfl, trivial⟩ ?_
                refine WO_end ?_
                cases hx3
                refine WK.sub ?_ (WK.cls (fun _ h => h) hk4)
                exact ⟨rfl, rfl, rfl, trivial⟩
              · have hx3 := ifF hb29 hx3
                refine WO_pure tbok 1 [(1, .pointer (some ⟨b2, 0, none⟩)), (2, .int .i64 0), (32, .bool false), (33, .pointer (some ⟨b2, 3, none⟩))] rfl ⟨rfl, rfl, rfl, rfl, trivial⟩ ?_
                refine WO_loadB tbok 0 rfl rfl rfl rfl (fun _ h => h) rfl rfl ?_
                refine WO_pure tbok 2 [(1, .pointer (some ⟨b2, 0, none⟩)), (2, .int .i64 0), (32, .bool false), (35, .int .i64 (p0_3.length : Int)), (36, .pointer (some ⟨b2, 0, none⟩))] rfl ⟨rfl, rfl, rfl, rfl, rfl, trivial⟩ ?_
                refine WO_loadB tbok 0 rfl rfl rfl rfl (fun _ h => h) rfl rfl ?_
                refine WO_pure tbok 1 [(1, .pointer (some ⟨b2, 0, none⟩)), (2, .int .i64 0), (32, .bool false), (35, .int .i64 (p0_3.length : Int)), (37, .int .i64 p0_0), (38, .pointer (some ⟨b2, 1, none⟩))] rfl ⟨rfl, rfl, rfl, rfl, rfl, rfl, trivial⟩ ?_
                refine WO_loadB tbok 0 rfl rfl rfl rfl (fun _ h => h) rfl rfl ?_
                refine WO_pure tbok 3 [(1, .pointer (some ⟨b2, 0, none⟩)), (2, .int .i64 0), (42, .bool ((p0_3.length : Int) != (w64 (p0_0 * p0_1))))] rfl ⟨rfl, rfl, rfl, trivial⟩ ?_
                refine WO_end ?_
                cases hx3
                refine WK.sub ?_ (WK.cls (fun _ h => h) hk4)
                exact ⟨rfl, rfl, rfl, trivial⟩
theorem fiduciallaw21_box_walk {m : Mu} {p0_0 : Int} {p0_1 : Int} {p0_2 : Int} {p0_3 : Int}   {r : Bool} (hm : fiduciallaw21_box p0_0 p0_1 p0_2 p0_3 = some r) :
    Go.E.Spec Try.prog 43 [.agg #[.int .i64 p0_0, .int .i64 p0_1, .int .i64 p0_2, .int .i64 p0_3]] m (fun v _ _ => v = .bool r) := by
  refine Spec_enter Try.func43 rfl rfl rfl (fun w0 => ?_)
  refine WK.sub (e' := [(0, .agg #[.int .i64 p0_0, .int .i64 p0_1, .int .i64 p0_2, .int .i64 p0_3])]) ⟨rfl, trivial⟩ ?_
  refine WK.sub (e' := [(0, .agg #[.int .i64 p0_0, .int .i64 p0_1, .int .i64 p0_2, .int .i64 p0_3])]) ⟨rfl, trivial⟩ ?_
  unfold fiduciallaw21_box at hm
  refine WK_seq ?_
  refine WK_region ?_
  refine WO_box [.int .i64 p0_0, .int .i64 p0_1, .int .i64 p0_2, .int .i64 p0_3] rfl rfl trivial rfl rfl rfl (fun b1 => ?_)
  refine WO.cls (C' := St w0 m m [[⟨b1, 44, [.int .i64 p0_0, .int .i64 p0_1, .int .i64 p0_2, .int .i64 p0_3]⟩]]) (fun _ h => h) ?_
  refine WO_pure tbok 1 [(1, .pointer (some ⟨b1, 0, none⟩)), (2, .bool false)] rfl ⟨rfl, rfl, trivial⟩ ?_
  refine WO_end ?_
  refine WK_seq ?_
  refine WK_region ?_
  refine WO_pure tbok 1 [(1, .pointer (some ⟨b1, 0, none⟩)), (2, .bool false), (3, .pointer (some ⟨b1, 0, none⟩))] rfl ⟨rfl, rfl, rfl, trivial⟩ ?_
  refine WO_loadB tbok 0 rfl rfl rfl rfl (fun _ h => h) rfl rfl ?_
  refine WO_pure tbok 2 [(1, .pointer (some ⟨b1, 0, none⟩)), (2, .bool false), (6, .bool (decide ((-16) ≤ p0_0)))] rfl ⟨rfl, rfl, rfl, trivial⟩ ?_
  refine WO_split (d := 6) (b := decide ((-16) ≤ p0_0)) rfl (fun hb2 => ?_) (fun hb2 => ?_)
  · have hm := ifT hb2 hm
    refine WO_pure tbok 1 [(1, .pointer (some ⟨b1, 0, none⟩)), (2, .bool false), (6, .bool true), (7, .pointer (some ⟨b1, 1, none⟩))] rfl ⟨rfl, rfl, rfl, rfl, trivial⟩ ?_
    refine WO_loadB tbok 0 rfl rfl rfl rfl (fun _ h => h) rfl rfl ?_
    refine WO_pure tbok 3 [(1, .pointer (some ⟨b1, 0, none⟩)), (2, .bool false), (11, .bool (decide ((-16) ≤ p0_1)))] rfl ⟨rfl, rfl, rfl, trivial⟩ ?_
    refine WO_split (d := 11) (b := decide ((-16) ≤ p0_1)) rfl (fun hb3 => ?_) (fun hb3 => ?_)
    · have hm := ifT hb3 hm
      refine WO_pure tbok 1 [(1, .pointer (some ⟨b1, 0, none⟩)), (2, .bool false), (11, .bool true), (12, .pointer (some ⟨b1, 2, none⟩))] rfl ⟨rfl, rfl, rfl, rfl, trivial⟩ ?_
      refine WO_loadB tbok 0 rfl rfl rfl rfl (fun _ h => h) rfl rfl ?_
      refine WO_pure tbok 3 [(1, .pointer (some ⟨b1, 0, none⟩)), (2, .bool false), (16, .bool (decide (1 ≤ p0_2)))] rfl ⟨rfl, rfl, rfl, trivial⟩ ?_
      refine WO_split (d := 16) (b := decide (1 ≤ p0_2)) rfl (fun hb4 => ?_) (fun hb4 => ?_)
      · have hm := ifT hb4 hm
        refine WO_pure tbok 1 [(1, .pointer (some ⟨b1, 0, none⟩)), (2, .bool false), (16, .bool true), (17, .pointer (some ⟨b1, 2, none⟩))] rfl ⟨rfl, rfl, rfl, rfl, trivial⟩ ?_
        refine WO_loadB tbok 0 rfl rfl rfl rfl (fun _ h => h) rfl rfl ?_
        refine WO_pure tbok 3 [(1, .pointer (some ⟨b1, 0, none⟩)), (2, .bool false), (21, .bool (decide (p0_2 ≤ 8)))] rfl ⟨rfl, rfl, rfl, trivial⟩ ?_
        refine WO_split (d := 21) (b := decide (p0_2 ≤ 8)) rfl (fun hb5 => ?_) (fun hb5 => ?_)
        · have hm := ifT hb5 hm
          refine WO_pure tbok 1 [(1, .pointer (some ⟨b1, 0, none⟩)), (2, .bool false), (21, .bool true), (22, .pointer (some ⟨b1, 3, none⟩))] rfl ⟨rfl, rfl, rfl, rfl, trivial⟩ ?_
          refine WO_loadB tbok 0 rfl rfl rfl rfl (fun _ h => h) rfl rfl ?_
          refine WO_pure tbok 3 [(1, .pointer (some ⟨b1, 0, none⟩)), (2, .bool false), (26, .bool (decide (1 ≤ p0_3)))] rfl ⟨rfl, rfl, rfl, trivial⟩ ?_
          refine WO_split (d := 26) (b := decide (1 ≤ p0_3)) rfl (fun hb6 => ?_) (fun hb6 => ?_)
          · have hm := ifT hb6 hm
            refine WO_pure tbok 1 [(1, .pointer (some ⟨b1, 0, none⟩)), (2, .bool false), (26, .bool true), (27, .pointer (some ⟨b1, 3, none⟩))] rfl ⟨rfl, rfl, rfl, rfl, trivial⟩ ?_
            refine WO_loadB tbok 0 rfl rfl rfl rfl (fun _ h => h) rfl rfl ?_
            refine WO_pure tbok 3 [(1, .pointer (some ⟨b1, 0, none⟩)), (2, .bool false), (31, .bool (decide (p0_3 ≤ 8)))] rfl ⟨rfl, rfl, rfl, trivial⟩ ?_
            refine WO_split (d := 31) (b := decide (p0_3 ≤ 8)) rfl (fun hb7 => ?_) (fun hb7 => ?_)
            · have hm := ifT hb7 hm
              refine WO_pure tbok 1 [(1, .pointer (some ⟨b1, 0, none⟩)), (2, .bool false), (31, .bool true), (32, .pointer (some ⟨b1, 0, none⟩))] rfl ⟨rfl, rfl, rfl, rfl, trivial⟩ ?_
              refine WO_loadB tbok 0 rfl rfl rfl rfl (fun _ h => h) rfl rfl ?_
              refine WO_pure tbok 1 [(1, .pointer (some ⟨b1, 0, none⟩)), (2, .bool false), (31, .bool true), (33, .int .i64 p0_0), (34, .pointer (some ⟨b1, 2, none⟩))] rfl ⟨rfl, rfl, rfl, rfl, rfl, trivial⟩ ?_
              refine WO_loadB tbok 0 rfl rfl rfl rfl (fun _ h => h) rfl rfl ?_
              refine WO_pure tbok 4 [(1, .pointer (some ⟨b1, 0, none⟩)), (2, .bool false), (39, .bool (decide (p0_0 ≤ (w64 (17 - p0_2)))))] rfl ⟨rfl, rfl, rfl, trivial⟩ ?_
              refine WO_split (d := 39) (b := decide (p0_0 ≤ (w64 (17 - p0_2)))) rfl (fun hb8 => ?_) (fun hb8 => ?_)
              · have hm := ifT hb8 hm
                refine WO_pure tbok 1 [(1, .pointer (some ⟨b1, 0, none⟩)), (2, .bool false), (39, .bool true), (40, .pointer (some ⟨b1, 1, none⟩))] rfl ⟨rfl, rfl, rfl, rfl, trivial⟩ ?_
                refine WO_loadB tbok 0 rfl rfl rfl rfl (fun _ h => h) rfl rfl ?_
                refine WO_pure tbok 1 [(2, .bool false), (39, .bool true), (41, .int .i64 p0_1), (42, .pointer (some ⟨b1, 3, none⟩))] rfl ⟨rfl, rfl, rfl, rfl, trivial⟩ ?_
                refine WO_loadB tbok 0 rfl rfl rfl rfl (fun _ h => h) rfl rfl ?_
                refine WO_pure tbok 4 [(2, .bool (decide (p0_1 ≤ (w64 (17 - p0_3)))))] rfl ⟨rfl, trivial⟩ ?_
                refine WO_end ?_
                cases hm
                exact WK_ret (ret_out (L := []) (RLc_tmp rfl RLc_nil) (List.nil_sublist _) rfl)
              · have hm := ifF hb8 hm
                refine WO_pure tbok 8 [(2, .bool false)] rfl ⟨rfl, trivial⟩ ?_
                refine WO_end ?_
                cases hm
                exact WK_ret (ret_out (L := []) (RLc_tmp rfl RLc_nil) (List.nil_sublist _) rfl)
            · have hm := ifF hb7 hm
              refine WO_pure tbok 16 [(2, .bool false)] rfl ⟨rfl, trivial⟩ ?_
              refine WO_end ?_
              cases hm
              exact WK_ret (ret_out (L := []) (RLc_tmp rfl RLc_nil) (List.nil_sublist _) rfl)
          · have hm := ifF hb6 hm
            refine WO_pure tbok 21 [(2, .bool false)] rfl ⟨rfl, trivial⟩ ?_
            refine WO_end ?_
            cases hm
            exact WK_ret (ret_out (L := []) (RLc_tmp rfl RLc_nil) (List.nil_sublist _) rfl)
        · have hm := ifF hb5 hm
          refine WO_pure tbok 26 [(2, .bool false)] rfl ⟨rfl, trivial⟩ ?_
          refine WO_end ?_
          cases hm
          exact WK_ret (ret_out (L := []) (RLc_tmp rfl RLc_nil) (List.nil_sublist _) rfl)
      · have hm := ifF hb4 hm
        refine WO_pure tbok 31 [(2, .bool false)] rfl ⟨rfl, trivial⟩ ?_
        refine WO_end ?_
        cases hm
        exact WK_ret (ret_out (L := []) (RLc_tmp rfl RLc_nil) (List.nil_sublist _) rfl)
    · have hm := ifF hb3 hm
      refine WO_pure tbok 36 [(2, .bool false)] rfl ⟨rfl, trivial⟩ ?_
      refine WO_end ?_
      cases hm
      exact WK_ret (ret_out (L := []) (RLc_tmp rfl RLc_nil) (List.nil_sublist _) rfl)
  · have hm := ifF hb2 hm
    refine WO_pure tbok 41 [(2, .bool false)] rfl ⟨rfl, trivial⟩ ?_
    refine WO_end ?_
    cases hm
    exact WK_ret (ret_out (L := []) (RLc_tmp rfl RLc_nil) (List.nil_sublist _) rfl)
theorem fiduciallaw21_pattern_walk {m : Mu} {p0 : List (Int × Int × Int × Int × Int × Int × Int × Int)} {a_p0 : Option Addr} {q_p0 c_p0 : Nat} (h_p0 : SlR (FE T8) 8 m (.slice a_p0 q_p0 c_p0) p0) {r : Bool} (hm : fiduciallaw21_pattern p0 = some r) :
    Go.E.Spec Try.prog 20 [.slice a_p0 q_p0 c_p0] m (fun v _ _ => v = .bool r) := by
  refine Spec_enter Try.func20 rfl rfl rfl (fun w0 => ?_)
  refine WK.sub (e' := [(0, .slice a_p0 q_p0 c_p0)]) ⟨rfl, trivial⟩ ?_
  obtain rfl := SlR.qlen h_p0
  refine WK.sub (e' := [(0, .slice a_p0 p0.length c_p0)]) ⟨rfl, trivial⟩ ?_
  unfold fiduciallaw21_pattern at hm
  refine WK_seq ?_
  refine WK_region ?_
  refine WO_pure tbok 1 [(0, .slice a_p0 p0.length c_p0), (2, .bool false)] rfl ⟨rfl, rfl, trivial⟩ ?_
  refine WO_end ?_
  refine WK_seq ?_
  refine WK_seq ?_
  obtain ⟨s_1, hx2, hm⟩ := bind_some hm
  refine WK_meet [(0, .slice a_p0 p0.length c_p0), (2, .bool false), (12, .bool s_1)] (St w0 m m []) ?_ (fun hk3 => ?_)
  · refine WK_cond (b := s_1) rfl (fun hb4 => ?_) (fun hb4 => ?_)
    · have hm := ifT hb4 hm
      refine WK_seq ?_
      refine WK_region ?_
      refine WO_pure tbok 1 [(0, .slice a_p0 p0.length c_p0), (2, .bool false)] rfl ⟨rfl, rfl, trivial⟩ ?_
      refine WO_end ?_
      cases hm
      exact WK_ret (ret_out (L := []) (RLc_tmp rfl RLc_nil) (List.nil_sublist _) rfl)
    · have hm := ifF hb4 hm
      refine WK_skip ?_
      refine WK_seq ?_
      refine WK_seq ?_
      refine WK_region ?_
      refine WO_pure tbok 3 [(2, .bool false), (13, .slice a_p0 p0.length c_p0), (14, .int .i64 (p0.length : Int)), (15, .int .i64 0)] rfl ⟨rfl, rfl, rfl, rfl, trivial⟩ ?_
      refine WO_end ?_
      obtain ⟨x5, hx6, hm⟩ := bind_some hm
      refine WK_join (β := Unit × Unit) (fun p => Sum.inr p.1 = x5) (fun p => [(2, .bool false)]) (fun p => St w0 m m []) ?_ (fun hk7 => ?_)
      · rintro ⟨⟨⟩, ⟨⟩⟩ hq13
        subst hq13
        refine WK.sub (e' := [(2, .bool false)]) ⟨rfl, trivial⟩ (WK.cls (C' := St w0 m m []) (fun _ h => h) ?_)
        refine WK_seq ?_
        refine WK_region ?_
        refine WO_pure tbok 1 [(2, .bool true)] rfl ⟨rfl, trivial⟩ ?_
        refine WO_end ?_
        cases hm
        exact WK_ret (ret_out (L := []) (RLc_tmp rfl RLc_nil) (List.nil_sublist _) rfl)
      · refine WK_block ?_
        refine WK_loop (S := Int) (G := Unit) (fun s => fiduciallaw21_pattern_s1 p0 s) (fun s g => [(2, .bool false), (13, .slice a_p0 p0.length c_p0), (14, .int .i64 (p0.length : Int)), (15, .int .i64 s)]) (fun s g => St w0 m m []) (fun s g => True) FUEL 0 () x5 hx6 trivial ⟨rfl, rfl, rfl, rfl, trivial⟩ (fun _ h => h) ?_
        rintro s_2 ⟨⟩ o9 fl10 hm8 - hn11 hd12
        have hm8 : fiduciallaw21_pattern_s1 p0 s_2 = some o9 := hm8
        unfold fiduciallaw21_pattern_s1 at hm8
        refine WK.sub (e' := [(2, .bool false), (13, .slice a_p0 p0.length c_p0), (14, .int .i64 (p0.length : Int)), (15, .int .i64 s_2)]) ⟨rfl, rfl, rfl, rfl, trivial⟩ (WK.cls (C' := St w0 m m []) (fun _ h => h) ?_)
        refine WK_seq ?_
        refine WK_region ?_
        refine WO_pure tbok 1 [(2, .bool false), (13, .slice a_p0 p0.length c_p0), (14, .int .i64 (p0.length : Int)), (15, .int .i64 s_2), (16, .bool (decide (s_2 < (p0.length : Int))))] rfl ⟨rfl, rfl, rfl, rfl, rfl, trivial⟩ ?_
        refine WO_end ?_
        refine WK_seq ?_
        refine WK_cond (b := decide (s_2 < (p0.length : Int))) rfl (fun hb14 => ?_) (fun hb14 => ?_)
        · have hm8 := ifT hb14 hm8
          refine WK_skip ?_
          refine WK_seq ?_
          refine WK_block ?_
          refine WK_seq ?_
          refine WK_region ?_
          obtain ⟨v_3, hy15, hm8⟩ := bind_some hm8
          obtain ⟨hc16, hy15⟩ := ix_some hy15
          refine WO_index tbok rfl rfl rfl rfl rfl rfl rfl rfl (SlR.addr h_p0) hc16 ?_
          refine WO_loadE tbok rfl rfl rfl rfl (fun _ h => St.sat h) h_p0 hy15 rfl ?_
          refine WO_alloc tbok [.int .i64 0, .int .i64 0, .int .i64 0, .int .i64 0, .int .i64 0, .int .i64 0, .int .i64 0, .int .i64 0] rfl rfl trivial rfl rfl rfl rfl (fun b17 => ?_)
          refine WO.cls (C' := St w0 m m [[⟨b17, 46, [.int .i64 0, .int .i64 0, .int .i64 0, .int .i64 0, .int .i64 0, .int .i64 0, .int .i64 0, .int .i64 0]⟩]]) (fun _ h => h) ?_
          refine WO_storeB tbok 0 [.int .i64 v_3.1, .int .i64 v_3.2.1, .int .i64 v_3.2.2.1, .int .i64 v_3.2.2.2.1, .int .i64 v_3.2.2.2.2.1, .int .i64 v_3.2.2.2.2.2.1, .int .i64 v_3.2.2.2.2.2.2.1, .int .i64 v_3.2.2.2.2.2.2.2] rfl rfl rfl rfl rfl rfl rfl ?_
          refine WO.cls (C' := St w0 m m [[⟨b17, 46, [.int .i64 v_3.1, .int .i64 v_3.2.1, .int .i64 v_3.2.2.1, .int .i64 v_3.2.2.2.1, .int .i64 v_3.2.2.2.2.1, .int .i64 v_3.2.2.2.2.2.1, .int .i64 v_3.2.2.2.2.2.2.1, .int .i64 v_3.2.2.2.2.2.2.2]⟩]]) (fun _ h => h) ?_
          refine WO_end ?_
          refine WK_seq ?_
          obtain ⟨s_4, hx18, hm8⟩ := bind_some hm8
          refine WK_meet [(2, .bool false), (13, .slice a_p0 p0.length c_p0), (14, .int .i64 (p0.length : Int)), (15, .int .i64 s_2), (28, .bool s_4)] (St w0 m m [[⟨b17, 46, [.int .i64 v_3.1, .int .i64 v_3.2.1, .int .i64 v_3.2.2.1, .int .i64 v_3.2.2.2.1, .int .i64 v_3.2.2.2.2.1, .int .i64 v_3.2.2.2.2.2.1, .int .i64 v_3.2.2.2.2.2.2.1, .int .i64 v_3.2.2.2.2.2.2.2]⟩]]) ?_ (fun hk19 => ?_)
          · refine WK_cond (b := s_4) rfl (fun hb20 => ?_) (fun hb20 => ?_)
            · have hm8 := ifT hb20 hm8
              refine WK_seq ?_
              refine WK_region ?_
              refine WO_pure tbok 1 [(2, .bool false), (13, .slice a_p0 p0.length c_p0), (14, .int .i64 (p0.length : Int)), (15, .int .i64 s_2)] rfl ⟨rfl, rfl, rfl, rfl, trivial⟩ ?_
              refine WO_end ?_
              cases hm8
              have hq := hd12 _ rfl
              subst hq
              have hm : some _ = some _ := hm
              cases hm
              exact WK_ret (ret_out (L := []) (RLc_tmp rfl RLc_nil) (List.nil_sublist _) rfl)
            · have hm8 := ifF hb20 hm8
              refine WK_skip ?_
              refine WK_blk ?_
              refine WK_region ?_
              refine WO_pure tbok 2 [(2, .bool false), (13, .slice a_p0 p0.length c_p0), (14, .int .i64 (p0.length : Int)), (15, .int .i64 (w64 (s_2 + 1)))] rfl ⟨rfl, rfl, rfl, rfl, trivial⟩ ?_
              refine WO_end ?_
              cases hm8
              refine WK.sub ?_ (WK.cls (fun _ h => St.take 0 h) (hn11 _ () rfl trivial))
              exact ⟨rfl, rfl, rfl, rfl, trivial⟩
          · refine WK_region ?_
            refine WO_pure tbok 1 [(2, .bool false), (4, .pointer (some ⟨b17, 0, none⟩)), (13, .slice a_p0 p0.length c_p0), (14, .int .i64 (p0.length : Int)), (15, .int .i64 s_2), (19, .pointer (some ⟨b17, 0, none⟩))] rfl ⟨rfl, rfl, rfl, rfl, rfl, rfl, trivial⟩ ?_
            refine WO_loadB tbok 0 rfl rfl rfl rfl (fun _ h => h) rfl rfl ?_
            obtain ⟨y_5, hc21, hx18⟩ := bind_some hx18
            refine WO_call0 (.bool y_5) rfl rfl trivial rfl rfl rfl rfl St_closed ⟨43, #[], #[], rfl, callable_43, fun w hw => ⟨_, hw.sat, fiduciallaw21_box_walk hc21⟩⟩ ?_
            refine WO_pure tbok 2 [(2, .bool false), (4, .pointer (some ⟨b17, 0, none⟩)), (13, .slice a_p0 p0.length c_p0), (14, .int .i64 (p0.length : Int)), (15, .int .i64 s_2), (23, .bool (!y_5))] rfl ⟨rfl, rfl, rfl, rfl, rfl, rfl, trivial⟩ ?_
            refine WO_split (d := 23) (b := !y_5) rfl (fun hb22 => ?_) (fun hb22 => ?_)
            · have hx18 := ifT hb22 hx18
              refine WO_pure tbok 2 [(2, .bool false), (13, .slice a_p0 p0.length c_p0), (14, .int .i64 (p0.length : Int)), (15, .int .i64 s_2), (23, .bool true)] rfl ⟨rfl, rfl, rfl, rfl, rfl, trivial⟩ ?_
              refine WO_skip rfl rfl ?_
              refine WO_pure tbok 2 [(2, .bool false), (13, .slice a_p0 p0.length c_p0), (14, .int .i64 (p0.length : Int)), (15, .int .i64 s_2), (28, .bool true)] rfl ⟨rfl, rfl, rfl, rfl, rfl, trivial⟩ ?_
              refine WO_end ?_
              cases hx18
              refine WK.sub ?_ (WK.cls (fun _ h => h) hk19)
              exact ⟨rfl, rfl, rfl, rfl, rfl, trivial⟩
            · have hx18 := ifF hb22 hx18
              refine WO_pure tbok 1 [(2, .bool false), (13, .slice a_p0 p0.length c_p0), (14, .int .i64 (p0.length : Int)), (15, .int .i64 s_2), (23, .bool false), (24, .pointer (some ⟨b17, 4, none⟩))] rfl ⟨rfl, rfl, rfl, rfl, rfl, rfl, trivial⟩ ?_
              refine WO_loadB tbok 0 rfl rfl rfl rfl (fun _ h => h) rfl rfl ?_
              obtain ⟨y_6, hc23, hx18⟩ := bind_some hx18
              refine WO_call0 (.bool y_6) rfl rfl trivial rfl rfl rfl rfl St_closed ⟨43, #[], #[], rfl, callable_43, fun w hw => ⟨_, hw.sat, fiduciallaw21_box_walk hc23⟩⟩ ?_
              refine WO_pure tbok 2 [(2, .bool false), (13, .slice a_p0 p0.length c_p0), (14, .int .i64 (p0.length : Int)), (15, .int .i64 s_2), (28, .bool (!y_6))] rfl ⟨rfl, rfl, rfl, rfl, rfl, trivial⟩ ?_
              refine WO_end ?_
              cases hx18
              refine WK.sub ?_ (WK.cls (fun _ h => h) hk19)
              exact ⟨rfl, rfl, rfl, rfl, rfl, trivial⟩
        · have hm8 := ifF hb14 hm8
          refine WK_exit rfl ?_
          cases hm8
          refine WK.sub ?_ (WK.cls (fun _ h => h) (hk7 ((), ()) (hd12 _ rfl)))
          exact ⟨rfl, trivial⟩
  · refine WK_region ?_
    refine WO_pure tbok 4 [(0, .slice a_p0 p0.length c_p0), (2, .bool false), (8, .bool (decide ((p0.length : Int) < 1)))] rfl ⟨rfl, rfl, rfl, trivial⟩ ?_
    refine WO_split (d := 8) (b := decide ((p0.length : Int) < 1)) rfl (fun hb24 => ?_) (fun hb24 => ?_)
    · have hx2 := ifT hb24 hx2
      refine WO_pure tbok 4 [(0, .slice a_p0 p0.length c_p0), (2, .bool false), (12, .bool true)] rfl ⟨rfl, rfl, rfl, trivial⟩ ?_
      refine WO_end ?_
      cases hx2
      refine WK.sub ?_ (WK.cls (fun _ h => h) hk3)
      exact ⟨rfl, rfl, rfl, trivial⟩
    · have hx2 := ifF hb24 hx2
      refine WO_pure tbok 4 [(0, .slice a_p0 p0.length c_p0), (2, .bool false), (12, .bool (decide (64 < (p0.length : Int))))] rfl ⟨rfl, rfl, rfl, trivial⟩ ?_
      refine WO_end ?_
      cases hx2
      refine WK.sub ?_ (WK.cls (fun _ h => h) hk3)
      exact ⟨rfl, rfl, rfl, trivial⟩
theorem fiduciallaw21_code_walk {m : Mu} {p0_0 : Int} {p0_1 : Int} {p0_2 : Int} {p0_3 : List Int} {p1 : List (Int × Int × Int × Int × Int × Int × Int × Int)} {a_p0_3 : Option Addr} {q_p0_3 c_p0_3 : Nat} {a_p1 : Option Addr} {q_p1 c_p1 : Nat} (h_p0_3 : SlR (FE (I1 .i64)) 1 m (.slice a_p0_3 q_p0_3 c_p0_3) p0_3) (h_p1 : SlR (FE T8) 8 m (.slice a_p1 q_p1 c_p1) p1) {r : Int} (hm : fiduciallaw21_code p0_0 p0_1 p0_2 p0_3 p1 = some r) :
    Go.E.Spec Try.prog 16 [.agg #[.int .i64 p0_0, .int .i64 p0_1, .int .i64 p0_2, .slice a_p0_3 q_p0_3 c_p0_3], .slice a_p1 q_p1 c_p1] m (fun v _ _ => v = .int .i64 r) := by
  refine Spec_enter Try.func16 rfl rfl rfl (fun w0 => ?_)
  refine WK.sub (e' := [(0, .agg #[.int .i64 p0_0, .int .i64 p0_1, .int .i64 p0_2, .slice a_p0_3 q_p0_3 c_p0_3]), (1, .slice a_p1 q_p1 c_p1)]) ⟨rfl, rfl, trivial⟩ ?_
  obtain rfl := SlR.qlen h_p0_3
  obtain rfl := SlR.qlen h_p1
  refine WK.sub (e' := [(0, .agg #[.int .i64 p0_0, .int .i64 p0_1, .int .i64 p0_2, .slice a_p0_3 p0_3.length c_p0_3]), (1, .slice a_p1 p1.length c_p1)]) ⟨rfl, rfl, trivial⟩ ?_
  unfold fiduciallaw21_code at hm
  refine WK_seq ?_
  refine WK_region ?_
  refine WO_box [.int .i64 p0_0, .int .i64 p0_1, .int .i64 p0_2, .slice a_p0_3 p0_3.length c_p0_3] rfl rfl trivial rfl rfl rfl (fun b3 => ?_)
  refine WO.cls (C' := St w0 m m [[⟨b3, 29, [.int .i64 p0_0, .int .i64 p0_1, .int .i64 p0_2, .slice a_p0_3 p0_3.length c_p0_3]⟩]]) (fun _ h => h) ?_
  refine WO_pure tbok 1 [(1, .slice a_p1 p1.length c_p1), (2, .pointer (some ⟨b3, 0, none⟩)), (4, .int .i64 0)] rfl ⟨rfl, rfl, rfl, trivial⟩ ?_
  refine WO_end ?_
  refine WK_seq ?_
  refine WK_seq ?_
  obtain ⟨s_1, hx4, hm⟩ := bind_some hm
  refine WK_meet [(4, .int .i64 0), (12, .bool s_1)] (St w0 m m [[⟨b3, 29, [.int .i64 p0_0, .int .i64 p0_1, .int .i64 p0_2, .slice a_p0_3 p0_3.length c_p0_3]⟩]]) ?_ (fun hk5 => ?_)
  · refine WK_cond (b := s_1) rfl (fun hb6 => ?_) (fun hb6 => ?_)
    · have hm := ifT hb6 hm
      refine WK_seq ?_
      refine WK_region ?_
      refine WO_pure tbok 1 [(4, .int .i64 1)] rfl ⟨rfl, trivial⟩ ?_
      refine WO_end ?_
      cases hm
      exact WK_ret (ret_out (L := []) (RLc_tmp rfl RLc_nil) (List.nil_sublist _) rfl)
    · have hm := ifF hb6 hm
      refine WK_skip ?_
      refine WK_seq ?_
      refine WK_region ?_
      refine WO_pure tbok 1 [(4, .int .i64 0)] rfl ⟨rfl, trivial⟩ ?_
      refine WO_end ?_
      cases hm
      exact WK_ret (ret_out (L := []) (RLc_tmp rfl RLc_nil) (List.nil_sublist _) rfl)
  · refine WK_region ?_
    refine WO_loadB tbok 0 rfl rfl rfl rfl (fun _ h => h) rfl rfl ?_
    obtain ⟨y_2, hc7, hx4⟩ := bind_some hx4
    refine WO_call0 (.int .i64 y_2) rfl rfl trivial rfl rfl rfl rfl St_closed ⟨25, #[], #[], rfl, callable_25, fun w hw => ⟨_, hw.sat, fiducialref13_Check_walk h_p0_3 hc7⟩⟩ ?_
    refine WO_pure tbok 2 [(1, .slice a_p1 p1.length c_p1), (4, .int .i64 0), (8, .bool (y_2 != 0))] rfl ⟨rfl, rfl, rfl, trivial⟩ ?_
    refine WO_split (d := 8) (b := y_2 != 0) rfl (fun hb8 => ?_) (fun hb8 => ?_)
    · have hx4 := ifT hb8 hx4
      refine WO_pure tbok 1 [(4, .int .i64 0), (8, .bool true)] rfl ⟨rfl, rfl, trivial⟩ ?_
      refine WO_skip rfl rfl ?_
      refine WO_pure tbok 2 [(4, .int .i64 0), (12, .bool true)] rfl ⟨rfl, rfl, trivial⟩ ?_
      refine WO_end ?_
      cases hx4
      refine WK.sub ?_ (WK.cls (fun _ h => h) hk5)
      exact ⟨rfl, rfl, trivial⟩
    · have hx4 := ifF hb8 hx4
      refine WO_pure tbok 1 [(4, .int .i64 0), (8, .bool false), (9, .slice a_p1 p1.length c_p1)] rfl ⟨rfl, rfl, rfl, trivial⟩ ?_
      obtain ⟨y_3, hc9, hx4⟩ := bind_some hx4
      refine WO_call0 (.bool y_3) rfl rfl trivial rfl rfl rfl rfl St_closed ⟨20, #[], #[], rfl, callable_20, fun w hw => ⟨_, hw.sat, fiduciallaw21_pattern_walk h_p1 hc9⟩⟩ ?_
      refine WO_pure tbok 2 [(4, .int .i64 0), (12, .bool (!y_3))] rfl ⟨rfl, rfl, trivial⟩ ?_
      refine WO_end ?_
      cases hx4
      refine WK.sub ?_ (WK.cls (fun _ h => h) hk5)
      exact ⟨rfl, rfl, trivial⟩
theorem fiducialref13_Inside_walk {m : Mu} {p0_0 : Int} {p0_1 : Int} {p0_2 : Int} {p0_3 : List Int} {p1 : Int} {p2 : Int} {a_p0_3 : Option Addr} {q_p0_3 c_p0_3 : Nat} (h_p0_3 : SlR (FE (I1 .i64)) 1 m (.slice a_p0_3 q_p0_3 c_p0_3) p0_3) {r : Bool} (hm : fiducialref13_Inside p0_0 p0_1 p0_2 p0_3 p1 p2 = some r) :
    Go.E.Spec Try.prog 17 [.agg #[.int .i64 p0_0, .int .i64 p0_1, .int .i64 p0_2, .slice a_p0_3 q_p0_3 c_p0_3], .int .i64 p1, .int .i64 p2] m (fun v _ _ => v = .bool r) := by
  refine Spec_enter Try.func17 rfl rfl rfl (fun w0 => ?_)
  refine WK.sub (e' := [(0, .agg #[.int .i64 p0_0, .int .i64 p0_1, .int .i64 p0_2, .slice a_p0_3 q_p0_3 c_p0_3]), (1, .int .i64 p1), (2, .int .i64 p2)]) ⟨rfl, rfl, rfl, trivial⟩ ?_
  obtain rfl := SlR.qlen h_p0_3
  refine WK.sub (e' := [(0, .agg #[.int .i64 p0_0, .int .i64 p0_1, .int .i64 p0_2, .slice a_p0_3 p0_3.length c_p0_3]), (1, .int .i64 p1), (2, .int .i64 p2)]) ⟨rfl, rfl, rfl, trivial⟩ ?_
  unfold fiducialref13_Inside at hm
  refine WK_seq ?_
  refine WK_region ?_
  refine WO_box [.int .i64 p0_0, .int .i64 p0_1, .int .i64 p0_2, .slice a_p0_3 p0_3.length c_p0_3] rfl rfl trivial rfl rfl rfl (fun b2 => ?_)
  refine WO.cls (C' := St w0 m m [[⟨b2, 29, [.int .i64 p0_0, .int .i64 p0_1, .int .i64 p0_2, .slice a_p0_3 p0_3.length c_p0_3]⟩]]) (fun _ h => h) ?_
  refine WO_pure tbok 1 [(1, .int .i64 p1), (2, .int .i64 p2), (3, .pointer (some ⟨b2, 0, none⟩)), (6, .bool false)] rfl ⟨rfl, rfl, rfl, rfl, trivial⟩ ?_
  refine WO_end ?_
  refine WK_seq ?_
  refine WK_region ?_
  refine WO_pure tbok 3 [(1, .int .i64 p1), (2, .int .i64 p2), (3, .pointer (some ⟨b2, 0, none⟩)), (6, .bool false), (9, .bool (decide (0 ≤ p1)))] rfl ⟨rfl, rfl, rfl, rfl, rfl, trivial⟩ ?_
  refine WO_split (d := 9) (b := decide (0 ≤ p1)) rfl (fun hb3 => ?_) (fun hb3 => ?_)
  · have hm := ifT hb3 hm
    refine WO_pure tbok 2 [(2, .int .i64 p2), (3, .pointer (some ⟨b2, 0, none⟩)), (6, .bool false), (9, .bool true), (10, .int .i64 p1), (11, .pointer (some ⟨b2, 0, none⟩))] rfl ⟨rfl, rfl, rfl, rfl, rfl, rfl, trivial⟩ ?_
    refine WO_loadB tbok 0 rfl rfl rfl rfl (fun _ h => h) rfl rfl ?_
    refine WO_pure tbok 3 [(2, .int .i64 p2), (3, .pointer (some ⟨b2, 0, none⟩)), (6, .bool false), (15, .bool (decide (p1 < p0_0)))] rfl ⟨rfl, rfl, rfl, rfl, trivial⟩ ?_
    refine WO_split (d := 15) (b := decide (p1 < p0_0)) rfl (fun hb4 => ?_) (fun hb4 => ?_)
    · have hm := ifT hb4 hm
      refine WO_pure tbok 4 [(2, .int .i64 p2), (3, .pointer (some ⟨b2, 0, none⟩)), (6, .bool false), (19, .bool (decide (0 ≤ p2)))] rfl ⟨rfl, rfl, rfl, rfl, trivial⟩ ?_
      refine WO_split (d := 19) (b := decide (0 ≤ p2)) rfl (fun hb5 => ?_) (fun hb5 => ?_)
      · have hm := ifT hb5 hm
        refine WO_pure tbok 2 [(6, .bool false), (19, .bool true), (20, .int .i64 p2), (21, .pointer (some ⟨b2, 1, none⟩))] rfl ⟨rfl, rfl, rfl, rfl, trivial⟩ ?_
        refine WO_loadB tbok 0 rfl rfl rfl rfl (fun _ h => h) rfl rfl ?_
        refine WO_pure tbok 3 [(6, .bool (decide (p2 < p0_1)))] rfl ⟨rfl, trivial⟩ ?_
        refine WO_end ?_
        cases hm
        exact WK_ret (ret_out (L := []) (RLc_tmp rfl RLc_nil) (List.nil_sublist _) rfl)
      · have hm := ifF hb5 hm
        refine WO_pure tbok 6 [(6, .bool false)] rfl ⟨rfl, trivial⟩ ?_
        refine WO_end ?_
        cases hm
        exact WK_ret (ret_out (L := []) (RLc_tmp rfl RLc_nil) (List.nil_sublist _) rfl)
    · have hm := ifF hb4 hm
      refine WO_pure tbok 10 [(6, .bool false)] rfl ⟨rfl, trivial⟩ ?_
      refine WO_end ?_
      cases hm
      exact WK_ret (ret_out (L := []) (RLc_tmp rfl RLc_nil) (List.nil_sublist _) rfl)
  · have hm := ifF hb3 hm
    refine WO_pure tbok 16 [(6, .bool false)] rfl ⟨rfl, trivial⟩ ?_
    refine WO_end ?_
    cases hm
    exact WK_ret (ret_out (L := []) (RLc_tmp rfl RLc_nil) (List.nil_sublist _) rfl)
theorem fiduciallaw21_fits_walk {m : Mu} {p0_0 : Int} {p0_1 : Int} {p0_2 : Int} {p0_3 : List Int} {p1_0 : Int} {p1_1 : Int} {p1_2 : Int} {p1_3 : Int} {p2 : Int} {p3 : Int} {a_p0_3 : Option Addr} {q_p0_3 c_p0_3 : Nat} (h_p0_3 : SlR (FE (I1 .i64)) 1 m (.slice a_p0_3 q_p0_3 c_p0_3) p0_3) {r : Bool} (hm : fiduciallaw21_fits p0_0 p0_1 p0_2 p0_3 p1_0 p1_1 p1_2 p1_3 p2 p3 = some r) :
    Go.E.Spec Try.prog 39 [.agg #[.int .i64 p0_0, .int .i64 p0_1, .int .i64 p0_2, .slice a_p0_3 q_p0_3 c_p0_3], .agg #[.int .i64 p1_0, .int .i64 p1_1, .int .i64 p1_2, .int .i64 p1_3], .int .i64 p2, .int .i64 p3] m (fun v _ _ => v = .bool r) := by
  refine Spec_enter Try.func39 rfl rfl rfl (fun w0 => ?_)
  refine WK.sub (e' := [(0, .agg #[.int .i64 p0_0, .int .i64 p0_1, .int .i64 p0_2, .slice a_p0_3 q_p0_3 c_p0_3]), (1, .agg #[.int .i64 p1_0, .int .i64 p1_1, .int .i64 p1_2, .int .i64 p1_3]), (2, .int .i64 p2), (3, .int .i64 p3)]) ⟨rfl, rfl, rfl, rfl, trivial⟩ ?_
  obtain rfl := SlR.qlen h_p0_3
  refine WK.sub (e' := [(0, .agg #[.int .i64 p0_0, .int .i64 p0_1, .int .i64 p0_2, .slice a_p0_3 p0_3.length c_p0_3]), (1, .agg #[.int .i64 p1_0, .int .i64 p1_1, .int .i64 p1_2, .int .i64 p1_3]), (2, .int .i64 p2), (3, .int .i64 p3)]) ⟨rfl, rfl, rfl, rfl, trivial⟩ ?_
  unfold fiduciallaw21_fits at hm
  refine WK_seq ?_
  refine WK_region ?_
  refine WO_box [.int .i64 p0_0, .int .i64 p0_1, .int .i64 p0_2, .slice a_p0_3 p0_3.length c_p0_3] rfl rfl trivial rfl rfl rfl (fun b2 => ?_)
  refine WO.cls (C' := St w0 m m [[⟨b2, 29, [.int .i64 p0_0, .int .i64 p0_1, .int .i64 p0_2, .slice a_p0_3 p0_3.length c_p0_3]⟩]]) (fun _ h => h) ?_
  refine WO_box [.int .i64 p1_0, .int .i64 p1_1, .int .i64 p1_2, .int .i64 p1_3] rfl rfl trivial rfl rfl rfl (fun b3 => ?_)
  refine WO.cls (C' := St w0 m m [[⟨b2, 29, [.int .i64 p0_0, .int .i64 p0_1, .int .i64 p0_2, .slice a_p0_3 p0_3.length c_p0_3]⟩], [⟨b3, 44, [.int .i64 p1_0, .int .i64 p1_1, .int .i64 p1_2, .int .i64 p1_3]⟩]]) (fun _ h => h) ?_
  refine WO_pure tbok 1 [(2, .int .i64 p2), (3, .int .i64 p3), (4, .pointer (some ⟨b2, 0, none⟩)), (5, .pointer (some ⟨b3, 0, none⟩)), (8, .bool false)] rfl ⟨rfl, rfl, rfl, rfl, rfl, trivial⟩ ?_
  refine WO_end ?_
  refine WK_seq ?_
  refine WK_region ?_
  refine WO_loadB tbok 0 rfl rfl rfl rfl (fun _ h => h) rfl rfl ?_
  refine WO_pure tbok 2 [(2, .int .i64 p2), (3, .int .i64 p3), (4, .pointer (some ⟨b2, 0, none⟩)), (5, .pointer (some ⟨b3, 0, none⟩)), (8, .bool false), (9, .agg #[.int .i64 p0_0, .int .i64 p0_1, .int .i64 p0_2, .slice a_p0_3 p0_3.length c_p0_3]), (10, .int .i64 p2), (11, .pointer (some ⟨b3, 0, none⟩))] rfl ⟨rfl, rfl, rfl, rfl, rfl, rfl, rfl, rfl, trivial⟩ ?_
  refine WO_loadB tbok 1 rfl rfl rfl rfl (fun _ h => h) rfl rfl ?_
  refine WO_pure tbok 3 [(2, .int .i64 p2), (3, .int .i64 p3), (4, .pointer (some ⟨b2, 0, none⟩)), (5, .pointer (some ⟨b3, 0, none⟩)), (8, .bool false), (9, .agg #[.int .i64 p0_0, .int .i64 p0_1, .int .i64 p0_2, .slice a_p0_3 p0_3.length c_p0_3]), (13, .int .i64 (w64 (p2 + p1_0))), (14, .int .i64 p3), (15, .pointer (some ⟨b3, 1, none⟩))] rfl ⟨rfl, rfl, rfl, rfl, rfl, rfl, rfl, rfl, rfl, trivial⟩ ?_
  refine WO_loadB tbok 1 rfl rfl rfl rfl (fun _ h => h) rfl rfl ?_
  refine WO_pure tbok 1 [(2, .int .i64 p2), (3, .int .i64 p3), (4, .pointer (some ⟨b2, 0, none⟩)), (5, .pointer (some ⟨b3, 0, none⟩)), (8, .bool false), (9, .agg #[.int .i64 p0_0, .int .i64 p0_1, .int .i64 p0_2, .slice a_p0_3 p0_3.length c_p0_3]), (13, .int .i64 (w64 (p2 + p1_0))), (17, .int .i64 (w64 (p3 + p1_1)))] rfl ⟨rfl, rfl, rfl, rfl, rfl, rfl, rfl, rfl, trivial⟩ ?_
  obtain ⟨y_1, hc4, hm⟩ := bind_some hm
  refine WO_call0 (.bool y_1) rfl rfl trivial rfl rfl rfl rfl St_closed ⟨17, #[], #[], rfl, callable_17, fun w hw => ⟨_, hw.sat, fiducialref13_Inside_walk h_p0_3 hc4⟩⟩ ?_
  refine WO_pure tbok 1 [(2, .int .i64 p2), (3, .int .i64 p3), (4, .pointer (some ⟨b2, 0, none⟩)), (5, .pointer (some ⟨b3, 0, none⟩)), (8, .bool false), (19, .bool y_1)] rfl ⟨rfl, rfl, rfl, rfl, rfl, rfl, trivial⟩ ?_
  refine WO_split (d := 19) (b := y_1) rfl (fun hb5 => ?_) (fun hb5 => ?_)
  · have hm := ifT hb5 hm
    refine WO_loadB tbok 0 rfl rfl rfl rfl (fun _ h => h) rfl rfl ?_
    refine WO_pure tbok 2 [(3, .int .i64 p3), (5, .pointer (some ⟨b3, 0, none⟩)), (8, .bool false), (19, .bool true), (20, .agg #[.int .i64 p0_0, .int .i64 p0_1, .int .i64 p0_2, .slice a_p0_3 p0_3.length c_p0_3]), (21, .int .i64 p2), (22, .pointer (some ⟨b3, 0, none⟩))] rfl ⟨rfl, rfl, rfl, rfl, rfl, rfl, rfl, trivial⟩ ?_
    refine WO_loadB tbok 1 rfl rfl rfl rfl (fun _ h => h) rfl rfl ?_
    refine WO_pure tbok 2 [(3, .int .i64 p3), (5, .pointer (some ⟨b3, 0, none⟩)), (8, .bool false), (19, .bool true), (20, .agg #[.int .i64 p0_0, .int .i64 p0_1, .int .i64 p0_2, .slice a_p0_3 p0_3.length c_p0_3]), (24, .int .i64 (w64 (p2 + p1_0))), (25, .pointer (some ⟨b3, 2, none⟩))] rfl ⟨rfl, rfl, rfl, rfl, rfl, rfl, rfl, trivial⟩ ?_
    refine WO_loadB tbok 1 rfl rfl rfl rfl (fun _ h => h) rfl rfl ?_
    refine WO_pure tbok 4 [(5, .pointer (some ⟨b3, 0, none⟩)), (8, .bool false), (19, .bool true), (20, .agg #[.int .i64 p0_0, .int .i64 p0_1, .int .i64 p0_2, .slice a_p0_3 p0_3.length c_p0_3]), (28, .int .i64 (w64 ((w64 ((w64 (p2 + p1_0)) + p1_2)) - 1))), (29, .int .i64 p3), (30, .pointer (some ⟨b3, 1, none⟩))] rfl ⟨rfl, rfl, rfl, rfl, rfl, rfl, rfl, trivial⟩ ?_
    refine WO_loadB tbok 1 rfl rfl rfl rfl (fun _ h => h) rfl rfl ?_
    refine WO_pure tbok 2 [(8, .bool false), (19, .bool true), (20, .agg #[.int .i64 p0_0, .int .i64 p0_1, .int .i64 p0_2, .slice a_p0_3 p0_3.length c_p0_3]), (28, .int .i64 (w64 ((w64 ((w64 (p2 + p1_0)) + p1_2)) - 1))), (32, .int .i64 (w64 (p3 + p1_1))), (33, .pointer (some ⟨b3, 3, none⟩))] rfl ⟨rfl, rfl, rfl, rfl, rfl, rfl, trivial⟩ ?_
    refine WO_loadB tbok 1 rfl rfl rfl rfl (fun _ h => h) rfl rfl ?_
    refine WO_pure tbok 2 [(8, .bool false), (19, .bool true), (20, .agg #[.int .i64 p0_0, .int .i64 p0_1, .int .i64 p0_2, .slice a_p0_3 p0_3.length c_p0_3]), (28, .int .i64 (w64 ((w64 ((w64 (p2 + p1_0)) + p1_2)) - 1))), (36, .int .i64 (w64 ((w64 ((w64 (p3 + p1_1)) + p1_3)) - 1)))] rfl ⟨rfl, rfl, rfl, rfl, rfl, trivial⟩ ?_
    obtain ⟨y_2, hc6, hm⟩ := bind_some hm
    refine WO_call0 (.bool y_2) rfl rfl trivial rfl rfl rfl rfl St_closed ⟨17, #[], #[], rfl, callable_17, fun w hw => ⟨_, hw.sat, fiducialref13_Inside_walk h_p0_3 hc6⟩⟩ ?_
    refine WO_pure tbok 2 [(8, .bool y_2)] rfl ⟨rfl, trivial⟩ ?_
    refine WO_end ?_
    cases hm
    exact WK_ret (ret_out (L := []) (RLc_tmp rfl RLc_nil) (List.nil_sublist _) rfl)
  · have hm := ifF hb5 hm
    refine WO_pure tbok 17 [(8, .bool false), (19, .bool false)] rfl ⟨rfl, rfl, trivial⟩ ?_
    refine WO_skip rfl rfl ?_
    refine WO_pure tbok 2 [(8, .bool false)] rfl ⟨rfl, trivial⟩ ?_
    refine WO_end ?_
    cases hm
    exact WK_ret (ret_out (L := []) (RLc_tmp rfl RLc_nil) (List.nil_sublist _) rfl)
theorem fiducialref13_At_walk {m : Mu} {p0_0 : Int} {p0_1 : Int} {p0_2 : Int} {p0_3 : List Int} {p1 : Int} {p2 : Int} {a_p0_3 : Option Addr} {q_p0_3 c_p0_3 : Nat} (h_p0_3 : SlR (FE (I1 .i64)) 1 m (.slice a_p0_3 q_p0_3 c_p0_3) p0_3) {r : Int} (hm : fiducialref13_At p0_0 p0_1 p0_2 p0_3 p1 p2 = some r) :
    Go.E.Spec Try.prog 47 [.agg #[.int .i64 p0_0, .int .i64 p0_1, .int .i64 p0_2, .slice a_p0_3 q_p0_3 c_p0_3], .int .i64 p1, .int .i64 p2] m (fun v _ _ => v = .int .i64 r) := by
  refine Spec_enter Try.func47 rfl rfl rfl (fun w0 => ?_)
  refine WK.sub (e' := [(0, .agg #[.int .i64 p0_0, .int .i64 p0_1, .int .i64 p0_2, .slice a_p0_3 q_p0_3 c_p0_3]), (1, .int .i64 p1), (2, .int .i64 p2)]) ⟨rfl, rfl, rfl, trivial⟩ ?_
  obtain rfl := SlR.qlen h_p0_3
  refine WK.sub (e' := [(0, .agg #[.int .i64 p0_0, .int .i64 p0_1, .int .i64 p0_2, .slice a_p0_3 p0_3.length c_p0_3]), (1, .int .i64 p1), (2, .int .i64 p2)]) ⟨rfl, rfl, rfl, trivial⟩ ?_
  unfold fiducialref13_At at hm
  refine WK_seq ?_
  refine WK_region ?_
  refine WO_box [.int .i64 p0_0, .int .i64 p0_1, .int .i64 p0_2, .slice a_p0_3 p0_3.length c_p0_3] rfl rfl trivial rfl rfl rfl (fun b2 => ?_)
  refine WO.cls (C' := St w0 m m [[⟨b2, 29, [.int .i64 p0_0, .int .i64 p0_1, .int .i64 p0_2, .slice a_p0_3 p0_3.length c_p0_3]⟩]]) (fun _ h => h) ?_
  refine WO_pure tbok 1 [(1, .int .i64 p1), (2, .int .i64 p2), (3, .pointer (some ⟨b2, 0, none⟩)), (6, .int .i64 0)] rfl ⟨rfl, rfl, rfl, rfl, trivial⟩ ?_
  refine WO_end ?_
  refine WK_seq ?_
  refine WK_region ?_
  refine WO_pure tbok 1 [(1, .int .i64 p1), (2, .int .i64 p2), (3, .pointer (some ⟨b2, 0, none⟩)), (6, .int .i64 0), (7, .pointer (some ⟨b2, 3, none⟩))] rfl ⟨rfl, rfl, rfl, rfl, rfl, trivial⟩ ?_
  refine WO_loadB tbok 0 rfl rfl rfl rfl (fun _ h => h) rfl rfl ?_
  refine WO_pure tbok 2 [(1, .int .i64 p1), (6, .int .i64 0), (8, .slice a_p0_3 p0_3.length c_p0_3), (9, .int .i64 p2), (10, .pointer (some ⟨b2, 0, none⟩))] rfl ⟨rfl, rfl, rfl, rfl, rfl, trivial⟩ ?_
  refine WO_loadB tbok 0 rfl rfl rfl rfl (fun _ h => h) rfl rfl ?_
  refine WO_pure tbok 3 [(6, .int .i64 0), (8, .slice a_p0_3 p0_3.length c_p0_3), (14, .int .i64 (w64 ((w64 (p2 * p0_0)) + p1)))] rfl ⟨rfl, rfl, rfl, trivial⟩ ?_
  obtain ⟨v_1, hy3, hm⟩ := bind_some hm
  obtain ⟨hc4, hy3⟩ := ix_some hy3
  refine WO_index tbok rfl rfl rfl rfl rfl rfl rfl rfl (SlR.addr h_p0_3) hc4 ?_
  refine WO_loadE tbok rfl rfl rfl rfl (fun _ h => St.sat h) h_p0_3 hy3 rfl ?_
  refine WO_pure tbok 1 [(6, .int .i64 v_1)] rfl ⟨rfl, trivial⟩ ?_
  refine WO_end ?_
  cases hm
  exact WK_ret (ret_out (L := []) (RLc_tmp rfl RLc_nil) (List.nil_sublist _) rfl)
theorem fiducialref13_Sum_walk {m : Mu} {p0_0 : Int} {p0_1 : Int} {p0_2 : Int} {p0_3 : List Int} {p1 : Int} {p2 : Int} {p3 : Int} {p4 : Int} {a_p0_3 : Option Addr} {q_p0_3 c_p0_3 : Nat} (h_p0_3 : SlR (FE (I1 .i64)) 1 m (.slice a_p0_3 q_p0_3 c_p0_3) p0_3) {r : Int} (hm : fiducialref13_Sum p0_0 p0_1 p0_2 p0_3 p1 p2 p3 p4 = some r) :
    Go.E.Spec Try.prog 40 [.agg #[.int .i64 p0_0, .int .i64 p0_1, .int .i64 p0_2, .slice a_p0_3 q_p0_3 c_p0_3], .int .i64 p1, .int .i64 p2, .int .i64 p3, .int .i64 p4] m (fun v _ _ => v = .int .i64 r) := by
  refine Spec_enter Try.func40 rfl rfl rfl (fun w0 => ?_)
  refine WK.sub (e' := [(0, .agg #[.int .i64 p0_0, .int .i64 p0_1, .int .i64 p0_2, .slice a_p0_3 q_p0_3 c_p0_3]), (1, .int .i64 p1), (2, .int .i64 p2), (3, .int .i64 p3), (4, .int .i64 p4)]) ⟨rfl, rfl, rfl, rfl, rfl, trivial⟩ ?_
  obtain rfl := SlR.qlen h_p0_3
  refine WK.sub (e' := [(0, .agg #[.int .i64 p0_0, .int .i64 p0_1, .int .i64 p0_2, .slice a_p0_3 p0_3.length c_p0_3]), (1, .int .i64 p1), (2, .int .i64 p2), (3, .int .i64 p3), (4, .int .i64 p4)]) ⟨rfl, rfl, rfl, rfl, rfl, trivial⟩ ?_
  unfold fiducialref13_Sum at hm
  refine WK_seq ?_
  refine WK_region ?_
  refine WO_box [.int .i64 p0_0, .int .i64 p0_1, .int .i64 p0_2, .slice a_p0_3 p0_3.length c_p0_3] rfl rfl trivial rfl rfl rfl (fun b2 => ?_)
  refine WO.cls (C' := St w0 m m [[⟨b2, 29, [.int .i64 p0_0, .int .i64 p0_1, .int .i64 p0_2, .slice a_p0_3 p0_3.length c_p0_3]⟩]]) (fun _ h => h) ?_
  refine WO_pure tbok 1 [(1, .int .i64 p1), (2, .int .i64 p2), (3, .int .i64 p3), (4, .int .i64 p4), (5, .pointer (some ⟨b2, 0, none⟩)), (10, .int .i64 0)] rfl ⟨rfl, rfl, rfl, rfl, rfl, rfl, trivial⟩ ?_
  refine WO_end ?_
  refine WK_seq ?_
  refine WK_region ?_
  refine WO_pure tbok 1 [(1, .int .i64 p1), (2, .int .i64 p2), (3, .int .i64 p3), (4, .int .i64 p4), (5, .pointer (some ⟨b2, 0, none⟩)), (10, .int .i64 0), (11, .int .i64 0)] rfl ⟨rfl, rfl, rfl, rfl, rfl, rfl, rfl, trivial⟩ ?_
  refine WO_end ?_
  refine WK_seq ?_
  refine WK_seq ?_
  refine WK_region ?_
  refine WO_pure tbok 2 [(1, .int .i64 p1), (2, .int .i64 p2), (3, .int .i64 p3), (4, .int .i64 p4), (5, .pointer (some ⟨b2, 0, none⟩)), (10, .int .i64 0), (11, .int .i64 0), (12, .int .i64 p2)] rfl ⟨rfl, rfl, rfl, rfl, rfl, rfl, rfl, rfl, trivial⟩ ?_
  refine WO_end ?_
  obtain ⟨x3, hx4, hm⟩ := bind_some hm
  refine WK_join (β := Int × Unit) (fun p => p.1 = x3) (fun p => [(10, .int .i64 0), (11, .int .i64 p.1)]) (fun p => St w0 m m [[⟨b2, 29, [.int .i64 p0_0, .int .i64 p0_1, .int .i64 p0_2, .slice a_p0_3 p0_3.length c_p0_3]⟩]]) ?_ (fun hk5 => ?_)
  · rintro ⟨s_3, ⟨⟩⟩ hq11
    subst hq11
    refine WK.sub (e' := [(10, .int .i64 0), (11, .int .i64 s_3)]) ⟨rfl, rfl, trivial⟩ (WK.cls (C' := St w0 m m [[⟨b2, 29, [.int .i64 p0_0, .int .i64 p0_1, .int .i64 p0_2, .slice a_p0_3 p0_3.length c_p0_3]⟩]]) (fun _ h => h) ?_)
    refine WK_seq ?_
    refine WK_region ?_
    refine WO_pure tbok 2 [(10, .int .i64 s_3)] rfl ⟨rfl, trivial⟩ ?_
    refine WO_end ?_
    cases hm
    exact WK_ret (ret_out (L := []) (RLc_tmp rfl RLc_nil) (List.nil_sublist _) rfl)
  · refine WK_block ?_
    refine WK_loop (S := Int × Int) (G := Unit) (fun s => fiducialref13_Sum_s1 p0_0 p0_1 p0_2 p0_3 p1 p2 p3 p4 s.1 s.2) (fun s g => [(1, .int .i64 p1), (2, .int .i64 p2), (3, .int .i64 p3), (4, .int .i64 p4), (5, .pointer (some ⟨b2, 0, none⟩)), (10, .int .i64 0), (11, .int .i64 s.1), (12, .int .i64 s.2)]) (fun s g => St w0 m m [[⟨b2, 29, [.int .i64 p0_0, .int .i64 p0_1, .int .i64 p0_2, .slice a_p0_3 p0_3.length c_p0_3]⟩]]) (fun s g => True) FUEL (0, p2) () x3 hx4 trivial ⟨rfl, rfl, rfl, rfl, rfl, rfl, rfl, rfl, trivial⟩ (fun _ h => h) ?_
    rintro ⟨s_1, s_2⟩ ⟨⟩ o7 fl8 hm6 - hn9 hd10
    have hm6 : fiducialref13_Sum_s1 p0_0 p0_1 p0_2 p0_3 p1 p2 p3 p4 s_1 s_2 = some o7 := hm6
    unfold fiducialref13_Sum_s1 at hm6
    refine WK.sub (e' := [(1, .int .i64 p1), (2, .int .i64 p2), (3, .int .i64 p3), (4, .int .i64 p4), (5, .pointer (some ⟨b2, 0, none⟩)), (10, .int .i64 0), (11, .int .i64 s_1), (12, .int .i64 s_2)]) ⟨rfl, rfl, rfl, rfl, rfl, rfl, rfl, rfl, trivial⟩ (WK.cls (C' := St w0 m m [[⟨b2, 29, [.int .i64 p0_0, .int .i64 p0_1, .int .i64 p0_2, .slice a_p0_3 p0_3.length c_p0_3]⟩]]) (fun _ h => h) ?_)
    refine WK_seq ?_
    refine WK_seq ?_
    refine WK_region ?_
    refine WO_pure tbok 5 [(1, .int .i64 p1), (2, .int .i64 p2), (3, .int .i64 p3), (4, .int .i64 p4), (5, .pointer (some ⟨b2, 0, none⟩)), (10, .int .i64 0), (11, .int .i64 s_1), (12, .int .i64 s_2), (19, .bool (decide (s_2 < (w64 (p2 + p4)))))] rfl ⟨rfl, rfl, rfl, rfl, rfl, rfl, rfl, rfl, rfl, trivial⟩ ?_
    refine WO_end ?_
    refine WK_cond (b := decide (s_2 < (w64 (p2 + p4)))) rfl (fun hb12 => ?_) (fun hb12 => ?_)
    · have hm6 := ifT hb12 hm6
      refine WK_skip ?_
      refine WK_seq ?_
      refine WK_block ?_
      refine WK_seq ?_
      refine WK_region ?_
      refine WO_pure tbok 2 [(1, .int .i64 p1), (2, .int .i64 p2), (3, .int .i64 p3), (4, .int .i64 p4), (5, .pointer (some ⟨b2, 0, none⟩)), (10, .int .i64 0), (11, .int .i64 s_1), (12, .int .i64 s_2), (13, .int .i64 p1)] rfl ⟨rfl, rfl, rfl, rfl, rfl, rfl, rfl, rfl, rfl, trivial⟩ ?_
      refine WO_end ?_
      obtain ⟨x13, hx14, hm6⟩ := bind_some hm6
      refine WK_join (β := Int × Unit) (fun p => p.1 = x13) (fun p => [(1, .int .i64 p1), (2, .int .i64 p2), (3, .int .i64 p3), (4, .int .i64 p4), (5, .pointer (some ⟨b2, 0, none⟩)), (10, .int .i64 0), (11, .int .i64 p.1), (12, .int .i64 s_2)]) (fun p => St w0 m m [[⟨b2, 29, [.int .i64 p0_0, .int .i64 p0_1, .int .i64 p0_2, .slice a_p0_3 p0_3.length c_p0_3]⟩]]) ?_ (fun hk15 => ?_)
      · rintro ⟨s_6, ⟨⟩⟩ hq21
        subst hq21
        refine WK.sub (e' := [(1, .int .i64 p1), (2, .int .i64 p2), (3, .int .i64 p3), (4, .int .i64 p4), (5, .pointer (some ⟨b2, 0, none⟩)), (10, .int .i64 0), (11, .int .i64 s_6), (12, .int .i64 s_2)]) ⟨rfl, rfl, rfl, rfl, rfl, rfl, rfl, rfl, trivial⟩ (WK.cls (C' := St w0 m m [[⟨b2, 29, [.int .i64 p0_0, .int .i64 p0_1, .int .i64 p0_2, .slice a_p0_3 p0_3.length c_p0_3]⟩]]) (fun _ h => h) ?_)
        refine WK_blk ?_
        refine WK_region ?_
        refine WO_pure tbok 3 [(1, .int .i64 p1), (2, .int .i64 p2), (3, .int .i64 p3), (4, .int .i64 p4), (5, .pointer (some ⟨b2, 0, none⟩)), (10, .int .i64 0), (11, .int .i64 s_6), (12, .int .i64 (w64 (s_2 + 1)))] rfl ⟨rfl, rfl, rfl, rfl, rfl, rfl, rfl, rfl, trivial⟩ ?_
        refine WO_end ?_
        cases hm6
        refine WK.sub ?_ (WK.cls (fun _ h => h) (hn9 _ () rfl trivial))
        exact ⟨rfl, rfl, rfl, rfl, rfl, rfl, rfl, rfl, trivial⟩
      · refine WK_block ?_
        refine WK_loop (S := Int × Int) (G := Unit) (fun s => fiducialref13_Sum_s2 p0_0 p0_1 p0_2 p0_3 p1 p3 s_2 s.1 s.2) (fun s g => [(1, .int .i64 p1), (2, .int .i64 p2), (3, .int .i64 p3), (4, .int .i64 p4), (5, .pointer (some ⟨b2, 0, none⟩)), (10, .int .i64 0), (11, .int .i64 s.1), (12, .int .i64 s_2), (13, .int .i64 s.2)]) (fun s g => St w0 m m [[⟨b2, 29, [.int .i64 p0_0, .int .i64 p0_1, .int .i64 p0_2, .slice a_p0_3 p0_3.length c_p0_3]⟩]]) (fun s g => True) FUEL (s_1, p1) () x13 hx14 trivial ⟨rfl, rfl, rfl, rfl, rfl, rfl, rfl, rfl, rfl, trivial⟩ (fun _ h => h) ?_
        rintro ⟨s_4, s_5⟩ ⟨⟩ o17 fl18 hm16 - hn19 hd20
        have hm16 : fiducialref13_Sum_s2 p0_0 p0_1 p0_2 p0_3 p1 p3 s_2 s_4 s_5 = some o17 := hm16
        unfold fiducialref13_Sum_s2 at hm16
        refine WK.sub (e' := [(1, .int .i64 p1), (2, .int .i64 p2), (3, .int .i64 p3), (4, .int .i64 p4), (5, .pointer (some ⟨b2, 0, none⟩)), (10, .int .i64 0), (11, .int .i64 s_4), (12, .int .i64 s_2), (13, .int .i64 s_5)]) ⟨rfl, rfl, rfl, rfl, rfl, rfl, rfl, rfl, rfl, trivial⟩ (WK.cls (C' := St w0 m m [[⟨b2, 29, [.int .i64 p0_0, .int .i64 p0_1, .int .i64 p0_2, .slice a_p0_3 p0_3.length c_p0_3]⟩]]) (fun _ h => h) ?_)
        refine WK_seq ?_
        refine WK_seq ?_
        refine WK_region ?_
        refine WO_pure tbok 5 [(1, .int .i64 p1), (2, .int .i64 p2), (3, .int .i64 p3), (4, .int .i64 p4), (5, .pointer (some ⟨b2, 0, none⟩)), (10, .int .i64 0), (11, .int .i64 s_4), (12, .int .i64 s_2), (13, .int .i64 s_5), (27, .bool (decide (s_5 < (w64 (p1 + p3)))))] rfl ⟨rfl, rfl, rfl, rfl, rfl, rfl, rfl, rfl, rfl, rfl, trivial⟩ ?_
        refine WO_end ?_
        refine WK_cond (b := decide (s_5 < (w64 (p1 + p3)))) rfl (fun hb22 => ?_) (fun hb22 => ?_)
        · have hm16 := ifT hb22 hm16
          refine WK_skip ?_
          refine WK_seq ?_
          refine WK_block ?_
          refine WK_region ?_
          refine WO_pure tbok 1 [(1, .int .i64 p1), (2, .int .i64 p2), (3, .int .i64 p3), (4, .int .i64 p4), (5, .pointer (some ⟨b2, 0, none⟩)), (10, .int .i64 0), (11, .int .i64 s_4), (12, .int .i64 s_2), (13, .int .i64 s_5), (30, .int .i64 s_4)] rfl ⟨rfl, rfl, rfl, rfl, rfl, rfl, rfl, rfl, rfl, rfl, trivial⟩ ?_
          refine WO_loadB tbok 0 rfl rfl rfl rfl (fun _ h => h) rfl rfl ?_
          refine WO_pure tbok 2 [(1, .int .i64 p1), (2, .int .i64 p2), (3, .int .i64 p3), (4, .int .i64 p4), (5, .pointer (some ⟨b2, 0, none⟩)), (10, .int .i64 0), (11, .int .i64 s_4), (12, .int .i64 s_2), (13, .int .i64 s_5), (30, .int .i64 s_4), (31, .agg #[.int .i64 p0_0, .int .i64 p0_1, .int .i64 p0_2, .slice a_p0_3 p0_3.length c_p0_3]), (32, .int .i64 s_5), (33, .int .i64 s_2)] rfl ⟨rfl, rfl, rfl, rfl, rfl, rfl, rfl, rfl, rfl, rfl, rfl, rfl, rfl, trivial⟩ ?_
          obtain ⟨y_7, hc23, hm16⟩ := bind_some hm16
          refine WO_call0 (.int .i64 y_7) rfl rfl trivial rfl rfl rfl rfl St_closed ⟨47, #[], #[], rfl, callable_47, fun w hw => ⟨_, hw.sat, fiducialref13_At_walk h_p0_3 hc23⟩⟩ ?_
          refine WO_pure tbok 2 [(1, .int .i64 p1), (2, .int .i64 p2), (3, .int .i64 p3), (4, .int .i64 p4), (5, .pointer (some ⟨b2, 0, none⟩)), (10, .int .i64 0), (11, .int .i64 (w64 (s_4 + y_7))), (12, .int .i64 s_2), (13, .int .i64 s_5)] rfl ⟨rfl, rfl, rfl, rfl, rfl, rfl, rfl, rfl, rfl, trivial⟩ ?_
          refine WO_end ?_
          refine WK_blk ?_
          refine WK_region ?_
          refine WO_pure tbok 3 [(1, .int .i64 p1), (2, .int .i64 p2), (3, .int .i64 p3), (4, .int .i64 p4), (5, .pointer (some ⟨b2, 0, none⟩)), (10, .int .i64 0), (11, .int .i64 (w64 (s_4 + y_7))), (12, .int .i64 s_2), (13, .int .i64 (w64 (s_5 + 1)))] rfl ⟨rfl, rfl, rfl, rfl, rfl, rfl, rfl, rfl, rfl, trivial⟩ ?_
          refine WO_end ?_
          cases hm16
          refine WK.sub ?_ (WK.cls (fun _ h => h) (hn19 _ () rfl trivial))
          exact ⟨rfl, rfl, rfl, rfl, rfl, rfl, rfl, rfl, rfl, trivial⟩
        · have hm16 := ifF hb22 hm16
          refine WK_exit rfl ?_
          cases hm16
          refine WK.sub ?_ (WK.cls (fun _ h => h) (hk15 (s_4, ()) (hd20 _ rfl)))
          exact ⟨rfl, rfl, rfl, rfl, rfl, rfl, rfl, rfl, trivial⟩
    · have hm6 := ifF hb12 hm6
      refine WK_exit rfl ?_
      cases hm6
      refine WK.sub ?_ (WK.cls (fun _ h => h) (hk5 (s_1, ()) (hd10 _ rfl)))
      exact ⟨rfl, rfl, trivial⟩
end Go.Proofs.Ytdgmeplpkehdnaa
