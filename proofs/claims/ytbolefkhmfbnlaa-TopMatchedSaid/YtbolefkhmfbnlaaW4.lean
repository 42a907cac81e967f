import Derived.Test.YtbolefkhmfbnlaaTab
import Derived.Test.YtbolefkhmfbnlaaM
import Derived.Test.YtbolefkhmfbnlaaIt
import Derived.Test.YtbolefkhmfbnlaaW3
set_option linter.unusedVariables false
set_option maxRecDepth 100000
set_option maxHeartbeats 4000000
namespace Go.Proofs.Ytbolefkhmfbnlaa
open Go.E Go.RowKit
attribute [local irreducible] Go.E.WO Go.E.WK
theorem bits_OnesCount64_walk {m : Mu} {p0 : Int}   {r : Int} (hm : bits_OnesCount64 p0 = some r) :
    Go.E.Spec Try.prog 84 [.int .u64 p0] m (fun v _ _ => v = .int .i64 r) := by
  refine Spec_enter Try.func84 rfl rfl rfl (fun w0 => ?_)
  refine WK.sub (e' := [(0, .int .u64 p0)]) ⟨rfl, trivial⟩ ?_
  refine WK.sub (e' := [(0, .int .u64 p0)]) ⟨rfl, trivial⟩ ?_
  unfold bits_OnesCount64 at hm
  refine WK_seq ?_
  refine WK_region ?_
  refine WO_pure tbok 1 [(0, .int .u64 p0), (2, .int .i64 0)] rfl ⟨rfl, rfl, trivial⟩ ?_
  refine WO_end ?_
  refine WK_seq ?_
  refine WK_region ?_
  refine WO_pure tbok 1 [(0, .int .u64 p0), (2, .int .i64 0), (3, .int .u64 p0)] rfl ⟨rfl, rfl, rfl, trivial⟩ ?_
  refine WO_shr rfl rfl rfl rfl rfl (by decide) ?_
  refine WO_pure tbok 5 [(0, .int .u64 (wu64 ((wu64 (((BitVec.ofInt 64 (Int.fdiv p0 (2 ^ (min (1 : Int).toNat 64))) &&& BitVec.ofInt 64 6148914691236517205).toNat : Int))) + (wu64 (((BitVec.ofInt 64 p0 &&& BitVec.ofInt 64 6148914691236517205).toNat : Int)))))), (2, .int .i64 0)] rfl ⟨rfl, rfl, trivial⟩ ?_
  refine WO_end ?_
  refine WK_seq ?_
  refine WK_region ?_
  refine WO_pure tbok 1 [(0, .int .u64 (wu64 ((wu64 (((BitVec.ofInt 64 (Int.fdiv p0 (2 ^ (min (1 : Int).toNat 64))) &&& BitVec.ofInt 64 6148914691236517205).toNat : Int))) + (wu64 (((BitVec.ofInt 64 p0 &&& BitVec.ofInt 64 6148914691236517205).toNat : Int)))))), (2, .int .i64 0), (9, .int .u64 (wu64 ((wu64 (((BitVec.ofInt 64 (Int.fdiv p0 (2 ^ (min (1 : Int).toNat 64))) &&& BitVec.ofInt 64 6148914691236517205).toNat : Int))) + (wu64 (((BitVec.ofInt 64 p0 &&& BitVec.ofInt 64 6148914691236517205).toNat : Int))))))] rfl ⟨rfl, rfl, rfl, trivial⟩ ?_
  refine WO_shr rfl rfl rfl rfl rfl (by decide) ?_
  refine WO_pure tbok 5 [(0, .int .u64 (wu64 ((wu64 (((BitVec.ofInt 64 (Int.fdiv (wu64 ((wu64 (((BitVec.ofInt 64 (Int.fdiv p0 (2 ^ (min (1 : Int).toNat 64))) &&& BitVec.ofInt 64 6148914691236517205).toNat : Int))) + (wu64 (((BitVec.ofInt 64 p0 &&& BitVec.ofInt 64 6148914691236517205).toNat : Int))))) (2 ^ (min (2 : Int).toNat 64))) &&& BitVec.ofInt 64 3689348814741910323).toNat : Int))) + (wu64 (((BitVec.ofInt 64 (wu64 ((wu64 (((BitVec.ofInt 64 (Int.fdiv p0 (2 ^ (min (1 : Int).toNat 64))) &&& BitVec.ofInt 64 6148914691236517205).toNat : Int))) + (wu64 (((BitVec.ofInt 64 p0 &&& BitVec.ofInt 64 6148914691236517205).toNat : Int))))) &&& BitVec.ofInt 64 3689348814741910323).toNat : Int)))))), (2, .int .i64 0)] rfl ⟨rfl, rfl, trivial⟩ ?_
  refine WO_end ?_
  refine WK_seq ?_
  refine WK_region ?_
  refine WO_pure tbok 1 [(0, .int .u64 (wu64 ((wu64 (((BitVec.ofInt 64 (Int.fdiv (wu64 ((wu64 (((BitVec.ofInt 64 (Int.fdiv p0 (2 ^ (min (1 : Int).toNat 64))) &&& BitVec.ofInt 64 6148914691236517205).toNat : Int))) + (wu64 (((BitVec.ofInt 64 p0 &&& BitVec.ofInt 64 6148914691236517205).toNat : Int))))) (2 ^ (min (2 : Int).toNat 64))) &&& BitVec.ofInt 64 3689348814741910323).toNat : Int))) + (wu64 (((BitVec.ofInt 64 (wu64 ((wu64 (((BitVec.ofInt 64 (Int.fdiv p0 (2 ^ (min (1 : Int).toNat 64))) &&& BitVec.ofInt 64 6148914691236517205).toNat : Int))) + (wu64 (((BitVec.ofInt 64 p0 &&& BitVec.ofInt 64 6148914691236517205).toNat : Int))))) &&& BitVec.ofInt 64 3689348814741910323).toNat : Int)))))), (2, .int .i64 0), (15, .int .u64 (wu64 ((wu64 (((BitVec.ofInt 64 (Int.fdiv (wu64 ((wu64 (((BitVec.ofInt 64 (Int.fdiv p0 (2 ^ (min (1 : Int).toNat 64))) &&& BitVec.ofInt 64 6148914691236517205).toNat : Int))) + (wu64 (((BitVec.ofInt 64 p0 &&& BitVec.ofInt 64 6148914691236517205).toNat : Int))))) (2 ^ (min (2 : Int).toNat 64))) &&& BitVec.ofInt 64 3689348814741910323).toNat : Int))) + (wu64 (((BitVec.ofInt 64 (wu64 ((wu64 (((BitVec.ofInt 64 (Int.fdiv p0 (2 ^ (min (1 : Int).toNat 64))) &&& BitVec.ofInt 64 6148914691236517205).toNat : Int))) + (wu64 (((BitVec.ofInt 64 p0 &&& BitVec.ofInt 64 6148914691236517205).toNat : Int))))) &&& BitVec.ofInt 64 3689348814741910323).toNat : Int))))))] rfl ⟨rfl, rfl, rfl, trivial⟩ ?_
  refine WO_shr rfl rfl rfl rfl rfl (by decide) ?_
  refine WO_pure tbok 4 [(0, .int .u64 (wu64 (((BitVec.ofInt 64 (wu64 ((Int.fdiv (wu64 ((wu64 (((BitVec.ofInt 64 (Int.fdiv (wu64 ((wu64 (((BitVec.ofInt 64 (Int.fdiv p0 (2 ^ (min (1 : Int).toNat 64))) &&& BitVec.ofInt 64 6148914691236517205).toNat : Int))) + (wu64 (((BitVec.ofInt 64 p0 &&& BitVec.ofInt 64 6148914691236517205).toNat : Int))))) (2 ^ (min (2 : Int).toNat 64))) &&& BitVec.ofInt 64 3689348814741910323).toNat : Int))) + (wu64 (((BitVec.ofInt 64 (wu64 ((wu64 (((BitVec.ofInt 64 (Int.fdiv p0 (2 ^ (min (1 : Int).toNat 64))) &&& BitVec.ofInt 64 6148914691236517205).toNat : Int))) + (wu64 (((BitVec.ofInt 64 p0 &&& BitVec.ofInt 64 6148914691236517205).toNat : Int))))) &&& BitVec.ofInt 64 3689348814741910323).toNat : Int))))) (2 ^ (min (4 : Int).toNat 64))) + (wu64 ((wu64 (((BitVec.ofInt 64 (Int.fdiv (wu64 ((wu64 (((BitVec.ofInt 64 (Int.fdiv p0 (2 ^ (min (1 : Int).toNat 64))) &&& BitVec.ofInt 64 6148914691236517205).toNat : Int))) + (wu64 (((BitVec.ofInt 64 p0 &&& BitVec.ofInt 64 6148914691236517205).toNat : Int))))) (2 ^ (min (2 : Int).toNat 64))) &&& BitVec.ofInt 64 3689348814741910323).toNat : Int))) + (wu64 (((BitVec.ofInt 64 (wu64 ((wu64 (((BitVec.ofInt 64 (Int.fdiv p0 (2 ^ (min (1 : Int).toNat 64))) &&& BitVec.ofInt 64 6148914691236517205).toNat : Int))) + (wu64 (((BitVec.ofInt 64 p0 &&& BitVec.ofInt 64 6148914691236517205).toNat : Int))))) &&& BitVec.ofInt 64 3689348814741910323).toNat : Int))))))) &&& BitVec.ofInt 64 1085102592571150095).toNat : Int)))), (2, .int .i64 0)] rfl ⟨rfl, rfl, trivial⟩ ?_
  refine WO_end ?_
  refine WK_seq ?_
  refine WK_region ?_
  refine WO_pure tbok 2 [(0, .int .u64 (wu64 (((BitVec.ofInt 64 (wu64 ((Int.fdiv (wu64 ((wu64 (((BitVec.ofInt 64 (Int.fdiv (wu64 ((wu64 (((BitVec.ofInt 64 (Int.fdiv p0 (2 ^ (min (1 : Int).toNat 64))) &&& BitVec.ofInt 64 6148914691236517205).toNat : Int))) + (wu64 (((BitVec.ofInt 64 p0 &&& BitVec.ofInt 64 6148914691236517205).toNat : Int))))) (2 ^ (min (2 : Int).toNat 64))) &&& BitVec.ofInt 64 3689348814741910323).toNat : Int))) + (wu64 (((BitVec.ofInt 64 (wu64 ((wu64 (((BitVec.ofInt 64 (Int.fdiv p0 (2 ^ (min (1 : Int).toNat 64))) &&& BitVec.ofInt 64 6148914691236517205).toNat : Int))) + (wu64 (((BitVec.ofInt 64 p0 &&& BitVec.ofInt 64 6148914691236517205).toNat : Int))))) &&& BitVec.ofInt 64 3689348814741910323).toNat : Int))))) (2 ^ (min (4 : Int).toNat 64))) + (wu64 ((wu64 (((BitVec.ofInt 64 (Int.fdiv (wu64 ((wu64 (((BitVec.ofInt 64 (Int.fdiv p0 (2 ^ (min (1 : Int).toNat 64))) &&& BitVec.ofInt 64 6148914691236517205).toNat : Int))) + (wu64 (((BitVec.ofInt 64 p0 &&& BitVec.ofInt 64 6148914691236517205).toNat : Int))))) (2 ^ (min (2 : Int).toNat 64))) &&& BitVec.ofInt 64 3689348814741910323).toNat : Int))) + (wu64 (((BitVec.ofInt 64 (wu64 ((wu64 (((BitVec.ofInt 64 (Int.fdiv p0 (2 ^ (min (1 : Int).toNat 64))) &&& BitVec.ofInt 64 6148914691236517205).toNat : Int))) + (wu64 (((BitVec.ofInt 64 p0 &&& BitVec.ofInt 64 6148914691236517205).toNat : Int))))) &&& BitVec.ofInt 64 3689348814741910323).toNat : Int))))))) &&& BitVec.ofInt 64 1085102592571150095).toNat : Int)))), (2, .int .i64 0), (20, .int .u64 (wu64 (((BitVec.ofInt 64 (wu64 ((Int.fdiv (wu64 ((wu64 (((BitVec.ofInt 64 (Int.fdiv (wu64 ((wu64 (((BitVec.ofInt 64 (Int.fdiv p0 (2 ^ (min (1 : Int).toNat 64))) &&& BitVec.ofInt 64 6148914691236517205).toNat : Int))) + (wu64 (((BitVec.ofInt 64 p0 &&& BitVec.ofInt 64 6148914691236517205).toNat : Int))))) (2 ^ (min (2 : Int).toNat 64))) &&& BitVec.ofInt 64 3689348814741910323).toNat : Int))) + (wu64 (((BitVec.ofInt 64 (wu64 ((wu64 (((BitVec.ofInt 64 (Int.fdiv p0 (2 ^ (min (1 : Int).toNat 64))) &&& BitVec.ofInt 64 6148914691236517205).toNat : Int))) + (wu64 (((BitVec.ofInt 64 p0 &&& BitVec.ofInt 64 6148914691236517205).toNat : Int))))) &&& BitVec.ofInt 64 3689348814741910323).toNat : Int))))) (2 ^ (min (4 : Int).toNat 64))) + (wu64 ((wu64 (((BitVec.ofInt 64 (Int.fdiv (wu64 ((wu64 (((BitVec.ofInt 64 (Int.fdiv p0 (2 ^ (min (1 : Int).toNat 64))) &&& BitVec.ofInt 64 6148914691236517205).toNat : Int))) + (wu64 (((BitVec.ofInt 64 p0 &&& BitVec.ofInt 64 6148914691236517205).toNat : Int))))) (2 ^ (min (2 : Int).toNat 64))) &&& BitVec.ofInt 64 3689348814741910323).toNat : Int))) + (wu64 (((BitVec.ofInt 64 (wu64 ((wu64 (((BitVec.ofInt 64 (Int.fdiv p0 (2 ^ (min (1 : Int).toNat 64))) &&& BitVec.ofInt 64 6148914691236517205).toNat : Int))) + (wu64 (((BitVec.ofInt 64 p0 &&& BitVec.ofInt 64 6148914691236517205).toNat : Int))))) &&& BitVec.ofInt 64 3689348814741910323).toNat : Int))))))) &&& BitVec.ofInt 64 1085102592571150095).toNat : Int)))), (21, .int .u64 (wu64 (((BitVec.ofInt 64 (wu64 ((Int.fdiv (wu64 ((wu64 (((BitVec.ofInt 64 (Int.fdiv (wu64 ((wu64 (((BitVec.ofInt 64 (Int.fdiv p0 (2 ^ (min (1 : Int).toNat 64))) &&& BitVec.ofInt 64 6148914691236517205).toNat : Int))) + (wu64 (((BitVec.ofInt 64 p0 &&& BitVec.ofInt 64 6148914691236517205).toNat : Int))))) (2 ^ (min (2 : Int).toNat 64))) &&& BitVec.ofInt 64 3689348814741910323).toNat : Int))) + (wu64 (((BitVec.ofInt 64 (wu64 ((wu64 (((BitVec.ofInt 64 (Int.fdiv p0 (2 ^ (min (1 : Int).toNat 64))) &&& BitVec.ofInt 64 6148914691236517205).toNat : Int))) + (wu64 (((BitVec.ofInt 64 p0 &&& BitVec.ofInt 64 6148914691236517205).toNat : Int))))) &&& BitVec.ofInt 64 3689348814741910323).toNat : Int))))) (2 ^ (min (4 : Int).toNat 64))) + (wu64 ((wu64 (((BitVec.ofInt 64 (Int.fdiv (wu64 ((wu64 (((BitVec.ofInt 64 (Int.fdiv p0 (2 ^ (min (1 : Int).toNat 64))) &&& BitVec.ofInt 64 6148914691236517205).toNat : Int))) + (wu64 (((BitVec.ofInt 64 p0 &&& BitVec.ofInt 64 6148914691236517205).toNat : Int))))) (2 ^ (min (2 : Int).toNat 64))) &&& BitVec.ofInt 64 3689348814741910323).toNat : Int))) + (wu64 (((BitVec.ofInt 64 (wu64 ((wu64 (((BitVec.ofInt 64 (Int.fdiv p0 (2 ^ (min (1 : Int).toNat 64))) &&& BitVec.ofInt 64 6148914691236517205).toNat : Int))) + (wu64 (((BitVec.ofInt 64 p0 &&& BitVec.ofInt 64 6148914691236517205).toNat : Int))))) &&& BitVec.ofInt 64 3689348814741910323).toNat : Int))))))) &&& BitVec.ofInt 64 1085102592571150095).toNat : Int))))] rfl ⟨rfl, rfl, rfl, rfl, trivial⟩ ?_
  refine WO_shr rfl rfl rfl rfl rfl (by decide) ?_
  refine WO_pure tbok 2 [(0, .int .u64 (wu64 ((wu64 (((BitVec.ofInt 64 (wu64 ((Int.fdiv (wu64 ((wu64 (((BitVec.ofInt 64 (Int.fdiv (wu64 ((wu64 (((BitVec.ofInt 64 (Int.fdiv p0 (2 ^ (min (1 : Int).toNat 64))) &&& BitVec.ofInt 64 6148914691236517205).toNat : Int))) + (wu64 (((BitVec.ofInt 64 p0 &&& BitVec.ofInt 64 6148914691236517205).toNat : Int))))) (2 ^ (min (2 : Int).toNat 64))) &&& BitVec.ofInt 64 3689348814741910323).toNat : Int))) + (wu64 (((BitVec.ofInt 64 (wu64 ((wu64 (((BitVec.ofInt 64 (Int.fdiv p0 (2 ^ (min (1 : Int).toNat 64))) &&& BitVec.ofInt 64 6148914691236517205).toNat : Int))) + (wu64 (((BitVec.ofInt 64 p0 &&& BitVec.ofInt 64 6148914691236517205).toNat : Int))))) &&& BitVec.ofInt 64 3689348814741910323).toNat : Int))))) (2 ^ (min (4 : Int).toNat 64))) + (wu64 ((wu64 (((BitVec.ofInt 64 (Int.fdiv (wu64 ((wu64 (((BitVec.ofInt 64 (Int.fdiv p0 (2 ^ (min (1 : Int).toNat 64))) &&& BitVec.ofInt 64 6148914691236517205).toNat : Int))) + (wu64 (((BitVec.ofInt 64 p0 &&& BitVec.ofInt 64 6148914691236517205).toNat : Int))))) (2 ^ (min (2 : Int).toNat 64))) &&& BitVec.ofInt 64 3689348814741910323).toNat : Int))) + (wu64 (((BitVec.ofInt 64 (wu64 ((wu64 (((BitVec.ofInt 64 (Int.fdiv p0 (2 ^ (min (1 : Int).toNat 64))) &&& BitVec.ofInt 64 6148914691236517205).toNat : Int))) + (wu64 (((BitVec.ofInt 64 p0 &&& BitVec.ofInt 64 6148914691236517205).toNat : Int))))) &&& BitVec.ofInt 64 3689348814741910323).toNat : Int))))))) &&& BitVec.ofInt 64 1085102592571150095).toNat : Int))) + (Int.fdiv (wu64 (((BitVec.ofInt 64 (wu64 ((Int.fdiv (wu64 ((wu64 (((BitVec.ofInt 64 (Int.fdiv (wu64 ((wu64 (((BitVec.ofInt 64 (Int.fdiv p0 (2 ^ (min (1 : Int).toNat 64))) &&& BitVec.ofInt 64 6148914691236517205).toNat : Int))) + (wu64 (((BitVec.ofInt 64 p0 &&& BitVec.ofInt 64 6148914691236517205).toNat : Int))))) (2 ^ (min (2 : Int).toNat 64))) &&& BitVec.ofInt 64 3689348814741910323).toNat : Int))) + (wu64 (((BitVec.ofInt 64 (wu64 ((wu64 (((BitVec.ofInt 64 (Int.fdiv p0 (2 ^ (min (1 : Int).toNat 64))) &&& BitVec.ofInt 64 6148914691236517205).toNat : Int))) + (wu64 (((BitVec.ofInt 64 p0 &&& BitVec.ofInt 64 6148914691236517205).toNat : Int))))) &&& BitVec.ofInt 64 3689348814741910323).toNat : Int))))) (2 ^ (min (4 : Int).toNat 64))) + (wu64 ((wu64 (((BitVec.ofInt 64 (Int.fdiv (wu64 ((wu64 (((BitVec.ofInt 64 (Int.fdiv p0 (2 ^ (min (1 : Int).toNat 64))) &&& BitVec.ofInt 64 6148914691236517205).toNat : Int))) + (wu64 (((BitVec.ofInt 64 p0 &&& BitVec.ofInt 64 6148914691236517205).toNat : Int))))) (2 ^ (min (2 : Int).toNat 64))) &&& BitVec.ofInt 64 3689348814741910323).toNat : Int))) + (wu64 (((BitVec.ofInt 64 (wu64 ((wu64 (((BitVec.ofInt 64 (Int.fdiv p0 (2 ^ (min (1 : Int).toNat 64))) &&& BitVec.ofInt 64 6148914691236517205).toNat : Int))) + (wu64 (((BitVec.ofInt 64 p0 &&& BitVec.ofInt 64 6148914691236517205).toNat : Int))))) &&& BitVec.ofInt 64 3689348814741910323).toNat : Int))))))) &&& BitVec.ofInt 64 1085102592571150095).toNat : Int))) (2 ^ (min (8 : Int).toNat 64)))))), (2, .int .i64 0)] rfl ⟨rfl, rfl, trivial⟩ ?_
  refine WO_end ?_
  refine WK_seq ?_
  refine WK_region ?_
  refine WO_pure tbok 2 [(0, .int .u64 (wu64 ((wu64 (((BitVec.ofInt 64 (wu64 ((Int.fdiv (wu64 ((wu64 (((BitVec.ofInt 64 (Int.fdiv (wu64 ((wu64 (((BitVec.ofInt 64 (Int.fdiv p0 (2 ^ (min (1 : Int).toNat 64))) &&& BitVec.ofInt 64 6148914691236517205).toNat : Int))) + (wu64 (((BitVec.ofInt 64 p0 &&& BitVec.ofInt 64 6148914691236517205).toNat : Int))))) (2 ^ (min (2 : Int).toNat 64))) &&& BitVec.ofInt 64 3689348814741910323).toNat : Int))) + (wu64 (((BitVec.ofInt 64 (wu64 ((wu64 (((BitVec.ofInt 64 (Int.fdiv p0 (2 ^ (min (1 : Int).toNat 64))) &&& BitVec.ofInt 64 6148914691236517205).toNat : Int))) + (wu64 (((BitVec.ofInt 64 p0 &&& BitVec.ofInt 64 6148914691236517205).toNat : Int))))) &&& BitVec.ofInt 64 3689348814741910323).toNat : Int))))) (2 ^ (min (4 : Int).toNat 64))) + (wu64 ((wu64 (((BitVec.ofInt 64 (Int.fdiv (wu64 ((wu64 (((BitVec.ofInt 64 (Int.fdiv p0 (2 ^ (min (1 : Int).toNat 64))) &&& BitVec.ofInt 64 6148914691236517205).toNat : Int))) + (wu64 (((BitVec.ofInt 64 p0 &&& BitVec.ofInt 64 6148914691236517205).toNat : Int))))) (2 ^ (min (2 : Int).toNat 64))) &&& BitVec.ofInt 64 3689348814741910323).toNat : Int))) + (wu64 (((BitVec.ofInt 64 (wu64 ((wu64 (((BitVec.ofInt 64 (Int.fdiv p0 (2 ^ (min (1 : Int).toNat 64))) &&& BitVec.ofInt 64 6148914691236517205).toNat : Int))) + (wu64 (((BitVec.ofInt 64 p0 &&& BitVec.ofInt 64 6148914691236517205).toNat : Int))))) &&& BitVec.ofInt 64 3689348814741910323).toNat : Int))))))) &&& BitVec.ofInt 64 1085102592571150095).toNat : Int))) + (Int.fdiv (wu64 (((BitVec.ofInt 64 (wu64 ((Int.fdiv (wu64 ((wu64 (((BitVec.ofInt 64 (Int.fdiv (wu64 ((wu64 (((BitVec.ofInt 64 (Int.fdiv p0 (2 ^ (min (1 : Int).toNat 64))) &&& BitVec.ofInt 64 6148914691236517205).toNat : Int))) + (wu64 (((BitVec.ofInt 64 p0 &&& BitVec.ofInt 64 6148914691236517205).toNat : Int))))) (2 ^ (min (2 : Int).toNat 64))) &&& BitVec.ofInt 64 3689348814741910323).toNat : Int))) + (wu64 (((BitVec.ofInt 64 (wu64 ((wu64 (((BitVec.ofInt 64 (Int.fdiv p0 (2 ^ (min (1 : Int).toNat 64))) &&& BitVec.ofInt 64 6148914691236517205).toNat : Int))) + (wu64 (((BitVec.ofInt 64 p0 &&& BitVec.ofInt 64 6148914691236517205).toNat : Int))))) &&& BitVec.ofInt 64 3689348814741910323).toNat : Int))))) (2 ^ (min (4 : Int).toNat 64))) + (wu64 ((wu64 (((BitVec.ofInt 64 (Int.fdiv (wu64 ((wu64 (((BitVec.ofInt 64 (Int.fdiv p0 (2 ^ (min (1 : Int).toNat 64))) &&& BitVec.ofInt 64 6148914691236517205).toNat : Int))) + (wu64 (((BitVec.ofInt 64 p0 &&& BitVec.ofInt 64 6148914691236517205).toNat : Int))))) (2 ^ (min (2 : Int).toNat 64))) &&& BitVec.ofInt 64 3689348814741910323).toNat : Int))) + (wu64 (((BitVec.ofInt 64 (wu64 ((wu64 (((BitVec.ofInt 64 (Int.fdiv p0 (2 ^ (min (1 : Int).toNat 64))) &&& BitVec.ofInt 64 6148914691236517205).toNat : Int))) + (wu64 (((BitVec.ofInt 64 p0 &&& BitVec.ofInt 64 6148914691236517205).toNat : Int))))) &&& BitVec.ofInt 64 3689348814741910323).toNat : Int))))))) &&& BitVec.ofInt 64 1085102592571150095).toNat : Int))) (2 ^ (min (8 : Int).toNat 64)))))), (2, .int .i64 0), (24, .int .u64 (wu64 ((wu64 (((BitVec.ofInt 64 (wu64 ((Int.fdiv (wu64 ((wu64 (((BitVec.ofInt 64 (Int.fdiv (wu64 ((wu64 (((BitVec.ofInt 64 (Int.fdiv p0 (2 ^ (min (1 : Int).toNat 64))) &&& BitVec.ofInt 64 6148914691236517205).toNat : Int))) + (wu64 (((BitVec.ofInt 64 p0 &&& BitVec.ofInt 64 6148914691236517205).toNat : Int))))) (2 ^ (min (2 : Int).toNat 64))) &&& BitVec.ofInt 64 3689348814741910323).toNat : Int))) + (wu64 (((BitVec.ofInt 64 (wu64 ((wu64 (((BitVec.ofInt 64 (Int.fdiv p0 (2 ^ (min (1 : Int).toNat 64))) &&& BitVec.ofInt 64 6148914691236517205).toNat : Int))) + (wu64 (((BitVec.ofInt 64 p0 &&& BitVec.ofInt 64 6148914691236517205).toNat : Int))))) &&& BitVec.ofInt 64 3689348814741910323).toNat : Int))))) (2 ^ (min (4 : Int).toNat 64))) + (wu64 ((wu64 (((BitVec.ofInt 64 (Int.fdiv (wu64 ((wu64 (((BitVec.ofInt 64 (Int.fdiv p0 (2 ^ (min (1 : Int).toNat 64))) &&& BitVec.ofInt 64 6148914691236517205).toNat : Int))) + (wu64 (((BitVec.ofInt 64 p0 &&& BitVec.ofInt 64 6148914691236517205).toNat : Int))))) (2 ^ (min (2 : Int).toNat 64))) &&& BitVec.ofInt 64 3689348814741910323).toNat : Int))) + (wu64 (((BitVec.ofInt 64 (wu64 ((wu64 (((BitVec.ofInt 64 (Int.fdiv p0 (2 ^ (min (1 : Int).toNat 64))) &&& BitVec.ofInt 64 6148914691236517205).toNat : Int))) + (wu64 (((BitVec.ofInt 64 p0 &&& BitVec.ofInt 64 6148914691236517205).toNat : Int))))) &&& BitVec.ofInt 64 3689348814741910323).toNat : Int))))))) &&& BitVec.ofInt 64 1085102592571150095).toNat : Int))) + (Int.fdiv (wu64 (((BitVec.ofInt 64 (wu64 ((Int.fdiv (wu64 ((wu64 (((BitVec.ofInt 64 (Int.fdiv (wu64 ((wu64 (((BitVec.ofInt 64 (Int.fdiv p0 (2 ^ (min (1 : Int).toNat 64))) &&& BitVec.ofInt 64 6148914691236517205).toNat : Int))) + (wu64 (((BitVec.ofInt 64 p0 &&& BitVec.ofInt 64 6148914691236517205).toNat : Int))))) (2 ^ (min (2 : Int).toNat 64))) &&& BitVec.ofInt 64 3689348814741910323).toNat : Int))) + (wu64 (((BitVec.ofInt 64 (wu64 ((wu64 (((BitVec.ofInt 64 (Int.fdiv p0 (2 ^ (min (1 : Int).toNat 64))) &&& BitVec.ofInt 64 6148914691236517205).toNat : Int))) + (wu64 (((BitVec.ofInt 64 p0 &&& BitVec.ofInt 64 6148914691236517205).toNat : Int))))) &&& BitVec.ofInt 64 3689348814741910323).toNat : Int))))) (2 ^ (min (4 : Int).toNat 64))) + (wu64 ((wu64 (((BitVec.ofInt 64 (Int.fdiv (wu64 ((wu64 (((BitVec.ofInt 64 (Int.fdiv p0 (2 ^ (min (1 : Int).toNat 64))) &&& BitVec.ofInt 64 6148914691236517205).toNat : Int))) + (wu64 (((BitVec.ofInt 64 p0 &&& BitVec.ofInt 64 6148914691236517205).toNat : Int))))) (2 ^ (min (2 : Int).toNat 64))) &&& BitVec.ofInt 64 3689348814741910323).toNat : Int))) + (wu64 (((BitVec.ofInt 64 (wu64 ((wu64 (((BitVec.ofInt 64 (Int.fdiv p0 (2 ^ (min (1 : Int).toNat 64))) &&& BitVec.ofInt 64 6148914691236517205).toNat : Int))) + (wu64 (((BitVec.ofInt 64 p0 &&& BitVec.ofInt 64 6148914691236517205).toNat : Int))))) &&& BitVec.ofInt 64 3689348814741910323).toNat : Int))))))) &&& BitVec.ofInt 64 1085102592571150095).toNat : Int))) (2 ^ (min (8 : Int).toNat 64)))))), (25, .int .u64 (wu64 ((wu64 (((BitVec.ofInt 64 (wu64 ((Int.fdiv (wu64 ((wu64 (((BitVec.ofInt 64 (Int.fdiv (wu64 ((wu64 (((BitVec.ofInt 64 (Int.fdiv p0 (2 ^ (min (1 : Int).toNat 64))) &&& BitVec.ofInt 64 6148914691236517205).toNat : Int))) + (wu64 (((BitVec.ofInt 64 p0 &&& BitVec.ofInt 64 6148914691236517205).toNat : Int))))) (2 ^ (min (2 : Int).toNat 64))) &&& BitVec.ofInt 64 3689348814741910323).toNat : Int))) + (wu64 (((BitVec.ofInt 64 (wu64 ((wu64 (((BitVec.ofInt 64 (Int.fdiv p0 (2 ^ (min (1 : Int).toNat 64))) &&& BitVec.ofInt 64 6148914691236517205).toNat : Int))) + (wu64 (((BitVec.ofInt 64 p0 &&& BitVec.ofInt 64 6148914691236517205).toNat : Int))))) &&& BitVec.ofInt 64 3689348814741910323).toNat : Int))))) (2 ^ (min (4 : Int).toNat 64))) + (wu64 ((wu64 (((BitVec.ofInt 64 (Int.fdiv (wu64 ((wu64 (((BitVec.ofInt 64 (Int.fdiv p0 (2 ^ (min (1 : Int).toNat 64))) &&& BitVec.ofInt 64 6148914691236517205).toNat : Int))) + (wu64 (((BitVec.ofInt 64 p0 &&& BitVec.ofInt 64 6148914691236517205).toNat : Int))))) (2 ^ (min (2 : Int).toNat 64))) &&& BitVec.ofInt 64 3689348814741910323).toNat : Int))) + (wu64 (((BitVec.ofInt 64 (wu64 ((wu64 (((BitVec.ofInt 64 (Int.fdiv p0 (2 ^ (min (1 : Int).toNat 64))) &&& BitVec.ofInt 64 6148914691236517205).toNat : Int))) + (wu64 (((BitVec.ofInt 64 p0 &&& BitVec.ofInt 64 6148914691236517205).toNat : Int))))) &&& BitVec.ofInt 64 3689348814741910323).toNat : Int))))))) &&& BitVec.ofInt 64 1085102592571150095).toNat : Int))) + (Int.fdiv (wu64 (((BitVec.ofInt 64 (wu64 ((Int.fdiv (wu64 ((wu64 (((BitVec.ofInt 64 (Int.fdiv (wu64 ((wu64 (((BitVec.ofInt 64 (Int.fdiv p0 (2 ^ (min (1 : Int).toNat 64))) &&& BitVec.ofInt 64 6148914691236517205).toNat : Int))) + (wu64 (((BitVec.ofInt 64 p0 &&& BitVec.ofInt 64 6148914691236517205).toNat : Int))))) (2 ^ (min (2 : Int).toNat 64))) &&& BitVec.ofInt 64 3689348814741910323).toNat : Int))) + (wu64 (((BitVec.ofInt 64 (wu64 ((wu64 (((BitVec.ofInt 64 (Int.fdiv p0 (2 ^ (min (1 : Int).toNat 64))) &&& BitVec.ofInt 64 6148914691236517205).toNat : Int))) + (wu64 (((BitVec.ofInt 64 p0 &&& BitVec.ofInt 64 6148914691236517205).toNat : Int))))) &&& BitVec.ofInt 64 3689348814741910323).toNat : Int))))) (2 ^ (min (4 : Int).toNat 64))) + (wu64 ((wu64 (((BitVec.ofInt 64 (Int.fdiv (wu64 ((wu64 (((BitVec.ofInt 64 (Int.fdiv p0 (2 ^ (min (1 : Int).toNat 64))) &&& BitVec.ofInt 64 6148914691236517205).toNat : Int))) + (wu64 (((BitVec.ofInt 64 p0 &&& BitVec.ofInt 64 6148914691236517205).toNat : Int))))) (2 ^ (min (2 : Int).toNat 64))) &&& BitVec.ofInt 64 3689348814741910323).toNat : Int))) + (wu64 (((BitVec.ofInt 64 (wu64 ((wu64 (((BitVec.ofInt 64 (Int.fdiv p0 (2 ^ (min (1 : Int).toNat 64))) &&& BitVec.ofInt 64 6148914691236517205).toNat : Int))) + (wu64 (((BitVec.ofInt 64 p0 &&& BitVec.ofInt 64 6148914691236517205).toNat : Int))))) &&& BitVec.ofInt 64 3689348814741910323).toNat : Int))))))) &&& BitVec.ofInt 64 1085102592571150095).toNat : Int))) (2 ^ (min (8 : Int).toNat 64))))))] rfl ⟨rfl, rfl, rfl, rfl, trivial⟩ ?_
  refine WO_shr rfl rfl rfl rfl rfl (by decide) ?_
  refine WO_pure tbok 2 [(0, .int .u64 (wu64 ((wu64 ((wu64 (((BitVec.ofInt 64 (wu64 ((Int.fdiv (wu64 ((wu64 (((BitVec.ofInt 64 (Int.fdiv (wu64 ((wu64 (((BitVec.ofInt 64 (Int.fdiv p0 (2 ^ (min (1 : Int).toNat 64))) &&& BitVec.ofInt 64 6148914691236517205).toNat : Int))) + (wu64 (((BitVec.ofInt 64 p0 &&& BitVec.ofInt 64 6148914691236517205).toNat : Int))))) (2 ^ (min (2 : Int).toNat 64))) &&& BitVec.ofInt 64 3689348814741910323).toNat : Int))) + (wu64 (((BitVec.ofInt 64 (wu64 ((wu64 (((BitVec.ofInt 64 (Int.fdiv p0 (2 ^ (min (1 : Int).toNat 64))) &&& BitVec.ofInt 64 6148914691236517205).toNat : Int))) + (wu64 (((BitVec.ofInt 64 p0 &&& BitVec.ofInt 64 6148914691236517205).toNat : Int))))) &&& BitVec.ofInt 64 3689348814741910323).toNat : Int))))) (2 ^ (min (4 : Int).toNat 64))) + (wu64 ((wu64 (((BitVec.ofInt 64 (Int.fdiv (wu64 ((wu64 (((BitVec.ofInt 64 (Int.fdiv p0 (2 ^ (min (1 : Int).toNat 64))) &&& BitVec.ofInt 64 6148914691236517205).toNat : Int))) + (wu64 (((BitVec.ofInt 64 p0 &&& BitVec.ofInt 64 6148914691236517205).toNat : Int))))) (2 ^ (min (2 : Int).toNat 64))) &&& BitVec.ofInt 64 3689348814741910323).toNat : Int))) + (wu64 (((BitVec.ofInt 64 (wu64 ((wu64 (((BitVec.ofInt 64 (Int.fdiv p0 (2 ^ (min (1 : Int).toNat 64))) &&& BitVec.ofInt 64 6148914691236517205).toNat : Int))) + (wu64 (((BitVec.ofInt 64 p0 &&& BitVec.ofInt 64 6148914691236517205).toNat : Int))))) &&& BitVec.ofInt 64 3689348814741910323).toNat : Int))))))) &&& BitVec.ofInt 64 1085102592571150095).toNat : Int))) + (Int.fdiv (wu64 (((BitVec.ofInt 64 (wu64 ((Int.fdiv (wu64 ((wu64 (((BitVec.ofInt 64 (Int.fdiv (wu64 ((wu64 (((BitVec.ofInt 64 (Int.fdiv p0 (2 ^ (min (1 : Int).toNat 64))) &&& BitVec.ofInt 64 6148914691236517205).toNat : Int))) + (wu64 (((BitVec.ofInt 64 p0 &&& BitVec.ofInt 64 6148914691236517205).toNat : Int))))) (2 ^ (min (2 : Int).toNat 64))) &&& BitVec.ofInt 64 3689348814741910323).toNat : Int))) + (wu64 (((BitVec.ofInt 64 (wu64 ((wu64 (((BitVec.ofInt 64 (Int.fdiv p0 (2 ^ (min (1 : Int).toNat 64))) &&& BitVec.ofInt 64 6148914691236517205).toNat : Int))) + (wu64 (((BitVec.ofInt 64 p0 &&& BitVec.ofInt 64 6148914691236517205).toNat : Int))))) &&& BitVec.ofInt 64 3689348814741910323).toNat : Int))))) (2 ^ (min (4 : Int).toNat 64))) + (wu64 ((wu64 (((BitVec.ofInt 64 (Int.fdiv (wu64 ((wu64 (((BitVec.ofInt 64 (Int.fdiv p0 (2 ^ (min (1 : Int).toNat 64))) &&& BitVec.ofInt 64 6148914691236517205).toNat : Int))) + (wu64 (((BitVec.ofInt 64 p0 &&& BitVec.ofInt 64 6148914691236517205).toNat : Int))))) (2 ^ (min (2 : Int).toNat 64))) &&& BitVec.ofInt 64 3689348814741910323).toNat : Int))) + (wu64 (((BitVec.ofInt 64 (wu64 ((wu64 (((BitVec.ofInt 64 (Int.fdiv p0 (2 ^ (min (1 : Int).toNat 64))) &&& BitVec.ofInt 64 6148914691236517205).toNat : Int))) + (wu64 (((BitVec.ofInt 64 p0 &&& BitVec.ofInt 64 6148914691236517205).toNat : Int))))) &&& BitVec.ofInt 64 3689348814741910323).toNat : Int))))))) &&& BitVec.ofInt 64 1085102592571150095).toNat : Int))) (2 ^ (min (8 : Int).toNat 64))))) + (Int.fdiv (wu64 ((wu64 (((BitVec.ofInt 64 (wu64 ((Int.fdiv (wu64 ((wu64 (((BitVec.ofInt 64 (Int.fdiv (wu64 ((wu64 (((BitVec.ofInt 64 (Int.fdiv p0 (2 ^ (min (1 : Int).toNat 64))) &&& BitVec.ofInt 64 6148914691236517205).toNat : Int))) + (wu64 (((BitVec.ofInt 64 p0 &&& BitVec.ofInt 64 6148914691236517205).toNat : Int))))) (2 ^ (min (2 : Int).toNat 64))) &&& BitVec.ofInt 64 3689348814741910323).toNat : Int))) + (wu64 (((BitVec.ofInt 64 (wu64 ((wu64 (((BitVec.ofInt 64 (Int.fdiv p0 (2 ^ (min (1 : Int).toNat 64))) &&& BitVec.ofInt 64 6148914691236517205).toNat : Int))) + (wu64 (((BitVec.ofInt 64 p0 &&& BitVec.ofInt 64 6148914691236517205).toNat : Int))))) &&& BitVec.ofInt 64 3689348814741910323).toNat : Int))))) (2 ^ (min (4 : Int).toNat 64))) + (wu64 ((wu64 (((BitVec.ofInt 64 (Int.fdiv (wu64 ((wu64 (((BitVec.ofInt 64 (Int.fdiv p0 (2 ^ (min (1 : Int).toNat 64))) &&& BitVec.ofInt 64 6148914691236517205).toNat : Int))) + (wu64 (((BitVec.ofInt 64 p0 &&& BitVec.ofInt 64 6148914691236517205).toNat : Int))))) (2 ^ (min (2 : Int).toNat 64))) &&& BitVec.ofInt 64 3689348814741910323).toNat : Int))) + (wu64 (((BitVec.ofInt 64 (wu64 ((wu64 (((BitVec.ofInt 64 (Int.fdiv p0 (2 ^ (min (1 : Int).toNat 64))) &&& BitVec.ofInt 64 6148914691236517205).toNat : Int))) + (wu64 (((BitVec.ofInt 64 p0 &&& BitVec.ofInt 64 6148914691236517205).toNat : Int))))) &&& BitVec.ofInt 64 3689348814741910323).toNat : Int))))))) &&& BitVec.ofInt 64 1085102592571150095).toNat : Int))) + (Int.fdiv (wu64 (((BitVec.ofInt 64 (wu64 ((Int.fdiv (wu64 ((wu64 (((BitVec.ofInt 64 (Int.fdiv (wu64 ((wu64 (((BitVec.ofInt 64 (Int.fdiv p0 (2 ^ (min (1 : Int).toNat 64))) &&& BitVec.ofInt 64 6148914691236517205).toNat : Int))) + (wu64 (((BitVec.ofInt 64 p0 &&& BitVec.ofInt 64 6148914691236517205).toNat : Int))))) (2 ^ (min (2 : Int).toNat 64))) &&& BitVec.ofInt 64 3689348814741910323).toNat : Int))) + (wu64 (((BitVec.ofInt 64 (wu64 ((wu64 (((BitVec.ofInt 64 (Int.fdiv p0 (2 ^ (min (1 : Int).toNat 64))) &&& BitVec.ofInt 64 6148914691236517205).toNat : Int))) + (wu64 (((BitVec.ofInt 64 p0 &&& BitVec.ofInt 64 6148914691236517205).toNat : Int))))) &&& BitVec.ofInt 64 3689348814741910323).toNat : Int))))) (2 ^ (min (4 : Int).toNat 64))) + (wu64 ((wu64 (((BitVec.ofInt 64 (Int.fdiv (wu64 ((wu64 (((BitVec.ofInt 64 (Int.fdiv p0 (2 ^ (min (1 : Int).toNat 64))) &&& BitVec.ofInt 64 6148914691236517205).toNat : Int))) + (wu64 (((BitVec.ofInt 64 p0 &&& BitVec.ofInt 64 6148914691236517205).toNat : Int))))) (2 ^ (min (2 : Int).toNat 64))) &&& BitVec.ofInt 64 3689348814741910323).toNat : Int))) + (wu64 (((BitVec.ofInt 64 (wu64 ((wu64 (((BitVec.ofInt 64 (Int.fdiv p0 (2 ^ (min (1 : Int).toNat 64))) &&& BitVec.ofInt 64 6148914691236517205).toNat : Int))) + (wu64 (((BitVec.ofInt 64 p0 &&& BitVec.ofInt 64 6148914691236517205).toNat : Int))))) &&& BitVec.ofInt 64 3689348814741910323).toNat : Int))))))) &&& BitVec.ofInt 64 1085102592571150095).toNat : Int))) (2 ^ (min (8 : Int).toNat 64))))) (2 ^ (min (16 : Int).toNat 64)))))), (2, .int .i64 0)] rfl ⟨rfl, rfl, trivial⟩ ?_
  refine WO_end ?_
  refine WK_seq ?_
  refine WK_region ?_
  refine WO_pure tbok 2 [(0, .int .u64 (wu64 ((wu64 ((wu64 (((BitVec.ofInt 64 (wu64 ((Int.fdiv (wu64 ((wu64 (((BitVec.ofInt 64 (Int.fdiv (wu64 ((wu64 (((BitVec.ofInt 64 (Int.fdiv p0 (2 ^ (min (1 : Int).toNat 64))) &&& BitVec.ofInt 64 6148914691236517205).toNat : Int))) + (wu64 (((BitVec.ofInt 64 p0 &&& BitVec.ofInt 64 6148914691236517205).toNat : Int))))) (2 ^ (min (2 : Int).toNat 64))) &&& BitVec.ofInt 64 3689348814741910323).toNat : Int))) + (wu64 (((BitVec.ofInt 64 (wu64 ((wu64 (((BitVec.ofInt 64 (Int.fdiv p0 (2 ^ (min (1 : Int).toNat 64))) &&& BitVec.ofInt 64 6148914691236517205).toNat : Int))) + (wu64 (((BitVec.ofInt 64 p0 &&& BitVec.ofInt 64 6148914691236517205).toNat : Int))))) &&& BitVec.ofInt 64 3689348814741910323).toNat : Int))))) (2 ^ (min (4 : Int).toNat 64))) + (wu64 ((wu64 (((BitVec.ofInt 64 (Int.fdiv (wu64 ((wu64 (((BitVec.ofInt 64 (Int.fdiv p0 (2 ^ (min (1 : Int).toNat 64))) &&& BitVec.ofInt 64 6148914691236517205).toNat : Int))) + (wu64 (((BitVec.ofInt 64 p0 &&& BitVec.ofInt 64 6148914691236517205).toNat : Int))))) (2 ^ (min (2 : Int).toNat 64))) &&& BitVec.ofInt 64 3689348814741910323).toNat : Int))) + (wu64 (((BitVec.ofInt 64 (wu64 ((wu64 (((BitVec.ofInt 64 (Int.fdiv p0 (2 ^ (min (1 : Int).toNat 64))) &&& BitVec.ofInt 64 6148914691236517205).toNat : Int))) + (wu64 (((BitVec.ofInt 64 p0 &&& BitVec.ofInt 64 6148914691236517205).toNat : Int))))) &&& BitVec.ofInt 64 3689348814741910323).toNat : Int))))))) &&& BitVec.ofInt 64 1085102592571150095).toNat : Int))) + (Int.fdiv (wu64 (((BitVec.ofInt 64 (wu64 ((Int.fdiv (wu64 ((wu64 (((BitVec.ofInt 64 (Int.fdiv (wu64 ((wu64 (((BitVec.ofInt 64 (Int.fdiv p0 (2 ^ (min (1 : Int).toNat 64))) &&& BitVec.ofInt 64 6148914691236517205).toNat : Int))) + (wu64 (((BitVec.ofInt 64 p0 &&& BitVec.ofInt 64 6148914691236517205).toNat : Int))))) (2 ^ (min (2 : Int).toNat 64))) &&& BitVec.ofInt 64 3689348814741910323).toNat : Int))) + (wu64 (((BitVec.ofInt 64 (wu64 ((wu64 (((BitVec.ofInt 64 (Int.fdiv p0 (2 ^ (min (1 : Int).toNat 64))) &&& BitVec.ofInt 64 6148914691236517205).toNat : Int))) + (wu64 (((BitVec.ofInt 64 p0 &&& BitVec.ofInt 64 6148914691236517205).toNat : Int))))) &&& BitVec.ofInt 64 3689348814741910323).toNat : Int))))) (2 ^ (min (4 : Int).toNat 64))) + (wu64 ((wu64 (((BitVec.ofInt 64 (Int.fdiv (wu64 ((wu64 (((BitVec.ofInt 64 (Int.fdiv p0 (2 ^ (min (1 : Int).toNat 64))) &&& BitVec.ofInt 64 6148914691236517205).toNat : Int))) + (wu64 (((BitVec.ofInt 64 p0 &&& BitVec.ofInt 64 6148914691236517205).toNat : Int))))) (2 ^ (min (2 : Int).toNat 64))) &&& BitVec.ofInt 64 3689348814741910323).toNat : Int))) + (wu64 (((BitVec.ofInt 64 (wu64 ((wu64 (((BitVec.ofInt 64 (Int.fdiv p0 (2 ^ (min (1 : Int).toNat 64))) &&& BitVec.ofInt 64 6148914691236517205).toNat : Int))) + (wu64 (((BitVec.ofInt 64 p0 &&& BitVec.ofInt 64 6148914691236517205).toNat : Int))))) &&& BitVec.ofInt 64 3689348814741910323).toNat : Int))))))) &&& BitVec.ofInt 64 1085102592571150095).toNat : Int))) (2 ^ (min (8 : Int).toNat 64))))) + (Int.fdiv (wu64 ((wu64 (((BitVec.ofInt 64 (wu64 ((Int.fdiv (wu64 ((wu64 (((BitVec.ofInt 64 (Int.fdiv (wu64 ((wu64 (((BitVec.ofInt 64 (Int.fdiv p0 (2 ^ (min (1 : Int).toNat 64))) &&& BitVec.ofInt 64 6148914691236517205).toNat : Int))) + (wu64 (((BitVec.ofInt 64 p0 &&& BitVec.ofInt 64 6148914691236517205).toNat : Int))))) (2 ^ (min (2 : Int).toNat 64))) &&& BitVec.ofInt 64 3689348814741910323).toNat : Int))) + (wu64 (((BitVec.ofInt 64 (wu64 ((wu64 (((BitVec.ofInt 64 (Int.fdiv p0 (2 ^ (min (1 : Int).toNat 64))) &&& BitVec.ofInt 64 6148914691236517205).toNat : Int))) + (wu64 (((BitVec.ofInt 64 p0 &&& BitVec.ofInt 64 6148914691236517205).toNat : Int))))) &&& BitVec.ofInt 64 3689348814741910323).toNat : Int))))) (2 ^ (min (4 : Int).toNat 64))) + (wu64 ((wu64 (((BitVec.ofInt 64 (Int.fdiv (wu64 ((wu64 (((BitVec.ofInt 64 (Int.fdiv p0 (2 ^ (min (1 : Int).toNat 64))) &&& BitVec.ofInt 64 6148914691236517205).toNat : Int))) + (wu64 (((BitVec.ofInt 64 p0 &&& BitVec.ofInt 64 6148914691236517205).toNat : Int))))) (2 ^ (min (2 : Int).toNat 64))) &&& BitVec.ofInt 64 3689348814741910323).toNat : Int))) + (wu64 (((BitVec.ofInt 64 (wu64 ((wu64 (((BitVec.ofInt 64 (Int.fdiv p0 (2 ^ (min (1 : Int).toNat 64))) &&& BitVec.ofInt 64 6148914691236517205).toNat : Int))) + (wu64 (((BitVec.ofInt 64 p0 &&& BitVec.ofInt 64 6148914691236517205).toNat : Int))))) &&& BitVec.ofInt 64 3689348814741910323).toNat : Int))))))) &&& BitVec.ofInt 64 1085102592571150095).toNat : Int))) + (Int.fdiv (wu64 (((BitVec.ofInt 64 (wu64 ((Int.fdiv (wu64 ((wu64 (((BitVec.ofInt 64 (Int.fdiv (wu64 ((wu64 (((BitVec.ofInt 64 (Int.fdiv p0 (2 ^ (min (1 : Int).toNat 64))) &&& BitVec.ofInt 64 6148914691236517205).toNat : Int))) + (wu64 (((BitVec.ofInt 64 p0 &&& BitVec.ofInt 64 6148914691236517205).toNat : Int))))) (2 ^ (min (2 : Int).toNat 64))) &&& BitVec.ofInt 64 3689348814741910323).toNat : Int))) + (wu64 (((BitVec.ofInt 64 (wu64 ((wu64 (((BitVec.ofInt 64 (Int.fdiv p0 (2 ^ (min (1 : Int).toNat 64))) &&& BitVec.ofInt 64 6148914691236517205).toNat : Int))) + (wu64 (((BitVec.ofInt 64 p0 &&& BitVec.ofInt 64 6148914691236517205).toNat : Int))))) &&& BitVec.ofInt 64 3689348814741910323).toNat : Int))))) (2 ^ (min (4 : Int).toNat 64))) + (wu64 ((wu64 (((BitVec.ofInt 64 (Int.fdiv (wu64 ((wu64 (((BitVec.ofInt 64 (Int.fdiv p0 (2 ^ (min (1 : Int).toNat 64))) &&& BitVec.ofInt 64 6148914691236517205).toNat : Int))) + (wu64 (((BitVec.ofInt 64 p0 &&& BitVec.ofInt 64 6148914691236517205).toNat : Int))))) (2 ^ (min (2 : Int).toNat 64))) &&& BitVec.ofInt 64 3689348814741910323).toNat : Int))) + (wu64 (((BitVec.ofInt 64 (wu64 ((wu64 (((BitVec.ofInt 64 (Int.fdiv p0 (2 ^ (min (1 : Int).toNat 64))) &&& BitVec.ofInt 64 6148914691236517205).toNat : Int))) + (wu64 (((BitVec.ofInt 64 p0 &&& BitVec.ofInt 64 6148914691236517205).toNat : Int))))) &&& BitVec.ofInt 64 3689348814741910323).toNat : Int))))))) &&& BitVec.ofInt 64 1085102592571150095).toNat : Int))) (2 ^ (min (8 : Int).toNat 64))))) (2 ^ (min (16 : Int).toNat 64)))))), (2, .int .i64 0), (28, .int .u64 (wu64 ((wu64 ((wu64 (((BitVec.ofInt 64 (wu64 ((Int.fdiv (wu64 ((wu64 (((BitVec.ofInt 64 (Int.fdiv (wu64 ((wu64 (((BitVec.ofInt 64 (Int.fdiv p0 (2 ^ (min (1 : Int).toNat 64))) &&& BitVec.ofInt 64 6148914691236517205).toNat : Int))) + (wu64 (((BitVec.ofInt 64 p0 &&& BitVec.ofInt 64 6148914691236517205).toNat : Int))))) (2 ^ (min (2 : Int).toNat 64))) &&& BitVec.ofInt 64 3689348814741910323).toNat : Int))) + (wu64 (((BitVec.ofInt 64 (wu64 ((wu64 (((BitVec.ofInt 64 (Int.fdiv p0 (2 ^ (min (1 : Int).toNat 64))) &&& BitVec.ofInt 64 6148914691236517205).toNat : Int))) + (wu64 (((BitVec.ofInt 64 p0 &&& BitVec.ofInt 64 6148914691236517205).toNat : Int))))) &&& BitVec.ofInt 64 3689348814741910323).toNat : Int))))) (2 ^ (min (4 : Int).toNat 64))) + (wu64 ((wu64 (((BitVec.ofInt 64 (Int.fdiv (wu64 ((wu64 (((BitVec.ofInt 64 (Int.fdiv p0 (2 ^ (min (1 : Int).toNat 64))) &&& BitVec.ofInt 64 6148914691236517205).toNat : Int))) + (wu64 (((BitVec.ofInt 64 p0 &&& BitVec.ofInt 64 6148914691236517205).toNat : Int))))) (2 ^ (min (2 : Int).toNat 64))) &&& BitVec.ofInt 64 3689348814741910323).toNat : Int))) + (wu64 (((BitVec.ofInt 64 (wu64 ((wu64 (((BitVec.ofInt 64 (Int.fdiv p0 (2 ^ (min (1 : Int).toNat 64))) &&& BitVec.ofInt 64 6148914691236517205).toNat : Int))) + (wu64 (((BitVec.ofInt 64 p0 &&& BitVec.ofInt 64 6148914691236517205).toNat : Int))))) &&& BitVec.ofInt 64 3689348814741910323).toNat : Int))))))) &&& BitVec.ofInt 64 1085102592571150095).toNat : Int))) + (Int.fdiv (wu64 (((BitVec.ofInt 64 (wu64 ((Int.fdiv (wu64 ((wu64 (((BitVec.ofInt 64 (Int.fdiv (wu64 ((wu64 (((BitVec.ofInt 64 (Int.fdiv p0 (2 ^ (min (1 : Int).toNat 64))) &&& BitVec.ofInt 64 6148914691236517205).toNat : Int))) + (wu64 (((BitVec.ofInt 64 p0 &&& BitVec.ofInt 64 6148914691236517205).toNat : Int))))) (2 ^ (min (2 : Int).toNat 64))) &&& BitVec.ofInt 64 3689348814741910323).toNat : Int))) + (wu64 (((BitVec.ofInt 64 (wu64 ((wu64 (((BitVec.ofInt 64 (Int.fdiv p0 (2 ^ (min (1 : Int).toNat 64))) &&& BitVec.ofInt 64 6148914691236517205).toNat : Int))) + (wu64 (((BitVec.ofInt 64 p0 &&& BitVec.ofInt 64 6148914691236517205).toNat : Int))))) &&& BitVec.ofInt 64 3689348814741910323).toNat : Int))))) (2 ^ (min (4 : Int).toNat 64))) + (wu64 ((wu64 (((BitVec.ofInt 64 (Int.fdiv (wu64 ((wu64 (((BitVec.ofInt 64 (Int.fdiv p0 (2 ^ (min (1 : Int).toNat 64))) &&& BitVec.ofInt 64 6148914691236517205).toNat : Int))) + (wu64 (((BitVec.ofInt 64 p0 &&& BitVec.ofInt 64 6148914691236517205).toNat : Int))))) (2 ^ (min (2 : Int).toNat 64))) &&& BitVec.ofInt 64 3689348814741910323).toNat : Int))) + (wu64 (((BitVec.ofInt 64 (wu64 ((wu64 (((BitVec.ofInt 64 (Int.fdiv p0 (2 ^ (min (1 : Int).toNat 64))) &&& BitVec.ofInt 64 6148914691236517205).toNat : Int))) + (wu64 (((BitVec.ofInt 64 p0 &&& BitVec.ofInt 64 6148914691236517205).toNat : Int))))) &&& BitVec.ofInt 64 3689348814741910323).toNat : Int))))))) &&& BitVec.ofInt 64 1085102592571150095).toNat : Int))) (2 ^ (min (8 : Int).toNat 64))))) + (Int.fdiv (wu64 ((wu64 (((BitVec.ofInt 64 (wu64 ((Int.fdiv (wu64 ((wu64 (((BitVec.ofInt 64 (Int.fdiv (wu64 ((wu64 (((BitVec.ofInt 64 (Int.fdiv p0 (2 ^ (min (1 : Int).toNat 64))) &&& BitVec.ofInt 64 6148914691236517205).toNat : Int))) + (wu64 (((BitVec.ofInt 64 p0 &&& BitVec.ofInt 64 6148914691236517205).toNat : Int))))) (2 ^ (min (2 : Int).toNat 64))) &&& BitVec.ofInt 64 3689348814741910323).toNat : Int))) + (wu64 (((BitVec.ofInt 64 (wu64 ((wu64 (((BitVec.ofInt 64 (Int.fdiv p0 (2 ^ (min (1 : Int).toNat 64))) &&& BitVec.ofInt 64 6148914691236517205).toNat : Int))) + (wu64 (((BitVec.ofInt 64 p0 &&& BitVec.ofInt 64 6148914691236517205).toNat : Int))))) &&& BitVec.ofInt 64 3689348814741910323).toNat : Int))))) (2 ^ (min (4 : Int).toNat 64))) + (wu64 ((wu64 (((BitVec.ofInt 64 (Int.fdiv (wu64 ((wu64 (((BitVec.ofInt 64 (Int.fdiv p0 (2 ^ (min (1 : Int).toNat 64))) &&& BitVec.ofInt 64 6148914691236517205).toNat : Int))) + (wu64 (((BitVec.ofInt 64 p0 &&& BitVec.ofInt 64 6148914691236517205).toNat : Int))))) (2 ^ (min (2 : Int).toNat 64))) &&& BitVec.ofInt 64 3689348814741910323).toNat : Int))) + (wu64 (((BitVec.ofInt 64 (wu64 ((wu64 (((BitVec.ofInt 64 (Int.fdiv p0 (2 ^ (min (1 : Int).toNat 64))) &&& BitVec.ofInt 64 6148914691236517205).toNat : Int))) + (wu64 (((BitVec.ofInt 64 p0 &&& BitVec.ofInt 64 6148914691236517205).toNat : Int))))) &&& BitVec.ofInt 64 3689348814741910323).toNat : Int))))))) &&& BitVec.ofInt 64 1085102592571150095).toNat : Int))) + (Int.fdiv (wu64 (((BitVec.ofInt 64 (wu64 ((Int.fdiv (wu64 ((wu64 (((BitVec.ofInt 64 (Int.fdiv (wu64 ((wu64 (((BitVec.ofInt 64 (Int.fdiv p0 (2 ^ (min (1 : Int).toNat 64))) &&& BitVec.ofInt 64 6148914691236517205).toNat : Int))) + (wu64 (((BitVec.ofInt 64 p0 &&& BitVec.ofInt 64 6148914691236517205).toNat : Int))))) (2 ^ (min (2 : Int).toNat 64))) &&& BitVec.ofInt 64 3689348814741910323).toNat : Int))) + (wu64 (((BitVec.ofInt 64 (wu64 ((wu64 (((BitVec.ofInt 64 (Int.fdiv p0 (2 ^ (min (1 : Int).toNat 64))) &&& BitVec.ofInt 64 6148914691236517205).toNat : Int))) + (wu64 (((BitVec.ofInt 64 p0 &&& BitVec.ofInt 64 6148914691236517205).toNat : Int))))) &&& BitVec.ofInt 64 3689348814741910323).toNat : Int))))) (2 ^ (min (4 : Int).toNat 64))) + (wu64 ((wu64 (((BitVec.ofInt 64 (Int.fdiv (wu64 ((wu64 (((BitVec.ofInt 64 (Int.fdiv p0 (2 ^ (min (1 : Int).toNat 64))) &&& BitVec.ofInt 64 6148914691236517205).toNat : Int))) + (wu64 (((BitVec.ofInt 64 p0 &&& BitVec.ofInt 64 6148914691236517205).toNat : Int))))) (2 ^ (min (2 : Int).toNat 64))) &&& BitVec.ofInt 64 3689348814741910323).toNat : Int))) + (wu64 (((BitVec.ofInt 64 (wu64 ((wu64 (((BitVec.ofInt 64 (Int.fdiv p0 (2 ^ (min (1 : Int).toNat 64))) &&& BitVec.ofInt 64 6148914691236517205).toNat : Int))) + (wu64 (((BitVec.ofInt 64 p0 &&& BitVec.ofInt 64 6148914691236517205).toNat : Int))))) &&& BitVec.ofInt 64 3689348814741910323).toNat : Int))))))) &&& BitVec.ofInt 64 1085102592571150095).toNat : Int))) (2 ^ (min (8 : Int).toNat 64))))) (2 ^ (min (16 : Int).toNat 64)))))), (29, .int .u64 (wu64 ((wu64 ((wu64 (((BitVec.ofInt 64 (wu64 ((Int.fdiv (wu64 ((wu64 (((BitVec.ofInt 64 (Int.fdiv (wu64 ((wu64 (((BitVec.ofInt 64 (Int.fdiv p0 (2 ^ (min (1 : Int).toNat 64))) &&& BitVec.ofInt 64 6148914691236517205).toNat : Int))) + (wu64 (((BitVec.ofInt 64 p0 &&& BitVec.ofInt 64 6148914691236517205).toNat : Int))))) (2 ^ (min (2 : Int).toNat 64))) &&& BitVec.ofInt 64 3689348814741910323).toNat : Int))) + (wu64 (((BitVec.ofInt 64 (wu64 ((wu64 (((BitVec.ofInt 64 (Int.fdiv p0 (2 ^ (min (1 : Int).toNat 64))) &&& BitVec.ofInt 64 6148914691236517205).toNat : Int))) + (wu64 (((BitVec.ofInt 64 p0 &&& BitVec.ofInt 64 6148914691236517205).toNat : Int))))) &&& BitVec.ofInt 64 3689348814741910323).toNat : Int))))) (2 ^ (min (4 : Int).toNat 64))) + (wu64 ((wu64 (((BitVec.ofInt 64 (Int.fdiv (wu64 ((wu64 (((BitVec.ofInt 64 (Int.fdiv p0 (2 ^ (min (1 : Int).toNat 64))) &&& BitVec.ofInt 64 6148914691236517205).toNat : Int))) + (wu64 (((BitVec.ofInt 64 p0 &&& BitVec.ofInt 64 6148914691236517205).toNat : Int))))) (2 ^ (min (2 : Int).toNat 64))) &&& BitVec.ofInt 64 3689348814741910323).toNat : Int))) + (wu64 (((BitVec.ofInt 64 (wu64 ((wu64 (((BitVec.ofInt 64 (Int.fdiv p0 (2 ^ (min (1 : Int).toNat 64))) &&& BitVec.ofInt 64 6148914691236517205).toNat : Int))) + (wu64 (((BitVec.ofInt 64 p0 &&& BitVec.ofInt 64 6148914691236517205).toNat : Int))))) &&& BitVec.ofInt 64 3689348814741910323).toNat : Int))))))) &&& BitVec.ofInt 64 1085102592571150095).toNat : Int))) + (Int.fdiv (wu64 (((BitVec.ofInt 64 (wu64 ((Int.fdiv (wu64 ((wu64 (((BitVec.ofInt 64 (Int.fdiv (wu64 ((wu64 (((BitVec.ofInt 64 (Int.fdiv p0 (2 ^ (min (1 : Int).toNat 64))) &&& BitVec.ofInt 64 6148914691236517205).toNat : Int))) + (wu64 (((BitVec.ofInt 64 p0 &&& BitVec.ofInt 64 6148914691236517205).toNat : Int))))) (2 ^ (min (2 : Int).toNat 64))) &&& BitVec.ofInt 64 3689348814741910323).toNat : Int))) + (wu64 (((BitVec.ofInt 64 (wu64 ((wu64 (((BitVec.ofInt 64 (Int.fdiv p0 (2 ^ (min (1 : Int).toNat 64))) &&& BitVec.ofInt 64 6148914691236517205).toNat : Int))) + (wu64 (((BitVec.ofInt 64 p0 &&& BitVec.ofInt 64 6148914691236517205).toNat : Int))))) &&& BitVec.ofInt 64 3689348814741910323).toNat : Int))))) (2 ^ (min (4 : Int).toNat 64))) + (wu64 ((wu64 (((BitVec.ofInt 64 (Int.fdiv (wu64 ((wu64 (((BitVec.ofInt 64 (Int.fdiv p0 (2 ^ (min (1 : Int).toNat 64))) &&& BitVec.ofInt 64 6148914691236517205).toNat : Int))) + (wu64 (((BitVec.ofInt 64 p0 &&& BitVec.ofInt 64 6148914691236517205).toNat : Int))))) (2 ^ (min (2 : Int).toNat 64))) &&& BitVec.ofInt 64 3689348814741910323).toNat : Int))) + (wu64 (((BitVec.ofInt 64 (wu64 ((wu64 (((BitVec.ofInt 64 (Int.fdiv p0 (2 ^ (min (1 : Int).toNat 64))) &&& BitVec.ofInt 64 6148914691236517205).toNat : Int))) + (wu64 (((BitVec.ofInt 64 p0 &&& BitVec.ofInt 64 6148914691236517205).toNat : Int))))) &&& BitVec.ofInt 64 3689348814741910323).toNat : Int))))))) &&& BitVec.ofInt 64 1085102592571150095).toNat : Int))) (2 ^ (min (8 : Int).toNat 64))))) + (Int.fdiv (wu64 ((wu64 (((BitVec.ofInt 64 (wu64 ((Int.fdiv (wu64 ((wu64 (((BitVec.ofInt 64 (Int.fdiv (wu64 ((wu64 (((BitVec.ofInt 64 (Int.fdiv p0 (2 ^ (min (1 : Int).toNat 64))) &&& BitVec.ofInt 64 6148914691236517205).toNat : Int))) + (wu64 (((BitVec.ofInt 64 p0 &&& BitVec.ofInt 64 6148914691236517205).toNat : Int))))) (2 ^ (min (2 : Int).toNat 64))) &&& BitVec.ofInt 64 3689348814741910323).toNat : Int))) + (wu64 (((BitVec.ofInt 64 (wu64 ((wu64 (((BitVec.ofInt 64 (Int.fdiv p0 (2 ^ (min (1 : Int).toNat 64))) &&& BitVec.ofInt 64 6148914691236517205).toNat : Int))) + (wu64 (((BitVec.ofInt 64 p0 &&& BitVec.ofInt 64 6148914691236517205).toNat : Int))))) &&& BitVec.ofInt 64 3689348814741910323).toNat : Int))))) (2 ^ (min (4 : Int).toNat 64))) + (wu64 ((wu64 (((BitVec.ofInt 64 (Int.fdiv (wu64 ((wu64 (((BitVec.ofInt 64 (Int.fdiv p0 (2 ^ (min (1 : Int).toNat 64))) &&& BitVec.ofInt 64 6148914691236517205).toNat : Int))) + (wu64 (((BitVec.ofInt 64 p0 &&& BitVec.ofInt 64 6148914691236517205).toNat : Int))))) (2 ^ (min (2 : Int).toNat 64))) &&& BitVec.ofInt 64 3689348814741910323).toNat : Int))) + (wu64 (((BitVec.ofInt 64 (wu64 ((wu64 (((BitVec.ofInt 64 (Int.fdiv p0 (2 ^ (min (1 : Int).toNat 64))) &&& BitVec.ofInt 64 6148914691236517205).toNat : Int))) + (wu64 (((BitVec.ofInt 64 p0 &&& BitVec.ofInt 64 6148914691236517205).toNat : Int))))) &&& BitVec.ofInt 64 3689348814741910323).toNat : Int))))))) &&& BitVec.ofInt 64 1085102592571150095).toNat : Int))) + (Int.fdiv (wu64 (((BitVec.ofInt 64 (wu64 ((Int.fdiv (wu64 ((wu64 (((BitVec.ofInt 64 (Int.fdiv (wu64 ((wu64 (((BitVec.ofInt 64 (Int.fdiv p0 (2 ^ (min (1 : Int).toNat 64))) &&& BitVec.ofInt 64 6148914691236517205).toNat : Int))) + (wu64 (((BitVec.ofInt 64 p0 &&& BitVec.ofInt 64 6148914691236517205).toNat : Int))))) (2 ^ (min (2 : Int).toNat 64))) &&& BitVec.ofInt 64 3689348814741910323).toNat : Int))) + (wu64 (((BitVec.ofInt 64 (wu64 ((wu64 (((BitVec.ofInt 64 (Int.fdiv p0 (2 ^ (min (1 : Int).toNat 64))) &&& BitVec.ofInt 64 6148914691236517205).toNat : Int))) + (wu64 (((BitVec.ofInt 64 p0 &&& BitVec.ofInt 64 6148914691236517205).toNat : Int))))) &&& BitVec.ofInt 64 3689348814741910323).toNat : Int))))) (2 ^ (min (4 : Int).toNat 64))) + (wu64 ((wu64 (((BitVec.ofInt 64 (Int.fdiv (wu64 ((wu64 (((BitVec.ofInt 64 (Int.fdiv p0 (2 ^ (min (1 : Int).toNat 64))) &&& BitVec.ofInt 64 6148914691236517205).toNat : Int))) + (wu64 (((BitVec.ofInt 64 p0 &&& BitVec.ofInt 64 6148914691236517205).toNat : Int))))) (2 ^ (min (2 : Int).toNat 64))) &&& BitVec.ofInt 64 3689348814741910323).toNat : Int))) + (wu64 (((BitVec.ofInt 64 (wu64 ((wu64 (((BitVec.ofInt 64 (Int.fdiv p0 (2 ^ (min (1 : Int).toNat 64))) &&& BitVec.ofInt 64 6148914691236517205).toNat : Int))) + (wu64 (((BitVec.ofInt 64 p0 &&& BitVec.ofInt 64 6148914691236517205).toNat : Int))))) &&& BitVec.ofInt 64 3689348814741910323).toNat : Int))))))) &&& BitVec.ofInt 64 1085102592571150095).toNat : Int))) (2 ^ (min (8 : Int).toNat 64))))) (2 ^ (min (16 : Int).toNat 64))))))] rfl ⟨rfl, rfl, rfl, rfl, trivial⟩ ?_
  refine WO_shr rfl rfl rfl rfl rfl (by decide) ?_
  refine WO_pure tbok 2 [(0, .int .u64 (wu64 ((wu64 ((wu64 ((wu64 (((BitVec.ofInt 64 (wu64 ((Int.fdiv (wu64 ((wu64 (((BitVec.ofInt 64 (Int.fdiv (wu64 ((wu64 (((BitVec.ofInt 64 (Int.fdiv p0 (2 ^ (min (1 : Int).toNat 64))) &&& BitVec.ofInt 64 6148914691236517205).toNat : Int))) + (wu64 (((BitVec.ofInt 64 p0 &&& BitVec.ofInt 64 6148914691236517205).toNat : Int))))) (2 ^ (min (2 : Int).toNat 64))) &&& BitVec.ofInt 64 3689348814741910323).toNat : Int))) + (wu64 (((BitVec.ofInt 64 (wu64 ((wu64 (((BitVec.ofInt 64 (Int.fdiv p0 (2 ^ (min (1 : Int).toNat 64))) &&& BitVec.ofInt 64 6148914691236517205).toNat : Int))) + (wu64 (((BitVec.ofInt 64 p0 &&& BitVec.ofInt 64 6148914691236517205).toNat : Int))))) &&& BitVec.ofInt 64 3689348814741910323).toNat : Int))))) (2 ^ (min (4 : Int).toNat 64))) + (wu64 ((wu64 (((BitVec.ofInt 64 (Int.fdiv (wu64 ((wu64 (((BitVec.ofInt 64 (Int.fdiv p0 (2 ^ (min (1 : Int).toNat 64))) &&& BitVec.ofInt 64 6148914691236517205).toNat : Int))) + (wu64 (((BitVec.ofInt 64 p0 &&& BitVec.ofInt 64 6148914691236517205).toNat : Int))))) (2 ^ (min (2 : Int).toNat 64))) &&& BitVec.ofInt 64 3689348814741910323).toNat : Int))) + (wu64 (((BitVec.ofInt 64 (wu64 ((wu64 (((BitVec.ofInt 64 (Int.fdiv p0 (2 ^ (min (1 : Int).toNat 64))) &&& BitVec.ofInt 64 6148914691236517205).toNat : Int))) + (wu64 (((BitVec.ofInt 64 p0 &&& BitVec.ofInt 64 6148914691236517205).toNat : Int))))) &&& BitVec.ofInt 64 3689348814741910323).toNat : Int))))))) &&& BitVec.ofInt 64 1085102592571150095).toNat : Int))) + (Int.fdiv (wu64 (((BitVec.ofInt 64 (wu64 ((Int.fdiv (wu64 ((wu64 (((BitVec.ofInt 64 (Int.fdiv (wu64 ((wu64 (((BitVec.ofInt 64 (Int.fdiv p0 (2 ^ (min (1 : Int).toNat 64))) &&& BitVec.ofInt 64 6148914691236517205).toNat : Int))) + (wu64 (((BitVec.ofInt 64 p0 &&& BitVec.ofInt 64 6148914691236517205).toNat : Int))))) (2 ^ (min (2 : Int).toNat 64))) &&& BitVec.ofInt 64 3689348814741910323).toNat : Int))) + (wu64 (((BitVec.ofInt 64 (wu64 ((wu64 (((BitVec.ofInt 64 (Int.fdiv p0 (2 ^ (min (1 : Int).toNat 64))) &&& BitVec.ofInt 64 6148914691236517205).toNat : Int))) + (wu64 (((BitVec.ofInt 64 p0 &&& BitVec.ofInt 64 6148914691236517205).toNat : Int))))) &&& BitVec.ofInt 64 3689348814741910323).toNat : Int))))) (2 ^ (min (4 : Int).toNat 64))) + (wu64 ((wu64 (((BitVec.ofInt 64 (Int.fdiv (wu64 ((wu64 (((BitVec.ofInt 64 (Int.fdiv p0 (2 ^ (min (1 : Int).toNat 64))) &&& BitVec.ofInt 64 6148914691236517205).toNat : Int))) + (wu64 (((BitVec.ofInt 64 p0 &&& BitVec.ofInt 64 6148914691236517205).toNat : Int))))) (2 ^ (min (2 : Int).toNat 64))) &&& BitVec.ofInt 64 3689348814741910323).toNat : Int))) + (wu64 (((BitVec.ofInt 64 (wu64 ((wu64 (((BitVec.ofInt 64 (Int.fdiv p0 (2 ^ (min (1 : Int).toNat 64))) &&& BitVec.ofInt 64 6148914691236517205).toNat : Int))) + (wu64 (((BitVec.ofInt 64 p0 &&& BitVec.ofInt 64 6148914691236517205).toNat : Int))))) &&& BitVec.ofInt 64 3689348814741910323).toNat : Int))))))) &&& BitVec.ofInt 64 1085102592571150095).toNat : Int))) (2 ^ (min (8 : Int).toNat 64))))) + (Int.fdiv (wu64 ((wu64 (((BitVec.ofInt 64 (wu64 ((Int.fdiv (wu64 ((wu64 (((BitVec.ofInt 64 (Int.fdiv (wu64 ((wu64 (((BitVec.ofInt 64 (Int.fdiv p0 (2 ^ (min (1 : Int).toNat 64))) &&& BitVec.ofInt 64 6148914691236517205).toNat : Int))) + (wu64 (((BitVec.ofInt 64 p0 &&& BitVec.ofInt 64 6148914691236517205).toNat : Int))))) (2 ^ (min (2 : Int).toNat 64))) &&& BitVec.ofInt 64 3689348814741910323).toNat : Int))) + (wu64 (((BitVec.ofInt 64 (wu64 ((wu64 (((BitVec.ofInt 64 (Int.fdiv p0 (2 ^ (min (1 : Int).toNat 64))) &&& BitVec.ofInt 64 6148914691236517205).toNat : Int))) + (wu64 (((BitVec.ofInt 64 p0 &&& BitVec.ofInt 64 6148914691236517205).toNat : Int))))) &&& BitVec.ofInt 64 3689348814741910323).toNat : Int))))) (2 ^ (min (4 : Int).toNat 64))) + (wu64 ((wu64 (((BitVec.ofInt 64 (Int.fdiv (wu64 ((wu64 (((BitVec.ofInt 64 (Int.fdiv p0 (2 ^ (min (1 : Int).toNat 64))) &&& BitVec.ofInt 64 6148914691236517205).toNat : Int))) + (wu64 (((BitVec.ofInt 64 p0 &&& BitVec.ofInt 64 6148914691236517205).toNat : Int))))) (2 ^ (min (2 : Int).toNat 64))) &&& BitVec.ofInt 64 3689348814741910323).toNat : Int))) + (wu64 (((BitVec.ofInt 64 (wu64 ((wu64 (((BitVec.ofInt 64 (Int.fdiv p0 (2 ^ (min (1 : Int).toNat 64))) &&& BitVec.ofInt 64 6148914691236517205).toNat : Int))) + (wu64 (((BitVec.ofInt 64 p0 &&& BitVec.ofInt 64 6148914691236517205).toNat : Int))))) &&& BitVec.ofInt 64 3689348814741910323).toNat : Int))))))) &&& BitVec.ofInt 64 1085102592571150095).toNat : Int))) + (Int.fdiv (wu64 (((BitVec.ofInt 64 (wu64 ((Int.fdiv (wu64 ((wu64 (((BitVec.ofInt 64 (Int.fdiv (wu64 ((wu64 (((BitVec.ofInt 64 (Int.fdiv p0 (2 ^ (min (1 : Int).toNat 64))) &&& BitVec.ofInt 64 6148914691236517205).toNat : Int))) + (wu64 (((BitVec.ofInt 64 p0 &&& BitVec.ofInt 64 6148914691236517205).toNat : Int))))) (2 ^ (min (2 : Int).toNat 64))) &&& BitVec.ofInt 64 3689348814741910323).toNat : Int))) + (wu64 (((BitVec.ofInt 64 (wu64 ((wu64 (((BitVec.ofInt 64 (Int.fdiv p0 (2 ^ (min (1 : Int).toNat 64))) &&& BitVec.ofInt 64 6148914691236517205).toNat : Int))) + (wu64 (((BitVec.ofInt 64 p0 &&& BitVec.ofInt 64 6148914691236517205).toNat : Int))))) &&& BitVec.ofInt 64 3689348814741910323).toNat : Int))))) (2 ^ (min (4 : Int).toNat 64))) + (wu64 ((wu64 (((BitVec.ofInt 64 (Int.fdiv (wu64 ((wu64 (((BitVec.ofInt 64 (Int.fdiv p0 (2 ^ (min (1 : Int).toNat 64))) &&& BitVec.ofInt 64 6148914691236517205).toNat : Int))) + (wu64 (((BitVec.ofInt 64 p0 &&& BitVec.ofInt 64 6148914691236517205).toNat : Int))))) (2 ^ (min (2 : Int).toNat 64))) &&& BitVec.ofInt 64 3689348814741910323).toNat : Int))) + (wu64 (((BitVec.ofInt 64 (wu64 ((wu64 (((BitVec.ofInt 64 (Int.fdiv p0 (2 ^ (min (1 : Int).toNat 64))) &&& BitVec.ofInt 64 6148914691236517205).toNat : Int))) + (wu64 (((BitVec.ofInt 64 p0 &&& BitVec.ofInt 64 6148914691236517205).toNat : Int))))) &&& BitVec.ofInt 64 3689348814741910323).toNat : Int))))))) &&& BitVec.ofInt 64 1085102592571150095).toNat : Int))) (2 ^ (min (8 : Int).toNat 64))))) (2 ^ (min (16 : Int).toNat 64))))) + (Int.fdiv (wu64 ((wu64 ((wu64 (((BitVec.ofInt 64 (wu64 ((Int.fdiv (wu64 ((wu64 (((BitVec.ofInt 64 (Int.fdiv (wu64 ((wu64 (((BitVec.ofInt 64 (Int.fdiv p0 (2 ^ (min (1 : Int).toNat 64))) &&& BitVec.ofInt 64 6148914691236517205).toNat : Int))) + (wu64 (((BitVec.ofInt 64 p0 &&& BitVec.ofInt 64 6148914691236517205).toNat : Int))))) (2 ^ (min (2 : Int).toNat 64))) &&& BitVec.ofInt 64 3689348814741910323).toNat : Int))) + (wu64 (((BitVec.ofInt 64 (wu64 ((wu64 (((BitVec.ofInt 64 (Int.fdiv p0 (2 ^ (min (1 : Int).toNat 64))) &&& BitVec.ofInt 64 6148914691236517205).toNat : Int))) + (wu64 (((BitVec.ofInt 64 p0 &&& BitVec.ofInt 64 6148914691236517205).toNat : Int))))) &&& BitVec.ofInt 64 3689348814741910323).toNat : Int))))) (2 ^ (min (4 : Int).toNat 64))) + (wu64 ((wu64 (((BitVec.ofInt 64 (Int.fdiv (wu64 ((wu64 (((BitVec.ofInt 64 (Int.fdiv p0 (2 ^ (min (1 : Int).toNat 64))) &&& BitVec.ofInt 64 6148914691236517205).toNat : Int))) + (wu64 (((BitVec.ofInt 64 p0 &&& BitVec.ofInt 64 6148914691236517205).toNat : Int))))) (2 ^ (min (2 : Int).toNat 64))) &&& BitVec.ofInt 64 3689348814741910323).toNat : Int))) + (wu64 (((BitVec.ofInt 64 (wu64 ((wu64 (((BitVec.ofInt 64 (Int.fdiv p0 (2 ^ (min (1 : Int).toNat 64))) &&& BitVec.ofInt 64 6148914691236517205).toNat : Int))) + (wu64 (((BitVec.ofInt 64 p0 &&& BitVec.ofInt 64 6148914691236517205).toNat : Int))))) &&& BitVec.ofInt 64 3689348814741910323).toNat : Int))))))) &&& BitVec.ofInt 64 1085102592571150095).toNat : Int))) + (Int.fdiv (wu64 (((BitVec.ofInt 64 (wu64 ((Int.fdiv (wu64 ((wu64 (((BitVec.ofInt 64 (Int.fdiv (wu64 ((wu64 (((BitVec.ofInt 64 (Int.fdiv p0 (2 ^ (min (1 : Int).toNat 64))) &&& BitVec.ofInt 64 6148914691236517205).toNat : Int))) + (wu64 (((BitVec.ofInt 64 p0 &&& BitVec.ofInt 64 6148914691236517205).toNat : Int))))) (2 ^ (min (2 : Int).toNat 64))) &&& BitVec.ofInt 64 3689348814741910323).toNat : Int))) + (wu64 (((BitVec.ofInt 64 (wu64 ((wu64 (((BitVec.ofInt 64 (Int.fdiv p0 (2 ^ (min (1 : Int).toNat 64))) &&& BitVec.ofInt 64 6148914691236517205).toNat : Int))) + (wu64 (((BitVec.ofInt 64 p0 &&& BitVec.ofInt 64 6148914691236517205).toNat : Int))))) &&& BitVec.ofInt 64 3689348814741910323).toNat : Int))))) (2 ^ (min (4 : Int).toNat 64))) + (wu64 ((wu64 (((BitVec.ofInt 64 (Int.fdiv (wu64 ((wu64 (((BitVec.ofInt 64 (Int.fdiv p0 (2 ^ (min (1 : Int).toNat 64))) &&& BitVec.ofInt 64 6148914691236517205).toNat : Int))) + (wu64 (((BitVec.ofInt 64 p0 &&& BitVec.ofInt 64 6148914691236517205).toNat : Int))))) (2 ^ (min (2 : Int).toNat 64))) &&& BitVec.ofInt 64 3689348814741910323).toNat : Int))) + (wu64 (((BitVec.ofInt 64 (wu64 ((wu64 (((BitVec.ofInt 64 (Int.fdiv p0 (2 ^ (min (1 : Int).toNat 64))) &&& BitVec.ofInt 64 6148914691236517205).toNat : Int))) + (wu64 (((BitVec.ofInt 64 p0 &&& BitVec.ofInt 64 6148914691236517205).toNat : Int))))) &&& BitVec.ofInt 64 3689348814741910323).toNat : Int))))))) &&& BitVec.ofInt 64 1085102592571150095).toNat : Int))) (2 ^ (min (8 : Int).toNat 64))))) + (Int.fdiv (wu64 ((wu64 (((BitVec.ofInt 64 (wu64 ((Int.fdiv (wu64 ((wu64 (((BitVec.ofInt 64 (Int.fdiv (wu64 ((wu64 (((BitVec.ofInt 64 (Int.fdiv p0 (2 ^ (min (1 : Int).toNat 64))) &&& BitVec.ofInt 64 6148914691236517205).toNat : Int))) + (wu64 (((BitVec.ofInt 64 p0 &&& BitVec.ofInt 64 6148914691236517205).toNat : Int))))) (2 ^ (min (2 : Int).toNat 64))) &&& BitVec.ofInt 64 3689348814741910323).toNat : Int))) + (wu64 (((BitVec.ofInt 64 (wu64 ((wu64 (((BitVec.ofInt 64 (Int.fdiv p0 (2 ^ (min (1 : Int).toNat 64))) &&& BitVec.ofInt 64 6148914691236517205).toNat : Int))) + (wu64 (((BitVec.ofInt 64 p0 &&& BitVec.ofInt 64 6148914691236517205).toNat : Int))))) &&& BitVec.ofInt 64 3689348814741910323).toNat : Int))))) (2 ^ (min (4 : Int).toNat 64))) + (wu64 ((wu64 (((BitVec.ofInt 64 (Int.fdiv (wu64 ((wu64 (((BitVec.ofInt 64 (Int.fdiv p0 (2 ^ (min (1 : Int).toNat 64))) &&& BitVec.ofInt 64 6148914691236517205).toNat : Int))) + (wu64 (((BitVec.ofInt 64 p0 &&& BitVec.ofInt 64 6148914691236517205).toNat : Int))))) (2 ^ (min (2 : Int).toNat 64))) &&& BitVec.ofInt 64 3689348814741910323).toNat : Int))) + (wu64 (((BitVec.ofInt 64 (wu64 ((wu64 (((BitVec.ofInt 64 (Int.fdiv p0 (2 ^ (min (1 : Int).toNat 64))) &&& BitVec.ofInt 64 6148914691236517205).toNat : Int))) + (wu64 (((BitVec.ofInt 64 p0 &&& BitVec.ofInt 64 6148914691236517205).toNat : Int))))) &&& BitVec.ofInt 64 3689348814741910323).toNat : Int))))))) &&& BitVec.ofInt 64 1085102592571150095).toNat : Int))) + (Int.fdiv (wu64 (((BitVec.ofInt 64 (wu64 ((Int.fdiv (wu64 ((wu64 (((BitVec.ofInt 64 (Int.fdiv (wu64 ((wu64 (((BitVec.ofInt 64 (Int.fdiv p0 (2 ^ (min (1 : Int).toNat 64))) &&& BitVec.ofInt 64 6148914691236517205).toNat : Int))) + (wu64 (((BitVec.ofInt 64 p0 &&& BitVec.ofInt 64 6148914691236517205).toNat : Int))))) (2 ^ (min (2 : Int).toNat 64))) &&& BitVec.ofInt 64 3689348814741910323).toNat : Int))) + (wu64 (((BitVec.ofInt 64 (wu64 ((wu64 (((BitVec.ofInt 64 (Int.fdiv p0 (2 ^ (min (1 : Int).toNat 64))) &&& BitVec.ofInt 64 6148914691236517205).toNat : Int))) + (wu64 (((BitVec.ofInt 64 p0 &&& BitVec.ofInt 64 6148914691236517205).toNat : Int))))) &&& BitVec.ofInt 64 3689348814741910323).toNat : Int))))) (2 ^ (min (4 : Int).toNat 64))) + (wu64 ((wu64 (((BitVec.ofInt 64 (Int.fdiv (wu64 ((wu64 (((BitVec.ofInt 64 (Int.fdiv p0 (2 ^ (min (1 : Int).toNat 64))) &&& BitVec.ofInt 64 6148914691236517205).toNat : Int))) + (wu64 (((BitVec.ofInt 64 p0 &&& BitVec.ofInt 64 6148914691236517205).toNat : Int))))) (2 ^ (min (2 : Int).toNat 64))) &&& BitVec.ofInt 64 3689348814741910323).toNat : Int))) + (wu64 (((BitVec.ofInt 64 (wu64 ((wu64 (((BitVec.ofInt 64 (Int.fdiv p0 (2 ^ (min (1 : Int).toNat 64))) &&& BitVec.ofInt 64 6148914691236517205).toNat : Int))) + (wu64 (((BitVec.ofInt 64 p0 &&& BitVec.ofInt 64 6148914691236517205).toNat : Int))))) &&& BitVec.ofInt 64 3689348814741910323).toNat : Int))))))) &&& BitVec.ofInt 64 1085102592571150095).toNat : Int))) (2 ^ (min (8 : Int).toNat 64))))) (2 ^ (min (16 : Int).toNat 64))))) (2 ^ (min (32 : Int).toNat 64)))))), (2, .int .i64 0)] rfl ⟨rfl, rfl, trivial⟩ ?_
  refine WO_end ?_
  refine WK_seq ?_
  refine WK_region ?_
  refine WO_pure tbok 4 [(2, .int .i64 (w64 (((BitVec.ofInt 64 (w64 (wu64 ((wu64 ((wu64 ((wu64 (((BitVec.ofInt 64 (wu64 ((Int.fdiv (wu64 ((wu64 (((BitVec.ofInt 64 (Int.fdiv (wu64 ((wu64 (((BitVec.ofInt 64 (Int.fdiv p0 (2 ^ (min (1 : Int).toNat 64))) &&& BitVec.ofInt 64 6148914691236517205).toNat : Int))) + (wu64 (((BitVec.ofInt 64 p0 &&& BitVec.ofInt 64 6148914691236517205).toNat : Int))))) (2 ^ (min (2 : Int).toNat 64))) &&& BitVec.ofInt 64 3689348814741910323).toNat : Int))) + (wu64 (((BitVec.ofInt 64 (wu64 ((wu64 (((BitVec.ofInt 64 (Int.fdiv p0 (2 ^ (min (1 : Int).toNat 64))) &&& BitVec.ofInt 64 6148914691236517205).toNat : Int))) + (wu64 (((BitVec.ofInt 64 p0 &&& BitVec.ofInt 64 6148914691236517205).toNat : Int))))) &&& BitVec.ofInt 64 3689348814741910323).toNat : Int))))) (2 ^ (min (4 : Int).toNat 64))) + (wu64 ((wu64 (((BitVec.ofInt 64 (Int.fdiv (wu64 ((wu64 (((BitVec.ofInt 64 (Int.fdiv p0 (2 ^ (min (1 : Int).toNat 64))) &&& BitVec.ofInt 64 6148914691236517205).toNat : Int))) + (wu64 (((BitVec.ofInt 64 p0 &&& BitVec.ofInt 64 6148914691236517205).toNat : Int))))) (2 ^ (min (2 : Int).toNat 64))) &&& BitVec.ofInt 64 3689348814741910323).toNat : Int))) + (wu64 (((BitVec.ofInt 64 (wu64 ((wu64 (((BitVec.ofInt 64 (Int.fdiv p0 (2 ^ (min (1 : Int).toNat 64))) &&& BitVec.ofInt 64 6148914691236517205).toNat : Int))) + (wu64 (((BitVec.ofInt 64 p0 &&& BitVec.ofInt 64 6148914691236517205).toNat : Int))))) &&& BitVec.ofInt 64 3689348814741910323).toNat : Int))))))) &&& BitVec.ofInt 64 1085102592571150095).toNat : Int))) + (Int.fdiv (wu64 (((BitVec.ofInt 64 (wu64 ((Int.fdiv (wu64 ((wu64 (((BitVec.ofInt 64 (Int.fdiv (wu64 ((wu64 (((BitVec.ofInt 64 (Int.fdiv p0 (2 ^ (min (1 : Int).toNat 64))) &&& BitVec.ofInt 64 6148914691236517205).toNat : Int))) + (wu64 (((BitVec.ofInt 64 p0 &&& BitVec.ofInt 64 6148914691236517205).toNat : Int))))) (2 ^ (min (2 : Int).toNat 64))) &&& BitVec.ofInt 64 3689348814741910323).toNat : Int))) + (wu64 (((BitVec.ofInt 64 (wu64 ((wu64 (((BitVec.ofInt 64 (Int.fdiv p0 (2 ^ (min (1 : Int).toNat 64))) &&& BitVec.ofInt 64 6148914691236517205).toNat : Int))) + (wu64 (((BitVec.ofInt 64 p0 &&& BitVec.ofInt 64 6148914691236517205).toNat : Int))))) &&& BitVec.ofInt 64 3689348814741910323).toNat : Int))))) (2 ^ (min (4 : Int).toNat 64))) + (wu64 ((wu64 (((BitVec.ofInt 64 (Int.fdiv (wu64 ((wu64 (((BitVec.ofInt 64 (Int.fdiv p0 (2 ^ (min (1 : Int).toNat 64))) &&& BitVec.ofInt 64 6148914691236517205).toNat : Int))) + (wu64 (((BitVec.ofInt 64 p0 &&& BitVec.ofInt 64 6148914691236517205).toNat : Int))))) (2 ^ (min (2 : Int).toNat 64))) &&& BitVec.ofInt 64 3689348814741910323).toNat : Int))) + (wu64 (((BitVec.ofInt 64 (wu64 ((wu64 (((BitVec.ofInt 64 (Int.fdiv p0 (2 ^ (min (1 : Int).toNat 64))) &&& BitVec.ofInt 64 6148914691236517205).toNat : Int))) + (wu64 (((BitVec.ofInt 64 p0 &&& BitVec.ofInt 64 6148914691236517205).toNat : Int))))) &&& BitVec.ofInt 64 3689348814741910323).toNat : Int))))))) &&& BitVec.ofInt 64 1085102592571150095).toNat : Int))) (2 ^ (min (8 : Int).toNat 64))))) + (Int.fdiv (wu64 ((wu64 (((BitVec.ofInt 64 (wu64 ((Int.fdiv (wu64 ((wu64 (((BitVec.ofInt 64 (Int.fdiv (wu64 ((wu64 (((BitVec.ofInt 64 (Int.fdiv p0 (2 ^ (min (1 : Int).toNat 64))) &&& BitVec.ofInt 64 6148914691236517205).toNat : Int))) + (wu64 (((BitVec.ofInt 64 p0 &&& BitVec.ofInt 64 6148914691236517205).toNat : Int))))) (2 ^ (min (2 : Int).toNat 64))) &&& BitVec.ofInt 64 3689348814741910323).toNat : Int))) + (wu64 (((BitVec.ofInt 64 (wu64 ((wu64 (((BitVec.ofInt 64 (Int.fdiv p0 (2 ^ (min (1 : Int).toNat 64))) &&& BitVec.ofInt 64 6148914691236517205).toNat : Int))) + (wu64 (((BitVec.ofInt 64 p0 &&& BitVec.ofInt 64 6148914691236517205).toNat : Int))))) &&& BitVec.ofInt 64 3689348814741910323).toNat : Int))))) (2 ^ (min (4 : Int).toNat 64))) + (wu64 ((wu64 (((BitVec.ofInt 64 (Int.fdiv (wu64 ((wu64 (((BitVec.ofInt 64 (Int.fdiv p0 (2 ^ (min (1 : Int).toNat 64))) &&& BitVec.ofInt 64 6148914691236517205).toNat : Int))) + (wu64 (((BitVec.ofInt 64 p0 &&& BitVec.ofInt 64 6148914691236517205).toNat : Int))))) (2 ^ (min (2 : Int).toNat 64))) &&& BitVec.ofInt 64 3689348814741910323).toNat : Int))) + (wu64 (((BitVec.ofInt 64 (wu64 ((wu64 (((BitVec.ofInt 64 (Int.fdiv p0 (2 ^ (min (1 : Int).toNat 64))) &&& BitVec.ofInt 64 6148914691236517205).toNat : Int))) + (wu64 (((BitVec.ofInt 64 p0 &&& BitVec.ofInt 64 6148914691236517205).toNat : Int))))) &&& BitVec.ofInt 64 3689348814741910323).toNat : Int))))))) &&& BitVec.ofInt 64 1085102592571150095).toNat : Int))) + (Int.fdiv (wu64 (((BitVec.ofInt 64 (wu64 ((Int.fdiv (wu64 ((wu64 (((BitVec.ofInt 64 (Int.fdiv (wu64 ((wu64 (((BitVec.ofInt 64 (Int.fdiv p0 (2 ^ (min (1 : Int).toNat 64))) &&& BitVec.ofInt 64 6148914691236517205).toNat : Int))) + (wu64 (((BitVec.ofInt 64 p0 &&& BitVec.ofInt 64 6148914691236517205).toNat : Int))))) (2 ^ (min (2 : Int).toNat 64))) &&& BitVec.ofInt 64 3689348814741910323).toNat : Int))) + (wu64 (((BitVec.ofInt 64 (wu64 ((wu64 (((BitVec.ofInt 64 (Int.fdiv p0 (2 ^ (min (1 : Int).toNat 64))) &&& BitVec.ofInt 64 6148914691236517205).toNat : Int))) + (wu64 (((BitVec.ofInt 64 p0 &&& BitVec.ofInt 64 6148914691236517205).toNat : Int))))) &&& BitVec.ofInt 64 3689348814741910323).toNat : Int))))) (2 ^ (min (4 : Int).toNat 64))) + (wu64 ((wu64 (((BitVec.ofInt 64 (Int.fdiv (wu64 ((wu64 (((BitVec.ofInt 64 (Int.fdiv p0 (2 ^ (min (1 : Int).toNat 64))) &&& BitVec.ofInt 64 6148914691236517205).toNat : Int))) + (wu64 (((BitVec.ofInt 64 p0 &&& BitVec.ofInt 64 6148914691236517205).toNat : Int))))) (2 ^ (min (2 : Int).toNat 64))) &&& BitVec.ofInt 64 3689348814741910323).toNat : Int))) + (wu64 (((BitVec.ofInt 64 (wu64 ((wu64 (((BitVec.ofInt 64 (Int.fdiv p0 (2 ^ (min (1 : Int).toNat 64))) &&& BitVec.ofInt 64 6148914691236517205).toNat : Int))) + (wu64 (((BitVec.ofInt 64 p0 &&& BitVec.ofInt 64 6148914691236517205).toNat : Int))))) &&& BitVec.ofInt 64 3689348814741910323).toNat : Int))))))) &&& BitVec.ofInt 64 1085102592571150095).toNat : Int))) (2 ^ (min (8 : Int).toNat 64))))) (2 ^ (min (16 : Int).toNat 64))))) + (Int.fdiv (wu64 ((wu64 ((wu64 (((BitVec.ofInt 64 (wu64 ((Int.fdiv (wu64 ((wu64 (((BitVec.ofInt 64 (Int.fdiv (wu64 ((wu64 (((BitVec.ofInt 64 (Int.fdiv p0 (2 ^ (min (1 : Int).toNat 64))) &&& BitVec.ofInt 64 6148914691236517205).toNat : Int))) + (wu64 (((BitVec.ofInt 64 p0 &&& BitVec.ofInt 64 6148914691236517205).toNat : Int))))) (2 ^ (min (2 : Int).toNat 64))) &&& BitVec.ofInt 64 3689348814741910323).toNat : Int))) + (wu64 (((BitVec.ofInt 64 (wu64 ((wu64 (((BitVec.ofInt 64 (Int.fdiv p0 (2 ^ (min (1 : Int).toNat 64))) &&& BitVec.ofInt 64 6148914691236517205).toNat : Int))) + (wu64 (((BitVec.ofInt 64 p0 &&& BitVec.ofInt 64 6148914691236517205).toNat : Int))))) &&& BitVec.ofInt 64 3689348814741910323).toNat : Int))))) (2 ^ (min (4 : Int).toNat 64))) + (wu64 ((wu64 (((BitVec.ofInt 64 (Int.fdiv (wu64 ((wu64 (((BitVec.ofInt 64 (Int.fdiv p0 (2 ^ (min (1 : Int).toNat 64))) &&& BitVec.ofInt 64 6148914691236517205).toNat : Int))) + (wu64 (((BitVec.ofInt 64 p0 &&& BitVec.ofInt 64 6148914691236517205).toNat : Int))))) (2 ^ (min (2 : Int).toNat 64))) &&& BitVec.ofInt 64 3689348814741910323).toNat : Int))) + (wu64 (((BitVec.ofInt 64 (wu64 ((wu64 (((BitVec.ofInt 64 (Int.fdiv p0 (2 ^ (min (1 : Int).toNat 64))) &&& BitVec.ofInt 64 6148914691236517205).toNat : Int))) + (wu64 (((BitVec.ofInt 64 p0 &&& BitVec.ofInt 64 6148914691236517205).toNat : Int))))) &&& BitVec.ofInt 64 3689348814741910323).toNat : Int))))))) &&& BitVec.ofInt 64 1085102592571150095).toNat : Int))) + (Int.fdiv (wu64 (((BitVec.ofInt 64 (wu64 ((Int.fdiv (wu64 ((wu64 (((BitVec.ofInt 64 (Int.fdiv (wu64 ((wu64 (((BitVec.ofInt 64 (Int.fdiv p0 (2 ^ (min (1 : Int).toNat 64))) &&& BitVec.ofInt 64 6148914691236517205).toNat : Int))) + (wu64 (((BitVec.ofInt 64 p0 &&& BitVec.ofInt 64 6148914691236517205).toNat : Int))))) (2 ^ (min (2 : Int).toNat 64))) &&& BitVec.ofInt 64 3689348814741910323).toNat : Int))) + (wu64 (((BitVec.ofInt 64 (wu64 ((wu64 (((BitVec.ofInt 64 (Int.fdiv p0 (2 ^ (min (1 : Int).toNat 64))) &&& BitVec.ofInt 64 6148914691236517205).toNat : Int))) + (wu64 (((BitVec.ofInt 64 p0 &&& BitVec.ofInt 64 6148914691236517205).toNat : Int))))) &&& BitVec.ofInt 64 3689348814741910323).toNat : Int))))) (2 ^ (min (4 : Int).toNat 64))) + (wu64 ((wu64 (((BitVec.ofInt 64 (Int.fdiv (wu64 ((wu64 (((BitVec.ofInt 64 (Int.fdiv p0 (2 ^ (min (1 : Int).toNat 64))) &&& BitVec.ofInt 64 6148914691236517205).toNat : Int))) + (wu64 (((BitVec.ofInt 64 p0 &&& BitVec.ofInt 64 6148914691236517205).toNat : Int))))) (2 ^ (min (2 : Int).toNat 64))) &&& BitVec.ofInt 64 3689348814741910323).toNat : Int))) + (wu64 (((BitVec.ofInt 64 (wu64 ((wu64 (((BitVec.ofInt 64 (Int.fdiv p0 (2 ^ (min (1 : Int).toNat 64))) &&& BitVec.ofInt 64 6148914691236517205).toNat : Int))) + (wu64 (((BitVec.ofInt 64 p0 &&& BitVec.ofInt 64 6148914691236517205).toNat : Int))))) &&& BitVec.ofInt 64 3689348814741910323).toNat : Int))))))) &&& BitVec.ofInt 64 1085102592571150095).toNat : Int))) (2 ^ (min (8 : Int).toNat 64))))) + (Int.fdiv (wu64 ((wu64 (((BitVec.ofInt 64 (wu64 ((Int.fdiv (wu64 ((wu64 (((BitVec.ofInt 64 (Int.fdiv (wu64 ((wu64 (((BitVec.ofInt 64 (Int.fdiv p0 (2 ^ (min (1 : Int).toNat 64))) &&& BitVec.ofInt 64 6148914691236517205).toNat : Int))) + (wu64 (((BitVec.ofInt 64 p0 &&& BitVec.ofInt 64 6148914691236517205).toNat : Int))))) (2 ^ (min (2 : Int).toNat 64))) &&& BitVec.ofInt 64 3689348814741910323).toNat : Int))) + (wu64 (((BitVec.ofInt 64 (wu64 ((wu64 (((BitVec.ofInt 64 (Int.fdiv p0 (2 ^ (min (1 : Int).toNat 64))) &&& BitVec.ofInt 64 6148914691236517205).toNat : Int))) + (wu64 (((BitVec.ofInt 64 p0 &&& BitVec.ofInt 64 6148914691236517205).toNat : Int))))) &&& BitVec.ofInt 64 3689348814741910323).toNat : Int))))) (2 ^ (min (4 : Int).toNat 64))) + (wu64 ((wu64 (((BitVec.ofInt 64 (Int.fdiv (wu64 ((wu64 (((BitVec.ofInt 64 (Int.fdiv p0 (2 ^ (min (1 : Int).toNat 64))) &&& BitVec.ofInt 64 6148914691236517205).toNat : Int))) + (wu64 (((BitVec.ofInt 64 p0 &&& BitVec.ofInt 64 6148914691236517205).toNat : Int))))) (2 ^ (min (2 : Int).toNat 64))) &&& BitVec.ofInt 64 3689348814741910323).toNat : Int))) + (wu64 (((BitVec.ofInt 64 (wu64 ((wu64 (((BitVec.ofInt 64 (Int.fdiv p0 (2 ^ (min (1 : Int).toNat 64))) &&& BitVec.ofInt 64 6148914691236517205).toNat : Int))) + (wu64 (((BitVec.ofInt 64 p0 &&& BitVec.ofInt 64 6148914691236517205).toNat : Int))))) &&& BitVec.ofInt 64 3689348814741910323).toNat : Int))))))) &&& BitVec.ofInt 64 1085102592571150095).toNat : Int))) + (Int.fdiv (wu64 (((BitVec.ofInt 64 (wu64 ((Int.fdiv (wu64 ((wu64 (((BitVec.ofInt 64 (Int.fdiv (wu64 ((wu64 (((BitVec.ofInt 64 (Int.fdiv p0 (2 ^ (min (1 : Int).toNat 64))) &&& BitVec.ofInt 64 6148914691236517205).toNat : Int))) + (wu64 (((BitVec.ofInt 64 p0 &&& BitVec.ofInt 64 6148914691236517205).toNat : Int))))) (2 ^ (min (2 : Int).toNat 64))) &&& BitVec.ofInt 64 3689348814741910323).toNat : Int))) + (wu64 (((BitVec.ofInt 64 (wu64 ((wu64 (((BitVec.ofInt 64 (Int.fdiv p0 (2 ^ (min (1 : Int).toNat 64))) &&& BitVec.ofInt 64 6148914691236517205).toNat : Int))) + (wu64 (((BitVec.ofInt 64 p0 &&& BitVec.ofInt 64 6148914691236517205).toNat : Int))))) &&& BitVec.ofInt 64 3689348814741910323).toNat : Int))))) (2 ^ (min (4 : Int).toNat 64))) + (wu64 ((wu64 (((BitVec.ofInt 64 (Int.fdiv (wu64 ((wu64 (((BitVec.ofInt 64 (Int.fdiv p0 (2 ^ (min (1 : Int).toNat 64))) &&& BitVec.ofInt 64 6148914691236517205).toNat : Int))) + (wu64 (((BitVec.ofInt 64 p0 &&& BitVec.ofInt 64 6148914691236517205).toNat : Int))))) (2 ^ (min (2 : Int).toNat 64))) &&& BitVec.ofInt 64 3689348814741910323).toNat : Int))) + (wu64 (((BitVec.ofInt 64 (wu64 ((wu64 (((BitVec.ofInt 64 (Int.fdiv p0 (2 ^ (min (1 : Int).toNat 64))) &&& BitVec.ofInt 64 6148914691236517205).toNat : Int))) + (wu64 (((BitVec.ofInt 64 p0 &&& BitVec.ofInt 64 6148914691236517205).toNat : Int))))) &&& BitVec.ofInt 64 3689348814741910323).toNat : Int))))))) &&& BitVec.ofInt 64 1085102592571150095).toNat : Int))) (2 ^ (min (8 : Int).toNat 64))))) (2 ^ (min (16 : Int).toNat 64))))) (2 ^ (min (32 : Int).toNat 64)))))) &&& BitVec.ofInt 64 127).toNat : Int))))] rfl ⟨rfl, trivial⟩ ?_
  refine WO_end ?_
  cases hm
  exact WK_ret (ret_out (L := []) (RLc_tmp rfl RLc_nil) (List.nil_sublist _) rfl)
theorem neighbour_Distance_walk {m : Mu} {p0 : Int} {p1 : Int}   {r : Int} (hm : neighbour_Distance p0 p1 = some r) :
    Go.E.Spec Try.prog 78 [.int .u64 p0, .int .u64 p1] m (fun v _ _ => v = .int .i64 r) := by
  refine Spec_enter Try.func78 rfl rfl rfl (fun w0 => ?_)
  refine WK.sub (e' := [(0, .int .u64 p0), (1, .int .u64 p1)]) ⟨rfl, rfl, trivial⟩ ?_
  refine WK.sub (e' := [(0, .int .u64 p0), (1, .int .u64 p1)]) ⟨rfl, rfl, trivial⟩ ?_
  unfold neighbour_Distance at hm
  refine WK_seq ?_
  refine WK_region ?_
  refine WO_pure tbok 1 [(0, .int .u64 p0), (1, .int .u64 p1), (4, .int .i64 0)] rfl ⟨rfl, rfl, rfl, trivial⟩ ?_
  refine WO_end ?_
  refine WK_seq ?_
  refine WK_region ?_
  refine WO_pure tbok 3 [(4, .int .i64 0), (7, .int .u64 (wu64 (((BitVec.ofInt 64 p0 ^^^ BitVec.ofInt 64 p1).toNat : Int))))] rfl ⟨rfl, rfl, trivial⟩ ?_
  obtain ⟨y_1, hc1, hm⟩ := bind_some hm
  refine WO_call0 (.int .i64 y_1) rfl rfl trivial rfl rfl rfl rfl St_closed ⟨84, #[], #[], rfl, callable_84, fun w hw => ⟨_, hw.sat, bits_OnesCount64_walk hc1⟩⟩ ?_
  refine WO_pure tbok 1 [(4, .int .i64 y_1)] rfl ⟨rfl, trivial⟩ ?_
  refine WO_end ?_
  cases hm
  exact WK_ret (ret_out (L := []) (RLc_tmp rfl RLc_nil) (List.nil_sublist _) rfl)
theorem neighbour_nearest_walk {m : Mu} {p0 : List Int} {p1 : Int} {p2 : Int} {a_p0 : Option Addr} {q_p0 c_p0 : Nat} (h_p0 : SlR (FE (I1 .u64)) 1 m (.slice a_p0 q_p0 c_p0) p0) {r : Int × Int} (hm : neighbour_nearest p0 p1 p2 = some r) :
    Go.E.Spec Try.prog 62 [.slice a_p0 q_p0 c_p0, .int .u64 p1, .int .i64 p2] m (fun v _ _ => v = .tuple #[.int .i64 r.1, .int .i64 r.2]) := by
  refine Spec_enter Try.func62 rfl rfl rfl (fun w0 => ?_)
  refine WK.sub (e' := [(0, .slice a_p0 q_p0 c_p0), (1, .int .u64 p1), (2, .int .i64 p2)]) ⟨rfl, rfl, rfl, trivial⟩ ?_
  obtain rfl := SlR.qlen h_p0
  refine WK.sub (e' := [(0, .slice a_p0 p0.length c_p0), (1, .int .u64 p1), (2, .int .i64 p2)]) ⟨rfl, rfl, rfl, trivial⟩ ?_
  unfold neighbour_nearest at hm
  refine WK_seq ?_
  refine WK_region ?_
  refine WO_pure tbok 2 [(0, .slice a_p0 p0.length c_p0), (1, .int .u64 p1), (2, .int .i64 p2), (6, .int .i64 0), (7, .int .i64 0)] rfl ⟨rfl, rfl, rfl, rfl, rfl, trivial⟩ ?_
  refine WO_end ?_
  refine WK_seq ?_
  refine WK_region ?_
  refine WO_pure tbok 1 [(0, .slice a_p0 p0.length c_p0), (1, .int .u64 p1), (2, .int .i64 p2), (6, .int .i64 (-1)), (7, .int .i64 0)] rfl ⟨rfl, rfl, rfl, rfl, rfl, trivial⟩ ?_
  refine WO_end ?_
  refine WK_seq ?_
  refine WK_seq ?_
  refine WK_region ?_
  refine WO_pure tbok 3 [(1, .int .u64 p1), (2, .int .i64 p2), (6, .int .i64 (-1)), (7, .int .i64 0), (11, .slice a_p0 p0.length c_p0), (12, .int .i64 (p0.length : Int)), (13, .int .i64 0)] rfl ⟨rfl, rfl, rfl, rfl, rfl, rfl, rfl, trivial⟩ ?_
  refine WO_end ?_
  obtain ⟨x1, hx2, hm⟩ := bind_some hm
  refine WK_join (β := (Int × Int) × Unit) (fun p => p.1 = x1) (fun p => [(6, .int .i64 p.1.1), (7, .int .i64 p.1.2)]) (fun p => St w0 m m []) ?_ (fun hk3 => ?_)
  · rintro ⟨⟨s_4, s_5⟩, ⟨⟩⟩ hq9
    subst hq9
    refine WK.sub (e' := [(6, .int .i64 s_4), (7, .int .i64 s_5)]) ⟨rfl, rfl, trivial⟩ (WK.cls (C' := St w0 m m []) (fun _ h => h) ?_)
    refine WK_seq ?_
    refine WK_region ?_
    refine WO_pure tbok 4 [(6, .int .i64 s_4), (7, .int .i64 s_5)] rfl ⟨rfl, rfl, trivial⟩ ?_
    refine WO_end ?_
    cases hm
    exact WK_ret (ret_out (L := []) (RLc_tmp rfl (RLc_tmp rfl RLc_nil)) (List.nil_sublist _) rfl)
  · refine WK_block ?_
    refine WK_loop (S := Int × Int × Int) (G := Unit) (fun s => neighbour_nearest_s1 p0 p1 p2 s.1 s.2.1 s.2.2) (fun s g => [(1, .int .u64 p1), (2, .int .i64 p2), (6, .int .i64 s.1), (7, .int .i64 s.2.1), (11, .slice a_p0 p0.length c_p0), (12, .int .i64 (p0.length : Int)), (13, .int .i64 s.2.2)]) (fun s g => St w0 m m []) (fun s g => True) FUEL ((-1), 0, 0) () x1 hx2 trivial ⟨rfl, rfl, rfl, rfl, rfl, rfl, rfl, trivial⟩ (fun _ h => h) ?_
    rintro ⟨s_1, s_2, s_3⟩ ⟨⟩ o5 fl6 hm4 - hn7 hd8
    have hm4 : neighbour_nearest_s1 p0 p1 p2 s_1 s_2 s_3 = some o5 := hm4
    unfold neighbour_nearest_s1 at hm4
    refine WK.sub (e' := [(1, .int .u64 p1), (2, .int .i64 p2), (6, .int .i64 s_1), (7, .int .i64 s_2), (11, .slice a_p0 p0.length c_p0), (12, .int .i64 (p0.length : Int)), (13, .int .i64 s_3)]) ⟨rfl, rfl, rfl, rfl, rfl, rfl, rfl, trivial⟩ (WK.cls (C' := St w0 m m []) (fun _ h => h) ?_)
    refine WK_seq ?_
    refine WK_region ?_
    refine WO_pure tbok 1 [(1, .int .u64 p1), (2, .int .i64 p2), (6, .int .i64 s_1), (7, .int .i64 s_2), (11, .slice a_p0 p0.length c_p0), (12, .int .i64 (p0.length : Int)), (13, .int .i64 s_3), (14, .bool (decide (s_3 < (p0.length : Int))))] rfl ⟨rfl, rfl, rfl, rfl, rfl, rfl, rfl, rfl, trivial⟩ ?_
    refine WO_end ?_
    refine WK_seq ?_
    refine WK_cond (b := decide (s_3 < (p0.length : Int))) rfl (fun hb10 => ?_) (fun hb10 => ?_)
    · have hm4 := ifT hb10 hm4
      refine WK_skip ?_
      refine WK_seq ?_
      refine WK_block ?_
      refine WK_seq ?_
      refine WK_region ?_
      refine WO_pure tbok 1 [(1, .int .u64 p1), (2, .int .i64 p2), (6, .int .i64 s_1), (7, .int .i64 s_2), (11, .slice a_p0 p0.length c_p0), (12, .int .i64 (p0.length : Int)), (13, .int .i64 s_3), (15, .int .i64 s_3)] rfl ⟨rfl, rfl, rfl, rfl, rfl, rfl, rfl, rfl, trivial⟩ ?_
      obtain ⟨v_6, hy11, hm4⟩ := bind_some hm4
      obtain ⟨hc12, hy11⟩ := ix_some hy11
      refine WO_index tbok rfl rfl rfl rfl rfl rfl rfl rfl (SlR.addr h_p0) hc12 ?_
      refine WO_loadE tbok rfl rfl rfl rfl (fun _ h => St.sat h) h_p0 hy11 rfl ?_
      refine WO_pure tbok 2 [(1, .int .u64 p1), (2, .int .i64 p2), (6, .int .i64 s_1), (7, .int .i64 s_2), (8, .int .i64 s_3), (9, .int .u64 v_6), (11, .slice a_p0 p0.length c_p0), (12, .int .i64 (p0.length : Int)), (13, .int .i64 s_3)] rfl ⟨rfl, rfl, rfl, rfl, rfl, rfl, rfl, rfl, rfl, trivial⟩ ?_
      refine WO_end ?_
      refine WK_seq ?_
      refine WK_region ?_
      refine WO_pure tbok 2 [(1, .int .u64 p1), (2, .int .i64 p2), (6, .int .i64 s_1), (7, .int .i64 s_2), (8, .int .i64 s_3), (11, .slice a_p0 p0.length c_p0), (12, .int .i64 (p0.length : Int)), (13, .int .i64 s_3), (18, .int .u64 v_6), (19, .int .u64 p1)] rfl ⟨rfl, rfl, rfl, rfl, rfl, rfl, rfl, rfl, rfl, rfl, trivial⟩ ?_
      obtain ⟨y_7, hc13, hm4⟩ := bind_some hm4
      refine WO_call0 (.int .i64 y_7) rfl rfl trivial rfl rfl rfl rfl St_closed ⟨78, #[], #[], rfl, callable_78, fun w hw => ⟨_, hw.sat, neighbour_Distance_walk hc13⟩⟩ ?_
      refine WO_pure tbok 1 [(1, .int .u64 p1), (2, .int .i64 p2), (6, .int .i64 s_1), (7, .int .i64 s_2), (8, .int .i64 s_3), (10, .int .i64 y_7), (11, .slice a_p0 p0.length c_p0), (12, .int .i64 (p0.length : Int)), (13, .int .i64 s_3)] rfl ⟨rfl, rfl, rfl, rfl, rfl, rfl, rfl, rfl, rfl, trivial⟩ ?_
      refine WO_end ?_
      refine WK_seq ?_
      obtain ⟨s_8, hx14, hm4⟩ := bind_some hm4
      refine WK_meet [(1, .int .u64 p1), (2, .int .i64 p2), (6, .int .i64 s_1), (7, .int .i64 s_2), (8, .int .i64 s_3), (10, .int .i64 y_7), (11, .slice a_p0 p0.length c_p0), (12, .int .i64 (p0.length : Int)), (13, .int .i64 s_3), (32, .bool s_8)] (St w0 m m []) ?_ (fun hk15 => ?_)
      · obtain ⟨⟨s_9, s_10⟩, hx16, hm4⟩ := bind_some hm4
        refine WK_meet [(1, .int .u64 p1), (2, .int .i64 p2), (6, .int .i64 s_9), (7, .int .i64 s_10), (11, .slice a_p0 p0.length c_p0), (12, .int .i64 (p0.length : Int)), (13, .int .i64 s_3)] (St w0 m m []) ?_ (fun hk17 => ?_)
        · refine WK_blk ?_
          refine WK_region ?_
          refine WO_pure tbok 2 [(1, .int .u64 p1), (2, .int .i64 p2), (6, .int .i64 s_9), (7, .int .i64 s_10), (11, .slice a_p0 p0.length c_p0), (12, .int .i64 (p0.length : Int)), (13, .int .i64 (w64 (s_3 + 1)))] rfl ⟨rfl, rfl, rfl, rfl, rfl, rfl, rfl, trivial⟩ ?_
          refine WO_end ?_
          cases hm4
          refine WK.sub ?_ (WK.cls (fun _ h => h) (hn7 _ () rfl trivial))
          exact ⟨rfl, rfl, rfl, rfl, rfl, rfl, rfl, trivial⟩
        · refine WK_cond (b := s_8) rfl (fun hb18 => ?_) (fun hb18 => ?_)
          · have hx16 := ifT hb18 hx16
            refine WK_region ?_
            refine WO_pure tbok 4 [(1, .int .u64 p1), (2, .int .i64 p2), (6, .int .i64 s_3), (7, .int .i64 y_7), (11, .slice a_p0 p0.length c_p0), (12, .int .i64 (p0.length : Int)), (13, .int .i64 s_3)] rfl ⟨rfl, rfl, rfl, rfl, rfl, rfl, rfl, trivial⟩ ?_
            refine WO_end ?_
            cases hx16
            refine WK.sub ?_ (WK.cls (fun _ h => h) hk17)
            exact ⟨rfl, rfl, rfl, rfl, rfl, rfl, rfl, trivial⟩
          · have hx16 := ifF hb18 hx16
            refine WK_skip ?_
            cases hx16
            refine WK.sub ?_ (WK.cls (fun _ h => h) hk17)
            exact ⟨rfl, rfl, rfl, rfl, rfl, rfl, rfl, trivial⟩
      · refine WK_region ?_
        refine WO_pure tbok 4 [(1, .int .u64 p1), (2, .int .i64 p2), (6, .int .i64 s_1), (7, .int .i64 s_2), (8, .int .i64 s_3), (10, .int .i64 y_7), (11, .slice a_p0 p0.length c_p0), (12, .int .i64 (p0.length : Int)), (13, .int .i64 s_3), (24, .bool (s_3 != p2))] rfl ⟨rfl, rfl, rfl, rfl, rfl, rfl, rfl, rfl, rfl, rfl, trivial⟩ ?_
        refine WO_split (d := 24) (b := s_3 != p2) rfl (fun hb19 => ?_) (fun hb19 => ?_)
        · have hx14 := ifT hb19 hx14
          refine WO_pure tbok 3 [(1, .int .u64 p1), (2, .int .i64 p2), (6, .int .i64 s_1), (7, .int .i64 s_2), (8, .int .i64 s_3), (10, .int .i64 y_7), (11, .slice a_p0 p0.length c_p0), (12, .int .i64 (p0.length : Int)), (13, .int .i64 s_3), (24, .bool true), (27, .bool (decide (s_1 < 0)))] rfl ⟨rfl, rfl, rfl, rfl, rfl, rfl, rfl, rfl, rfl, rfl, rfl, trivial⟩ ?_
          refine WO_split (d := 27) (b := decide (s_1 < 0)) rfl (fun hb20 => ?_) (fun hb20 => ?_)
          · have hx14 := ifT hb20 hx14
            refine WO_pure tbok 5 [(1, .int .u64 p1), (2, .int .i64 p2), (6, .int .i64 s_1), (7, .int .i64 s_2), (8, .int .i64 s_3), (10, .int .i64 y_7), (11, .slice a_p0 p0.length c_p0), (12, .int .i64 (p0.length : Int)), (13, .int .i64 s_3), (32, .bool true)] rfl ⟨rfl, rfl, rfl, rfl, rfl, rfl, rfl, rfl, rfl, rfl, trivial⟩ ?_
            refine WO_end ?_
            cases hx14
            refine WK.sub ?_ (WK.cls (fun _ h => h) hk15)
            exact ⟨rfl, rfl, rfl, rfl, rfl, rfl, rfl, rfl, rfl, rfl, trivial⟩
          · have hx14 := ifF hb20 hx14
            refine WO_pure tbok 5 [(1, .int .u64 p1), (2, .int .i64 p2), (6, .int .i64 s_1), (7, .int .i64 s_2), (8, .int .i64 s_3), (10, .int .i64 y_7), (11, .slice a_p0 p0.length c_p0), (12, .int .i64 (p0.length : Int)), (13, .int .i64 s_3), (32, .bool (decide (y_7 < s_2)))] rfl ⟨rfl, rfl, rfl, rfl, rfl, rfl, rfl, rfl, rfl, rfl, trivial⟩ ?_
            refine WO_end ?_
            cases hx14
            refine WK.sub ?_ (WK.cls (fun _ h => h) hk15)
            exact ⟨rfl, rfl, rfl, rfl, rfl, rfl, rfl, rfl, rfl, rfl, trivial⟩
        · have hx14 := ifF hb19 hx14
          refine WO_pure tbok 8 [(1, .int .u64 p1), (2, .int .i64 p2), (6, .int .i64 s_1), (7, .int .i64 s_2), (8, .int .i64 s_3), (10, .int .i64 y_7), (11, .slice a_p0 p0.length c_p0), (12, .int .i64 (p0.length : Int)), (13, .int .i64 s_3), (32, .bool false)] rfl ⟨rfl, rfl, rfl, rfl, rfl, rfl, rfl, rfl, rfl, rfl, trivial⟩ ?_
          refine WO_end ?_
          cases hx14
          refine WK.sub ?_ (WK.cls (fun _ h => h) hk15)
          exact ⟨rfl, rfl, rfl, rfl, rfl, rfl, rfl, rfl, rfl, rfl, trivial⟩
    · have hm4 := ifF hb10 hm4
      refine WK_exit rfl ?_
      cases hm4
      refine WK.sub ?_ (WK.cls (fun _ h => h) (hk3 ((s_1, s_2), ()) (hd8 _ rfl)))
      exact ⟨rfl, rfl, trivial⟩
theorem neighbour_Matches_c1_walk {m : Mu} {p0 : List Int} {p1 : Int} {p2 : Int} {p3 : Int} {q0_0 : Int} {q1_0 : Int} {a_p0 : Option Addr} {q_p0 c_p0 : Nat} {b_q0 : Nat} {b_q1 : Nat} (h_p0 : SlR (FE (I1 .u64)) 1 m (.slice a_p0 q_p0 c_p0) p0) (hb_q0 : m b_q0 = some (Ent.obj ⟨b_q0, 3, [.int .i64 q0_0]⟩)) (hb_q1 : m b_q1 = some (Ent.obj ⟨b_q1, 3, [.int .i64 q1_0]⟩)) {r : Bool} (hm : neighbour_Matches_c1 p0 p1 p2 p3 q0_0 q1_0 = some r) :
    Go.E.Spec Try.prog 61 [.slice a_p0 q_p0 c_p0, .int .u64 p1, .int .i64 p2, .int .i64 p3, .pointer (some ⟨b_q0, 0, none⟩), .pointer (some ⟨b_q1, 0, none⟩)] m (fun v _ _ => v = .bool r) := by
  refine Spec_enter Try.func61 rfl rfl rfl (fun w0 => ?_)
  refine WK.sub (e' := [(0, .slice a_p0 q_p0 c_p0), (1, .int .u64 p1), (2, .int .i64 p2), (3, .int .i64 p3), (4, .pointer (some ⟨b_q0, 0, none⟩)), (5, .pointer (some ⟨b_q1, 0, none⟩))]) ⟨rfl, rfl, rfl, rfl, rfl, rfl, trivial⟩ ?_
  obtain rfl := SlR.qlen h_p0
  refine WK.sub (e' := [(0, .slice a_p0 p0.length c_p0), (1, .int .u64 p1), (2, .int .i64 p2), (3, .int .i64 p3), (4, .pointer (some ⟨b_q0, 0, none⟩)), (5, .pointer (some ⟨b_q1, 0, none⟩))]) ⟨rfl, rfl, rfl, rfl, rfl, rfl, trivial⟩ ?_
  unfold neighbour_Matches_c1 at hm
  refine WK_seq ?_
  refine WK_region ?_
  refine WO_pure tbok 1 [(0, .slice a_p0 p0.length c_p0), (1, .int .u64 p1), (2, .int .i64 p2), (3, .int .i64 p3), (4, .pointer (some ⟨b_q0, 0, none⟩)), (5, .pointer (some ⟨b_q1, 0, none⟩)), (10, .bool false)] rfl ⟨rfl, rfl, rfl, rfl, rfl, rfl, rfl, trivial⟩ ?_
  refine WO_end ?_
  refine WK_seq ?_
  refine WK_region ?_
  refine WO_pure tbok 3 [(3, .int .i64 p3), (4, .pointer (some ⟨b_q0, 0, none⟩)), (5, .pointer (some ⟨b_q1, 0, none⟩)), (10, .bool false), (14, .slice a_p0 p0.length c_p0), (15, .int .u64 p1), (16, .int .i64 p2)] rfl ⟨rfl, rfl, rfl, rfl, rfl, rfl, rfl, trivial⟩ ?_
  obtain ⟨⟨y_1, y_2⟩, hc1, hm⟩ := bind_some hm
  refine WO_call0 (.tuple #[.int .i64 y_1, .int .i64 y_2]) rfl rfl trivial rfl rfl rfl rfl St_closed ⟨62, #[], #[], rfl, callable_62, fun w hw => ⟨_, hw.sat, neighbour_nearest_walk h_p0 hc1⟩⟩ ?_
  refine WO_pure tbok 5 [(3, .int .i64 p3), (4, .pointer (some ⟨b_q0, 0, none⟩)), (5, .pointer (some ⟨b_q1, 0, none⟩)), (10, .bool false), (11, .int .i64 y_1), (12, .int .i64 y_2)] rfl ⟨rfl, rfl, rfl, rfl, rfl, rfl, trivial⟩ ?_
  refine WO_end ?_
  refine WK_seq ?_
  refine WK_region ?_
  refine WO_pure tbok 3 [(3, .int .i64 p3), (4, .pointer (some ⟨b_q0, 0, none⟩)), (5, .pointer (some ⟨b_q1, 0, none⟩)), (10, .bool false), (12, .int .i64 y_2), (22, .bool (decide (y_1 < 0)))] rfl ⟨rfl, rfl, rfl, rfl, rfl, rfl, trivial⟩ ?_
  refine WO_split (d := 22) (b := decide (y_1 < 0)) rfl (fun hb2 => ?_) (fun hb2 => ?_)
  · have hm := ifT hb2 hm
    refine WO_pure tbok 9 [(10, .bool true)] rfl ⟨rfl, trivial⟩ ?_
    refine WO_end ?_
    cases hm
    exact WK_ret (ret_out (L := []) (RLc_tmp rfl RLc_nil) (List.nil_sublist _) rfl)
  · have hm := ifF hb2 hm
    refine WO_pure tbok 1 [(4, .pointer (some ⟨b_q0, 0, none⟩)), (5, .pointer (some ⟨b_q1, 0, none⟩)), (10, .bool false), (12, .int .i64 y_2), (22, .bool false), (23, .int .i64 p3)] rfl ⟨rfl, rfl, rfl, rfl, rfl, rfl, trivial⟩ ?_
    refine WO_loadM tbok rfl rfl rfl rfl (fun _ h => St.sat h) hb_q0 rfl ?_
    refine WO_pure tbok 1 [(5, .pointer (some ⟨b_q1, 0, none⟩)), (10, .bool false), (12, .int .i64 y_2), (22, .bool false), (25, .int .i64 (w64 (p3 * q0_0)))] rfl ⟨rfl, rfl, rfl, rfl, rfl, trivial⟩ ?_
    refine WO_loadM tbok rfl rfl rfl rfl (fun _ h => St.sat h) hb_q1 rfl ?_
    refine WO_pure tbok 5 [(10, .bool (decide ((w64 (p3 * q0_0)) ≤ (w64 (q1_0 * y_2)))))] rfl ⟨rfl, trivial⟩ ?_
    refine WO_end ?_
    cases hm
    exact WK_ret (ret_out (L := []) (RLc_tmp rfl RLc_nil) (List.nil_sublist _) rfl)
def neighbour_Matches_Q (r : List (Int × Int × Int) × Int) : Value → List Ent → Prop := fun v L => ∃ (a0 : Option Addr) (q0 c0 : Nat), v = .tuple #[.slice a0 q0 c0, .int .i64 r.2] ∧ OwnE 65 3 T3 (.slice a0 q0 c0) r.1 L
theorem neighbour_Matches_walk {m : Mu} {p0 : List Int} {p1 : List Int} {p2 : Int} {p3 : Int} {a_p0 : Option Addr} {q_p0 c_p0 : Nat} {a_p1 : Option Addr} {q_p1 c_p1 : Nat} (h_p0 : SlR (FE (I1 .u64)) 1 m (.slice a_p0 q_p0 c_p0) p0) (h_p1 : SlR (FE (I1 .u64)) 1 m (.slice a_p1 q_p1 c_p1) p1) {r : List (Int × Int × Int) × Int} (hm : neighbour_Matches p0 p1 p2 p3 = some r) :
    Go.E.Spec Try.prog 25 [.slice a_p0 q_p0 c_p0, .slice a_p1 q_p1 c_p1, .int .i64 p2, .int .i64 p3] m (fun v _ L => neighbour_Matches_Q r v L) := by
  refine Spec_enter Try.func25 rfl rfl rfl (fun w0 => ?_)
  refine WK.sub (e' := [(0, .slice a_p0 q_p0 c_p0), (1, .slice a_p1 q_p1 c_p1), (2, .int .i64 p2), (3, .int .i64 p3)]) ⟨rfl, rfl, rfl, rfl, trivial⟩ ?_
  obtain rfl := SlR.qlen h_p0
  obtain rfl := SlR.qlen h_p1
  refine WK.sub (e' := [(0, .slice a_p0 p0.length c_p0), (1, .slice a_p1 p1.length c_p1), (2, .int .i64 p2), (3, .int .i64 p3)]) ⟨rfl, rfl, rfl, rfl, trivial⟩ ?_
  unfold neighbour_Matches at hm
  refine WK_seq ?_
  refine WK_region ?_
  refine WO_box [.int .i64 p2] rfl rfl trivial rfl rfl rfl (fun b1 => ?_)
  refine WO.cls (C' := St w0 m m [[⟨b1, 3, [.int .i64 p2]⟩]]) (fun _ h => h) ?_
  refine WO_box [.int .i64 p3] rfl rfl trivial rfl rfl rfl (fun b2 => ?_)
  refine WO.cls (C' := St w0 m m [[⟨b1, 3, [.int .i64 p2]⟩], [⟨b2, 3, [.int .i64 p3]⟩]]) (fun _ h => h) ?_
  refine WO_pure tbok 2 [(0, .slice a_p0 p0.length c_p0), (1, .slice a_p1 p1.length c_p1), (6, .pointer (some ⟨b1, 0, none⟩)), (7, .pointer (some ⟨b2, 0, none⟩)), (8, .slice none 0 0), (9, .int .i64 0)] rfl ⟨rfl, rfl, rfl, rfl, rfl, rfl, trivial⟩ ?_
  refine WO_end ?_
  refine WK_seq ?_
  refine WK_seq ?_
  obtain ⟨s_1, hx3, hm⟩ := bind_some hm
  refine WK_meet [(0, .slice a_p0 p0.length c_p0), (1, .slice a_p1 p1.length c_p1), (6, .pointer (some ⟨b1, 0, none⟩)), (7, .pointer (some ⟨b2, 0, none⟩)), (8, .slice none 0 0), (9, .int .i64 0), (25, .bool s_1)] (St w0 m m [[⟨b1, 3, [.int .i64 p2]⟩], [⟨b2, 3, [.int .i64 p3]⟩]]) ?_ (fun hk4 => ?_)
  · refine WK_cond (b := s_1) rfl (fun hb5 => ?_) (fun hb5 => ?_)
    · have hm := ifT hb5 hm
      refine WK_seq ?_
      refine WK_region ?_
      refine WO_pure tbok 2 [(0, .slice a_p0 p0.length c_p0), (1, .slice a_p1 p1.length c_p1), (6, .pointer (some ⟨b1, 0, none⟩)), (7, .pointer (some ⟨b2, 0, none⟩)), (8, .slice none 0 0), (9, .int .i64 3)] rfl ⟨rfl, rfl, rfl, rfl, rfl, rfl, trivial⟩ ?_
      refine WO_end ?_
      cases hm
      exact WK_ret (ret_out (L := []) (RLc_tmp rfl (RLc_tmp rfl RLc_nil)) (List.nil_sublist _) ⟨none, 0, 0, rfl, (OwnE.nil none)⟩)
    · have hm := ifF hb5 hm
      refine WK_skip ?_
      refine WK_seq ?_
      refine WK_seq ?_
      obtain ⟨s_2, hx6, hm⟩ := bind_some hm
      refine WK_meet [(0, .slice a_p0 p0.length c_p0), (1, .slice a_p1 p1.length c_p1), (6, .pointer (some ⟨b1, 0, none⟩)), (7, .pointer (some ⟨b2, 0, none⟩)), (8, .slice none 0 0), (9, .int .i64 0), (39, .bool s_2)] (St w0 m m [[⟨b1, 3, [.int .i64 p2]⟩], [⟨b2, 3, [.int .i64 p3]⟩]]) ?_ (fun hk7 => ?_)
      · refine WK_cond (b := s_2) rfl (fun hb8 => ?_) (fun hb8 => ?_)
        · have hm := ifT hb8 hm
          refine WK_seq ?_
          refine WK_region ?_
          refine WO_pure tbok 2 [(0, .slice a_p0 p0.length c_p0), (1, .slice a_p1 p1.length c_p1), (6, .pointer (some ⟨b1, 0, none⟩)), (7, .pointer (some ⟨b2, 0, none⟩)), (8, .slice none 0 0), (9, .int .i64 2)] rfl ⟨rfl, rfl, rfl, rfl, rfl, rfl, trivial⟩ ?_
          refine WO_end ?_
          cases hm
          exact WK_ret (ret_out (L := []) (RLc_tmp rfl (RLc_tmp rfl RLc_nil)) (List.nil_sublist _) ⟨none, 0, 0, rfl, (OwnE.nil none)⟩)
        · have hm := ifF hb8 hm
          refine WK_skip ?_
          refine WK_seq ?_
          refine WK_region ?_
          refine WO_pure tbok 2 [(0, .slice a_p0 p0.length c_p0), (1, .slice a_p1 p1.length c_p1), (8, .slice none 0 0), (9, .int .i64 0), (10, .func (.func 61) #[] #[.pointer (some ⟨b2, 0, none⟩), .pointer (some ⟨b1, 0, none⟩)])] rfl ⟨rfl, rfl, rfl, rfl, rfl, trivial⟩ ?_
          refine WO_end ?_
          refine WK_seq ?_
          refine WK_region ?_
          refine WO_pure tbok 1 [(0, .slice a_p0 p0.length c_p0), (1, .slice a_p1 p1.length c_p1), (8, .slice none 0 0), (9, .int .i64 0), (10, .func (.func 61) #[] #[.pointer (some ⟨b2, 0, none⟩), .pointer (some ⟨b1, 0, none⟩)]), (11, .slice none 0 0)] rfl ⟨rfl, rfl, rfl, rfl, rfl, rfl, trivial⟩ ?_
          refine WO_end ?_
          refine WK_seq ?_
          refine WK_seq ?_
          refine WK_region ?_
          refine WO_pure tbok 3 [(0, .slice a_p0 p0.length c_p0), (1, .slice a_p1 p1.length c_p1), (8, .slice none 0 0), (9, .int .i64 0), (10, .func (.func 61) #[] #[.pointer (some ⟨b2, 0, none⟩), .pointer (some ⟨b1, 0, none⟩)]), (11, .slice none 0 0), (41, .slice a_p0 p0.length c_p0), (42, .int .i64 (p0.length : Int)), (43, .int .i64 0)] rfl ⟨rfl, rfl, rfl, rfl, rfl, rfl, rfl, rfl, rfl, trivial⟩ ?_
          refine WO_end ?_
          refine WK_pad ?_
          obtain ⟨x17, hx18, hm⟩ := bind_some hm
          refine WK_join (β := (List (Int × Int × Int)) × (Option Addr × Nat × Nat × List Ent)) (fun p => p.1 = x17 ∧ OwnE 65 3 T3 (.slice p.2.1 p.2.2.1 p.2.2.2.1) p.1 p.2.2.2.2) (fun p => [(8, .slice none 0 0), (9, .int .i64 0), (11, .slice p.2.1 p.2.2.1 p.2.2.2.1)]) (fun p => St w0 m m [[⟨b1, 3, [.int .i64 p2]⟩], [⟨b2, 3, [.int .i64 p3]⟩], p.2.2.2.2]) ?_ (fun hk19 => ?_)
          · rintro ⟨l_5, ⟨a14, q15, c16, L13⟩⟩ ⟨hq25, hL13⟩
            subst hq25
            have hqq : q15 = l_5.length := OwnE.qlen hL13
            subst hqq
            refine WK.sub (e' := [(8, .slice none 0 0), (9, .int .i64 0), (11, .slice a14 ((l_5).length) c16)]) ⟨rfl, rfl, rfl, trivial⟩ (WK.cls (C' := St w0 m m [[⟨b1, 3, [.int .i64 p2]⟩], [⟨b2, 3, [.int .i64 p3]⟩], L13]) (fun _ h => h) ?_)
            refine WK_seq ?_
            refine WK_region ?_
            refine WO_pure tbok 3 [(8, .slice a14 ((l_5).length) c16), (9, .int .i64 0)] rfl ⟨rfl, rfl, trivial⟩ ?_
            refine WO_end ?_
            cases hm
            exact WK_ret (ret_out (L := L13) (RLc_tmp rfl (RLc_tmp rfl RLc_nil)) (seg_sub 2 rfl) ⟨a14, _, c16, rfl, hL13⟩)
          · refine WK_block ?_
            refine WK_loop (S := List (Int × Int × Int) × Int) (G := Option Addr × Nat × Nat × List Ent) (fun s => neighbour_Matches_s1 p0 p1 p2 p3 s.1 s.2) (fun s g => [(0, .slice a_p0 p0.length c_p0), (1, .slice a_p1 p1.length c_p1), (8, .slice none 0 0), (9, .int .i64 0), (10, .func (.func 61) #[] #[.pointer (some ⟨b2, 0, none⟩), .pointer (some ⟨b1, 0, none⟩)]), (11, .slice g.1 g.2.1 g.2.2.1), (41, .slice a_p0 p0.length c_p0), (42, .int .i64 (p0.length : Int)), (43, .int .i64 s.2)]) (fun s g => St w0 m m [[⟨b1, 3, [.int .i64 p2]⟩], [⟨b2, 3, [.int .i64 p3]⟩], g.2.2.2]) (fun s g => OwnE 65 3 T3 (.slice g.1 g.2.1 g.2.2.1) s.1 g.2.2.2) FUEL (([] : List (Int × Int × Int)), 0) (none, 0, 0, []) x17 hx18 (OwnE.nil (T := 65) (k := 3) (E := T3) none) ⟨rfl, rfl, rfl, rfl, rfl, rfl, rfl, rfl, rfl, trivial⟩ (fun _ h => h) ?_
            rintro ⟨l_3, s_4⟩ ⟨a10, q11, c12, L9⟩ o21 fl22 hm20 hL9 hn23 hd24
            have hm20 : neighbour_Matches_s1 p0 p1 p2 p3 l_3 s_4 = some o21 := hm20
            unfold neighbour_Matches_s1 at hm20
            have hqq : q11 = l_3.length := OwnE.qlen hL9
            subst hqq
            refine WK.sub (e' := [(0, .slice a_p0 p0.length c_p0), (1, .slice a_p1 p1.length c_p1), (8, .slice none 0 0), (9, .int .i64 0), (10, .func (.func 61) #[] #[.pointer (some ⟨b2, 0, none⟩), .pointer (some ⟨b1, 0, none⟩)]), (11, .slice a10 ((l_3).length) c12), (41, .slice a_p0 p0.length c_p0), (42, .int .i64 (p0.length : Int)), (43, .int .i64 s_4)]) ⟨rfl, rfl, rfl, rfl, rfl, rfl, rfl, rfl, rfl, trivial⟩ (WK.cls (C' := St w0 m m [[⟨b1, 3, [.int .i64 p2]⟩], [⟨b2, 3, [.int .i64 p3]⟩], L9]) (fun _ h => h) ?_)
            refine WK_seq ?_
            refine WK_region ?_
            refine WO_pure tbok 1 [(0, .slice a_p0 p0.length c_p0), (1, .slice a_p1 p1.length c_p1), (8, .slice none 0 0), (9, .int .i64 0), (10, .func (.func 61) #[] #[.pointer (some ⟨b2, 0, none⟩), .pointer (some ⟨b1, 0, none⟩)]), (11, .slice a10 ((l_3).length) c12), (41, .slice a_p0 p0.length c_p0), (42, .int .i64 (p0.length : Int)), (43, .int .i64 s_4), (44, .bool (decide (s_4 < (p0.length : Int))))] rfl ⟨rfl, rfl, rfl, rfl, rfl, rfl, rfl, rfl, rfl, rfl, trivial⟩ ?_
            refine WO_end ?_
            refine WK_seq ?_
            refine WK_cond (b := decide (s_4 < (p0.length : Int))) rfl (fun hb26 => ?_) (fun hb26 => ?_)
            · have hm20 := ifT hb26 hm20
              refine WK_skip ?_
              refine WK_seq ?_
              refine WK_block ?_
              refine WK_seq ?_
              refine WK_region ?_
              refine WO_pure tbok 1 [(0, .slice a_p0 p0.length c_p0), (1, .slice a_p1 p1.length c_p1), (8, .slice none 0 0), (9, .int .i64 0), (10, .func (.func 61) #[] #[.pointer (some ⟨b2, 0, none⟩), .pointer (some ⟨b1, 0, none⟩)]), (11, .slice a10 ((l_3).length) c12), (41, .slice a_p0 p0.length c_p0), (42, .int .i64 (p0.length : Int)), (43, .int .i64 s_4), (45, .int .i64 s_4)] rfl ⟨rfl, rfl, rfl, rfl, rfl, rfl, rfl, rfl, rfl, rfl, trivial⟩ ?_
              obtain ⟨v_6, hy27, hm20⟩ := bind_some hm20
              obtain ⟨hc28, hy27⟩ := ix_some hy27
              refine WO_index tbok rfl rfl rfl rfl rfl rfl rfl rfl (SlR.addr h_p0) hc28 ?_
              refine WO_loadE tbok rfl rfl rfl rfl (fun _ h => St.sat h) h_p0 hy27 rfl ?_
              refine WO_pure tbok 2 [(0, .slice a_p0 p0.length c_p0), (1, .slice a_p1 p1.length c_p1), (8, .slice none 0 0), (9, .int .i64 0), (10, .func (.func 61) #[] #[.pointer (some ⟨b2, 0, none⟩), .pointer (some ⟨b1, 0, none⟩)]), (11, .slice a10 ((l_3).length) c12), (12, .int .i64 s_4), (13, .int .u64 v_6), (41, .slice a_p0 p0.length c_p0), (42, .int .i64 (p0.length : Int)), (43, .int .i64 s_4)] rfl ⟨rfl, rfl, rfl, rfl, rfl, rfl, rfl, rfl, rfl, rfl, rfl, trivial⟩ ?_
              refine WO_end ?_
              refine WK_seq ?_
              refine WK_region ?_
              refine WO_pure tbok 2 [(0, .slice a_p0 p0.length c_p0), (1, .slice a_p1 p1.length c_p1), (8, .slice none 0 0), (9, .int .i64 0), (10, .func (.func 61) #[] #[.pointer (some ⟨b2, 0, none⟩), .pointer (some ⟨b1, 0, none⟩)]), (11, .slice a10 ((l_3).length) c12), (12, .int .i64 s_4), (13, .int .u64 v_6), (41, .slice a_p0 p0.length c_p0), (42, .int .i64 (p0.length : Int)), (43, .int .i64 s_4), (49, .slice a_p1 p1.length c_p1), (50, .int .u64 v_6)] rfl ⟨rfl, rfl, rfl, rfl, rfl, rfl, rfl, rfl, rfl, rfl, rfl, rfl, rfl, trivial⟩ ?_
              obtain ⟨⟨y_7, y_8⟩, hc29, hm20⟩ := bind_some hm20
              refine WO_call0 (.tuple #[.int .i64 y_7, .int .i64 y_8]) rfl rfl trivial rfl rfl rfl rfl St_closed ⟨62, #[], #[], rfl, callable_62, fun w hw => ⟨_, hw.sat, neighbour_nearest_walk h_p1 hc29⟩⟩ ?_
              refine WO_pure tbok 5 [(0, .slice a_p0 p0.length c_p0), (1, .slice a_p1 p1.length c_p1), (8, .slice none 0 0), (9, .int .i64 0), (10, .func (.func 61) #[] #[.pointer (some ⟨b2, 0, none⟩), .pointer (some ⟨b1, 0, none⟩)]), (11, .slice a10 ((l_3).length) c12), (12, .int .i64 s_4), (13, .int .u64 v_6), (14, .int .i64 y_7), (15, .int .i64 y_8), (41, .slice a_p0 p0.length c_p0), (42, .int .i64 (p0.length : Int)), (43, .int .i64 s_4)] rfl ⟨rfl, rfl, rfl, rfl, rfl, rfl, rfl, rfl, rfl, rfl, rfl, rfl, rfl, trivial⟩ ?_
              refine WO_end ?_
              refine WK_seq ?_
              refine WK_seq ?_
              refine WK_region ?_
              refine WO_pure tbok 2 [(0, .slice a_p0 p0.length c_p0), (1, .slice a_p1 p1.length c_p1), (8, .slice none 0 0), (9, .int .i64 0), (10, .func (.func 61) #[] #[.pointer (some ⟨b2, 0, none⟩), .pointer (some ⟨b1, 0, none⟩)]), (11, .slice a10 ((l_3).length) c12), (12, .int .i64 s_4), (13, .int .u64 v_6), (14, .int .i64 y_7), (15, .int .i64 y_8), (41, .slice a_p0 p0.length c_p0), (42, .int .i64 (p0.length : Int)), (43, .int .i64 s_4), (55, .bool (decide (y_7 < 0)))] rfl ⟨rfl, rfl, rfl, rfl, rfl, rfl, rfl, rfl, rfl, rfl, rfl, rfl, rfl, rfl, trivial⟩ ?_
              refine WO_end ?_
              refine WK_cond (b := decide (y_7 < 0)) rfl (fun hb30 => ?_) (fun hb30 => ?_)
              · have hm20 := ifT hb30 hm20
                refine WK_exit rfl ?_
                refine WK_region ?_
                refine WO_pure tbok 2 [(0, .slice a_p0 p0.length c_p0), (1, .slice a_p1 p1.length c_p1), (8, .slice none 0 0), (9, .int .i64 0), (10, .func (.func 61) #[] #[.pointer (some ⟨b2, 0, none⟩), .pointer (some ⟨b1, 0, none⟩)]), (11, .slice a10 ((l_3).length) c12), (41, .slice a_p0 p0.length c_p0), (42, .int .i64 (p0.length : Int)), (43, .int .i64 (w64 (s_4 + 1)))] rfl ⟨rfl, rfl, rfl, rfl, rfl, rfl, rfl, rfl, rfl, trivial⟩ ?_
                refine WO_end ?_
                cases hm20
                refine WK.sub ?_ (WK.cls (fun _ h => h) (hn23 _ (a10, _, c12, L9) rfl hL9))
                exact ⟨rfl, rfl, rfl, rfl, rfl, rfl, rfl, rfl, rfl, trivial⟩
              · have hm20 := ifF hb30 hm20
                refine WK_skip ?_
                refine WK_seq ?_
                refine WK_region ?_
                refine WO_pure tbok 3 [(0, .slice a_p0 p0.length c_p0), (1, .slice a_p1 p1.length c_p1), (8, .slice none 0 0), (9, .int .i64 0), (10, .func (.func 61) #[] #[.pointer (some ⟨b2, 0, none⟩), .pointer (some ⟨b1, 0, none⟩)]), (11, .slice a10 ((l_3).length) c12), (12, .int .i64 s_4), (13, .int .u64 v_6), (14, .int .i64 y_7), (15, .int .i64 y_8), (41, .slice a_p0 p0.length c_p0), (42, .int .i64 (p0.length : Int)), (43, .int .i64 s_4), (57, .slice a_p0 p0.length c_p0), (58, .slice a_p1 p1.length c_p1), (59, .int .i64 y_7)] rfl ⟨rfl, rfl, rfl, rfl, rfl, rfl, rfl, rfl, rfl, rfl, rfl, rfl, rfl, rfl, rfl, rfl, trivial⟩ ?_
                obtain ⟨v_9, hy31, hm20⟩ := bind_some hm20
                obtain ⟨hc32, hy31⟩ := ix_some hy31
                refine WO_index tbok rfl rfl rfl rfl rfl rfl rfl rfl (SlR.addr h_p1) hc32 ?_
                refine WO_loadE tbok rfl rfl rfl rfl (fun _ h => St.sat h) h_p1 hy31 rfl ?_
                obtain ⟨⟨y_10, y_11⟩, hc33, hm20⟩ := bind_some hm20
                refine WO_call0 (.tuple #[.int .i64 y_10, .int .i64 y_11]) rfl rfl trivial rfl rfl rfl rfl St_closed ⟨62, #[], #[], rfl, callable_62, fun w hw => ⟨_, hw.sat, neighbour_nearest_walk h_p0 hc33⟩⟩ ?_
                refine WO_pure tbok 5 [(0, .slice a_p0 p0.length c_p0), (1, .slice a_p1 p1.length c_p1), (8, .slice none 0 0), (9, .int .i64 0), (10, .func (.func 61) #[] #[.pointer (some ⟨b2, 0, none⟩), .pointer (some ⟨b1, 0, none⟩)]), (11, .slice a10 ((l_3).length) c12), (12, .int .i64 s_4), (13, .int .u64 v_6), (14, .int .i64 y_7), (15, .int .i64 y_8), (16, .int .i64 y_10), (41, .slice a_p0 p0.length c_p0), (42, .int .i64 (p0.length : Int)), (43, .int .i64 s_4)] rfl ⟨rfl, rfl, rfl, rfl, rfl, rfl, rfl, rfl, rfl, rfl, rfl, rfl, rfl, rfl, trivial⟩ ?_
                refine WO_end ?_
                refine WK_seq ?_
                obtain ⟨s_12, hx34, hm20⟩ := bind_some hm20
                refine WK_meet [(0, .slice a_p0 p0.length c_p0), (1, .slice a_p1 p1.length c_p1), (8, .slice none 0 0), (9, .int .i64 0), (10, .func (.func 61) #[] #[.pointer (some ⟨b2, 0, none⟩), .pointer (some ⟨b1, 0, none⟩)]), (11, .slice a10 ((l_3).length) c12), (12, .int .i64 s_4), (14, .int .i64 y_7), (15, .int .i64 y_8), (41, .slice a_p0 p0.length c_p0), (42, .int .i64 (p0.length : Int)), (43, .int .i64 s_4), (86, .bool s_12)] (St w0 m m [[⟨b1, 3, [.int .i64 p2]⟩], [⟨b2, 3, [.int .i64 p3]⟩], L9]) ?_ (fun hk35 => ?_)
                · obtain ⟨l_13, hx40, hm20⟩ := bind_some hm20
                  refine WK_join (β := Option Addr × Nat × Nat × List Ent) (fun p => OwnE 65 3 T3 (.slice p.1 p.2.1 p.2.2.1) l_13 p.2.2.2) (fun p => [(0, .slice a_p0 p0.length c_p0), (1, .slice a_p1 p1.length c_p1), (8, .slice none 0 0), (9, .int .i64 0), (10, .func (.func 61) #[] #[.pointer (some ⟨b2, 0, none⟩), .pointer (some ⟨b1, 0, none⟩)]), (11, .slice p.1 p.2.1 p.2.2.1), (41, .slice a_p0 p0.length c_p0), (42, .int .i64 (p0.length : Int)), (43, .int .i64 s_4)]) (fun p => St w0 m m [[⟨b1, 3, [.int .i64 p2]⟩], [⟨b2, 3, [.int .i64 p3]⟩], p.2.2.2]) ?_ (fun hk41 => ?_)
                  · rintro ⟨a37, q38, c39, L36⟩ hL36
                    have hqq : q38 = l_13.length := OwnE.qlen hL36
                    subst hqq
                    refine WK.sub (e' := [(0, .slice a_p0 p0.length c_p0), (1, .slice a_p1 p1.length c_p1), (8, .slice none 0 0), (9, .int .i64 0), (10, .func (.func 61) #[] #[.pointer (some ⟨b2, 0, none⟩), .pointer (some ⟨b1, 0, none⟩)]), (11, .slice a37 ((l_13).length) c39), (41, .slice a_p0 p0.length c_p0), (42, .int .i64 (p0.length : Int)), (43, .int .i64 s_4)]) ⟨rfl, rfl, rfl, rfl, rfl, rfl, rfl, rfl, rfl, trivial⟩ (WK.cls (C' := St w0 m m [[⟨b1, 3, [.int .i64 p2]⟩], [⟨b2, 3, [.int .i64 p3]⟩], L36]) (fun _ h => h) ?_)
                    refine WK_blk ?_
                    refine WK_region ?_
                    refine WO_pure tbok 2 [(0, .slice a_p0 p0.length c_p0), (1, .slice a_p1 p1.length c_p1), (8, .slice none 0 0), (9, .int .i64 0), (10, .func (.func 61) #[] #[.pointer (some ⟨b2, 0, none⟩), .pointer (some ⟨b1, 0, none⟩)]), (11, .slice a37 ((l_13).length) c39), (41, .slice a_p0 p0.length c_p0), (42, .int .i64 (p0.length : Int)), (43, .int .i64 (w64 (s_4 + 1)))] rfl ⟨rfl, rfl, rfl, rfl, rfl, rfl, rfl, rfl, rfl, trivial⟩ ?_
                    refine WO_end ?_
                    cases hm20
                    refine WK.sub ?_ (WK.cls (fun _ h => h) (hn23 _ (a37, _, c39, L36) rfl hL36))
                    exact ⟨rfl, rfl, rfl, rfl, rfl, rfl, rfl, rfl, rfl, trivial⟩
                  · refine WK_cond (b := s_12) rfl (fun hb42 => ?_) (fun hb42 => ?_)
                    · have hx40 := ifT hb42 hx40
                      refine WK_region ?_
                      refine WO_pure tbok 5 [(0, .slice a_p0 p0.length c_p0), (1, .slice a_p1 p1.length c_p1), (8, .slice none 0 0), (9, .int .i64 0), (10, .func (.func 61) #[] #[.pointer (some ⟨b2, 0, none⟩), .pointer (some ⟨b1, 0, none⟩)]), (11, .slice a10 ((l_3).length) c12), (41, .slice a_p0 p0.length c_p0), (42, .int .i64 (p0.length : Int)), (43, .int .i64 s_4), (87, .slice a10 ((l_3).length) c12), (91, .agg #[.int .i64 s_4, .int .i64 y_7, .int .i64 y_8])] rfl ⟨rfl, rfl, rfl, rfl, rfl, rfl, rfl, rfl, rfl, rfl, rfl, trivial⟩ ?_
                      refine WO_bslice (E := T3) tbok (fun _ => rfl) (by decide) [.agg #[.int .i64 s_4, .int .i64 y_7, .int .i64 y_8]] ([(s_4, y_7, y_8)] : List (Int × Int × Int)) rfl rfl trivial rfl rfl rfl rfl rfl rfl rfl rfl rfl rfl rfl rfl (fun b43 hb43 => ?_)
                      refine WO.cls (C' := St w0 m m [[⟨b1, 3, [.int .i64 p2]⟩], [⟨b2, 3, [.int .i64 p3]⟩], L9, [⟨b43, 65, ([(s_4, y_7, y_8)] : List (Int × Int × Int)).flatMap T3⟩]]) (fun _ h => h) ?_
                      obtain ⟨hc44, hx40⟩ := chk_some hx40
                      refine WO_append (E := T3) tbok (fun _ => rfl) 2 ([(s_4, y_7, y_8)] : List (Int × Int × Int)) (fun _ _ => rfl) rfl rfl rfl rfl rfl rfl rfl rfl rfl rfl rfl rfl hL9 rfl (src_seg (j := 3) rfl) (ap_ok (by decide) hc44) (ap_max hc44) (fun a45 c46 L47 hL47 => ?_)
                      refine WO.cls (C' := St w0 m m [[⟨b1, 3, [.int .i64 p2]⟩], [⟨b2, 3, [.int .i64 p3]⟩], L47, [⟨b43, 65, ([(s_4, y_7, y_8)] : List (Int × Int × Int)).flatMap T3⟩]]) (fun _ h => h) ?_
                      refine WO_pure tbok 1 [(0, .slice a_p0 p0.length c_p0), (1, .slice a_p1 p1.length c_p1), (8, .slice none 0 0), (9, .int .i64 0), (10, .func (.func 61) #[] #[.pointer (some ⟨b2, 0, none⟩), .pointer (some ⟨b1, 0, none⟩)]), (11, .slice a45 ((l_3 ++ ([(s_4, y_7, y_8)] : List (Int × Int × Int))).length) c46), (41, .slice a_p0 p0.length c_p0), (42, .int .i64 (p0.length : Int)), (43, .int .i64 s_4)] rfl ⟨rfl, rfl, rfl, rfl, rfl, rfl, rfl, rfl, rfl, trivial⟩ ?_
                      refine WO_end ?_
                      cases hx40
                      refine WK.sub ?_ (WK.cls (fun _ h => St.take 3 h) (hk41 ⟨a45, (l_3 ++ ([(s_4, y_7, y_8)] : List (Int × Int × Int))).length, c46, L47⟩ hL47))
                      exact ⟨rfl, rfl, rfl, rfl, rfl, rfl, rfl, rfl, rfl, trivial⟩
                    · have hx40 := ifF hb42 hx40
                      refine WK_skip ?_
                      cases hx40
                      refine WK.sub ?_ (WK.cls (fun _ h => h) (hk41 ⟨a10, _, c12, L9⟩ hL9))
                      exact ⟨rfl, rfl, rfl, rfl, rfl, rfl, rfl, rfl, rfl, trivial⟩
                · refine WK_region ?_
                  refine WO_pure tbok 4 [(0, .slice a_p0 p0.length c_p0), (1, .slice a_p1 p1.length c_p1), (8, .slice none 0 0), (9, .int .i64 0), (10, .func (.func 61) #[] #[.pointer (some ⟨b2, 0, none⟩), .pointer (some ⟨b1, 0, none⟩)]), (11, .slice a10 ((l_3).length) c12), (12, .int .i64 s_4), (13, .int .u64 v_6), (14, .int .i64 y_7), (15, .int .i64 y_8), (41, .slice a_p0 p0.length c_p0), (42, .int .i64 (p0.length : Int)), (43, .int .i64 s_4), (68, .bool (y_10 == s_4))] rfl ⟨rfl, rfl, rfl, rfl, rfl, rfl, rfl, rfl, rfl, rfl, rfl, rfl, rfl, rfl, trivial⟩ ?_
                  refine WO_split (d := 68) (b := y_10 == s_4) rfl (fun hb48 => ?_) (fun hb48 => ?_)
                  · have hx34 := ifT hb48 hx34
                    refine WO_pure tbok 5 [(0, .slice a_p0 p0.length c_p0), (1, .slice a_p1 p1.length c_p1), (8, .slice none 0 0), (9, .int .i64 0), (10, .func (.func 61) #[] #[.pointer (some ⟨b2, 0, none⟩), .pointer (some ⟨b1, 0, none⟩)]), (11, .slice a10 ((l_3).length) c12), (12, .int .i64 s_4), (14, .int .i64 y_7), (15, .int .i64 y_8), (41, .slice a_p0 p0.length c_p0), (42, .int .i64 (p0.length : Int)), (43, .int .i64 s_4), (68, .bool true), (69, .func (.func 61) #[] #[.pointer (some ⟨b2, 0, none⟩), .pointer (some ⟨b1, 0, none⟩)]), (70, .slice a_p1 p1.length c_p1), (71, .int .u64 v_6), (72, .int .i64 y_7), (73, .int .i64 y_8)] rfl ⟨rfl, rfl, rfl, rfl, rfl, rfl, rfl, rfl, rfl, rfl, rfl, rfl, rfl, rfl, rfl, rfl, rfl, rfl, trivial⟩ ?_
                    obtain ⟨y_14, hc49, hx34⟩ := bind_some hx34
                    refine WO_call0 (.bool y_14) rfl rfl trivial rfl rfl rfl rfl St_closed ⟨61, #[], #[.pointer (some ⟨b2, 0, none⟩), .pointer (some ⟨b1, 0, none⟩)], rfl, callable_61, fun w hw => ⟨_, hw.satV, neighbour_Matches_c1_walk (h_p1.mono (mono_FE _) hw.leV) (hw.memV (i := 1) rfl (List.mem_singleton.2 rfl)) (hw.memV (i := 0) rfl (List.mem_singleton.2 rfl)) hc49⟩⟩ ?_
                    refine WO_pure tbok 2 [(0, .slice a_p0 p0.length c_p0), (1, .slice a_p1 p1.length c_p1), (8, .slice none 0 0), (9, .int .i64 0), (10, .func (.func 61) #[] #[.pointer (some ⟨b2, 0, none⟩), .pointer (some ⟨b1, 0, none⟩)]), (11, .slice a10 ((l_3).length) c12), (12, .int .i64 s_4), (14, .int .i64 y_7), (15, .int .i64 y_8), (41, .slice a_p0 p0.length c_p0), (42, .int .i64 (p0.length : Int)), (43, .int .i64 s_4), (76, .bool y_14)] rfl ⟨rfl, rfl, rfl, rfl, rfl, rfl, rfl, rfl, rfl, rfl, rfl, rfl, rfl, trivial⟩ ?_
                    refine WO_split (d := 76) (b := y_14) rfl (fun hb50 => ?_) (fun hb50 => ?_)
                    · have hx34 := ifT hb50 hx34
                      refine WO_pure tbok 4 [(0, .slice a_p0 p0.length c_p0), (1, .slice a_p1 p1.length c_p1), (8, .slice none 0 0), (9, .int .i64 0), (10, .func (.func 61) #[] #[.pointer (some ⟨b2, 0, none⟩), .pointer (some ⟨b1, 0, none⟩)]), (11, .slice a10 ((l_3).length) c12), (12, .int .i64 s_4), (14, .int .i64 y_7), (15, .int .i64 y_8), (41, .slice a_p0 p0.length c_p0), (42, .int .i64 (p0.length : Int)), (43, .int .i64 s_4), (76, .bool true), (77, .func (.func 61) #[] #[.pointer (some ⟨b2, 0, none⟩), .pointer (some ⟨b1, 0, none⟩)]), (78, .slice a_p0 p0.length c_p0), (79, .slice a_p1 p1.length c_p1), (80, .int .i64 y_7)] rfl ⟨rfl, rfl, rfl, rfl, rfl, rfl, rfl, rfl, rfl, rfl, rfl, rfl, rfl, rfl, rfl, rfl, rfl, trivial⟩ ?_
                      obtain ⟨v_15, hy51, hx34⟩ := bind_some hx34
                      obtain ⟨hc52, hy51⟩ := ix_some hy51
                      refine WO_index tbok rfl rfl rfl rfl rfl rfl rfl rfl (SlR.addr h_p1) hc52 ?_
                      refine WO_loadE tbok rfl rfl rfl rfl (fun _ h => St.sat h) h_p1 hy51 rfl ?_
                      refine WO_pure tbok 2 [(0, .slice a_p0 p0.length c_p0), (1, .slice a_p1 p1.length c_p1), (8, .slice none 0 0), (9, .int .i64 0), (10, .func (.func 61) #[] #[.pointer (some ⟨b2, 0, none⟩), .pointer (some ⟨b1, 0, none⟩)]), (11, .slice a10 ((l_3).length) c12), (12, .int .i64 s_4), (14, .int .i64 y_7), (15, .int .i64 y_8), (41, .slice a_p0 p0.length c_p0), (42, .int .i64 (p0.length : Int)), (43, .int .i64 s_4), (76, .bool true), (77, .func (.func 61) #[] #[.pointer (some ⟨b2, 0, none⟩), .pointer (some ⟨b1, 0, none⟩)]), (78, .slice a_p0 p0.length c_p0), (82, .int .u64 v_15), (83, .int .i64 s_4), (84, .int .i64 y_8)] rfl ⟨rfl, rfl, rfl, rfl, rfl, rfl, rfl, rfl, rfl, rfl, rfl, rfl, rfl, rfl, rfl, rfl, rfl, rfl, trivial⟩ ?_
                      obtain ⟨y_16, hc53, hx34⟩ := bind_some hx34
                      refine WO_call0 (.bool y_16) rfl rfl trivial rfl rfl rfl rfl St_closed ⟨61, #[], #[.pointer (some ⟨b2, 0, none⟩), .pointer (some ⟨b1, 0, none⟩)], rfl, callable_61, fun w hw => ⟨_, hw.satV, neighbour_Matches_c1_walk (h_p0.mono (mono_FE _) hw.leV) (hw.memV (i := 1) rfl (List.mem_singleton.2 rfl)) (hw.memV (i := 0) rfl (List.mem_singleton.2 rfl)) hc53⟩⟩ ?_
                      refine WO_pure tbok 1 [(0, .slice a_p0 p0.length c_p0), (1, .slice a_p1 p1.length c_p1), (8, .slice none 0 0), (9, .int .i64 0), (10, .func (.func 61) #[] #[.pointer (some ⟨b2, 0, none⟩), .pointer (some ⟨b1, 0, none⟩)]), (11, .slice a10 ((l_3).length) c12), (12, .int .i64 s_4), (14, .int .i64 y_7), (15, .int .i64 y_8), (41, .slice a_p0 p0.length c_p0), (42, .int .i64 (p0.length : Int)), (43, .int .i64 s_4), (86, .bool y_16)] rfl ⟨rfl, rfl, rfl, rfl, rfl, rfl, rfl, rfl, rfl, rfl, rfl, rfl, rfl, trivial⟩ ?_
                      refine WO_end ?_
                      cases hx34
                      refine WK.sub ?_ (WK.cls (fun _ h => h) hk35)
                      exact ⟨rfl, rfl, rfl, rfl, rfl, rfl, rfl, rfl, rfl, rfl, rfl, rfl, rfl, trivial⟩
                    · have hx34 := ifF hb50 hx34
                      refine WO_pure tbok 8 [(0, .slice a_p0 p0.length c_p0), (1, .slice a_p1 p1.length c_p1), (8, .slice none 0 0), (9, .int .i64 0), (10, .func (.func 61) #[] #[.pointer (some ⟨b2, 0, none⟩), .pointer (some ⟨b1, 0, none⟩)]), (11, .slice a10 ((l_3).length) c12), (12, .int .i64 s_4), (14, .int .i64 y_7), (15, .int .i64 y_8), (41, .slice a_p0 p0.length c_p0), (42, .int .i64 (p0.length : Int)), (43, .int .i64 s_4), (76, .bool false)] rfl ⟨rfl, rfl, rfl, rfl, rfl, rfl, rfl, rfl, rfl, rfl, rfl, rfl, rfl, trivial⟩ ?_
                      refine WO_skip rfl rfl ?_
                      refine WO_pure tbok 1 [(0, .slice a_p0 p0.length c_p0), (1, .slice a_p1 p1.length c_p1), (8, .slice none 0 0), (9, .int .i64 0), (10, .func (.func 61) #[] #[.pointer (some ⟨b2, 0, none⟩), .pointer (some ⟨b1, 0, none⟩)]), (11, .slice a10 ((l_3).length) c12), (12, .int .i64 s_4), (14, .int .i64 y_7), (15, .int .i64 y_8), (41, .slice a_p0 p0.length c_p0), (42, .int .i64 (p0.length : Int)), (43, .int .i64 s_4), (86, .bool false)] rfl ⟨rfl, rfl, rfl, rfl, rfl, rfl, rfl, rfl, rfl, rfl, rfl, rfl, rfl, trivial⟩ ?_
                      refine WO_end ?_
                      cases hx34
                      refine WK.sub ?_ (WK.cls (fun _ h => h) hk35)
                      exact ⟨rfl, rfl, rfl, rfl, rfl, rfl, rfl, rfl, rfl, rfl, rfl, rfl, rfl, trivial⟩
                  · have hx34 := ifF hb48 hx34
                    refine WO_pure tbok 5 [(0, .slice a_p0 p0.length c_p0), (1, .slice a_p1 p1.length c_p1), (8, .slice none 0 0), (9, .int .i64 0), (10, .func (.func 61) #[] #[.pointer (some ⟨b2, 0, none⟩), .pointer (some ⟨b1, 0, none⟩)]), (11, .slice a10 ((l_3).length) c12), (12, .int .i64 s_4), (14, .int .i64 y_7), (15, .int .i64 y_8), (41, .slice a_p0 p0.length c_p0), (42, .int .i64 (p0.length : Int)), (43, .int .i64 s_4), (68, .bool false)] rfl ⟨rfl, rfl, rfl, rfl, rfl, rfl, rfl, rfl, rfl, rfl, rfl, rfl, rfl, trivial⟩ ?_
                    refine WO_skip rfl rfl ?_
                    refine WO_pure tbok 10 [(0, .slice a_p0 p0.length c_p0), (1, .slice a_p1 p1.length c_p1), (8, .slice none 0 0), (9, .int .i64 0), (10, .func (.func 61) #[] #[.pointer (some ⟨b2, 0, none⟩), .pointer (some ⟨b1, 0, none⟩)]), (11, .slice a10 ((l_3).length) c12), (12, .int .i64 s_4), (14, .int .i64 y_7), (15, .int .i64 y_8), (41, .slice a_p0 p0.length c_p0), (42, .int .i64 (p0.length : Int)), (43, .int .i64 s_4), (76, .bool false)] rfl ⟨rfl, rfl, rfl, rfl, rfl, rfl, rfl, rfl, rfl, rfl, rfl, rfl, rfl, trivial⟩ ?_
                    refine WO_skip rfl rfl ?_
                    refine WO_pure tbok 1 [(0, .slice a_p0 p0.length c_p0), (1, .slice a_p1 p1.length c_p1), (8, .slice none 0 0), (9, .int .i64 0), (10, .func (.func 61) #[] #[.pointer (some ⟨b2, 0, none⟩), .pointer (some ⟨b1, 0, none⟩)]), (11, .slice a10 ((l_3).length) c12), (12, .int .i64 s_4), (14, .int .i64 y_7), (15, .int .i64 y_8), (41, .slice a_p0 p0.length c_p0), (42, .int .i64 (p0.length : Int)), (43, .int .i64 s_4), (86, .bool false)] rfl ⟨rfl, rfl, rfl, rfl, rfl, rfl, rfl, rfl, rfl, rfl, rfl, rfl, rfl, trivial⟩ ?_
                    refine WO_end ?_
                    cases hx34
                    refine WK.sub ?_ (WK.cls (fun _ h => h) hk35)
                    exact ⟨rfl, rfl, rfl, rfl, rfl, rfl, rfl, rfl, rfl, rfl, rfl, rfl, rfl, trivial⟩
            · have hm20 := ifF hb26 hm20
              refine WK_exit rfl ?_
              cases hm20
              refine WK.sub ?_ (WK.cls (fun _ h => h) (hk19 (l_3, (a10, _, c12, L9)) ⟨(hd24 _ rfl), hL9⟩))
              exact ⟨rfl, rfl, rfl, trivial⟩
      · refine WK_region ?_
        refine WO_loadB tbok 0 rfl rfl rfl rfl (fun _ h => h) rfl rfl ?_
        refine WO_pure tbok 2 [(0, .slice a_p0 p0.length c_p0), (1, .slice a_p1 p1.length c_p1), (6, .pointer (some ⟨b1, 0, none⟩)), (7, .pointer (some ⟨b2, 0, none⟩)), (8, .slice none 0 0), (9, .int .i64 0), (28, .bool (decide (p2 < 1)))] rfl ⟨rfl, rfl, rfl, rfl, rfl, rfl, rfl, trivial⟩ ?_
        refine WO_split (d := 28) (b := decide (p2 < 1)) rfl (fun hb54 => ?_) (fun hb54 => ?_)
        · have hx6 := ifT hb54 hx6
          refine WO_pure tbok 11 [(0, .slice a_p0 p0.length c_p0), (1, .slice a_p1 p1.length c_p1), (6, .pointer (some ⟨b1, 0, none⟩)), (7, .pointer (some ⟨b2, 0, none⟩)), (8, .slice none 0 0), (9, .int .i64 0), (39, .bool true)] rfl ⟨rfl, rfl, rfl, rfl, rfl, rfl, rfl, trivial⟩ ?_
          refine WO_end ?_
          cases hx6
          refine WK.sub ?_ (WK.cls (fun _ h => h) hk7)
          exact ⟨rfl, rfl, rfl, rfl, rfl, rfl, rfl, trivial⟩
        · have hx6 := ifF hb54 hx6
          refine WO_loadB tbok 0 rfl rfl rfl rfl (fun _ h => h) rfl rfl ?_
          refine WO_pure tbok 3 [(0, .slice a_p0 p0.length c_p0), (1, .slice a_p1 p1.length c_p1), (6, .pointer (some ⟨b1, 0, none⟩)), (7, .pointer (some ⟨b2, 0, none⟩)), (8, .slice none 0 0), (9, .int .i64 0), (32, .bool (decide (1000 < p2)))] rfl ⟨rfl, rfl, rfl, rfl, rfl, rfl, rfl, trivial⟩ ?_
          refine WO_split (d := 32) (b := decide (1000 < p2)) rfl (fun hb55 => ?_) (fun hb55 => ?_)
          · have hx6 := ifT hb55 hx6
            refine WO_pure tbok 7 [(0, .slice a_p0 p0.length c_p0), (1, .slice a_p1 p1.length c_p1), (6, .pointer (some ⟨b1, 0, none⟩)), (7, .pointer (some ⟨b2, 0, none⟩)), (8, .slice none 0 0), (9, .int .i64 0), (39, .bool true)] rfl ⟨rfl, rfl, rfl, rfl, rfl, rfl, rfl, trivial⟩ ?_
            refine WO_end ?_
            cases hx6
            refine WK.sub ?_ (WK.cls (fun _ h => h) hk7)
            exact ⟨rfl, rfl, rfl, rfl, rfl, rfl, rfl, trivial⟩
          · have hx6 := ifF hb55 hx6
            refine WO_loadB tbok 1 rfl rfl rfl rfl (fun _ h => h) rfl rfl ?_
            refine WO_pure tbok 3 [(0, .slice a_p0 p0.length c_p0), (1, .slice a_p1 p1.length c_p1), (6, .pointer (some ⟨b1, 0, none⟩)), (7, .pointer (some ⟨b2, 0, none⟩)), (8, .slice none 0 0), (9, .int .i64 0), (36, .bool (decide (p3 < 1)))] rfl ⟨rfl, rfl, rfl, rfl, rfl, rfl, rfl, trivial⟩ ?_
            refine WO_split (d := 36) (b := decide (p3 < 1)) rfl (fun hb56 => ?_) (fun hb56 => ?_)
            · have hx6 := ifT hb56 hx6
              refine WO_pure tbok 3 [(0, .slice a_p0 p0.length c_p0), (1, .slice a_p1 p1.length c_p1), (6, .pointer (some ⟨b1, 0, none⟩)), (7, .pointer (some ⟨b2, 0, none⟩)), (8, .slice none 0 0), (9, .int .i64 0), (39, .bool true)] rfl ⟨rfl, rfl, rfl, rfl, rfl, rfl, rfl, trivial⟩ ?_
              refine WO_end ?_
              cases hx6
              refine WK.sub ?_ (WK.cls (fun _ h => h) hk7)
              exact ⟨rfl, rfl, rfl, rfl, rfl, rfl, rfl, trivial⟩
            · have hx6 := ifF hb56 hx6
              refine WO_loadB tbok 1 rfl rfl rfl rfl (fun _ h => h) rfl rfl ?_
              refine WO_pure tbok 2 [(0, .slice a_p0 p0.length c_p0), (1, .slice a_p1 p1.length c_p1), (6, .pointer (some ⟨b1, 0, none⟩)), (7, .pointer (some ⟨b2, 0, none⟩)), (8, .slice none 0 0), (9, .int .i64 0), (39, .bool (decide (1000 < p3)))] rfl ⟨rfl, rfl, rfl, rfl, rfl, rfl, rfl, trivial⟩ ?_
              refine WO_end ?_
              cases hx6
              refine WK.sub ?_ (WK.cls (fun _ h => h) hk7)
              exact ⟨rfl, rfl, rfl, rfl, rfl, rfl, rfl, trivial⟩
  · refine WK_region ?_
    refine WO_pure tbok 4 [(0, .slice a_p0 p0.length c_p0), (1, .slice a_p1 p1.length c_p1), (6, .pointer (some ⟨b1, 0, none⟩)), (7, .pointer (some ⟨b2, 0, none⟩)), (8, .slice none 0 0), (9, .int .i64 0), (21, .bool (decide (64 < (p0.length : Int))))] rfl ⟨rfl, rfl, rfl, rfl, rfl, rfl, rfl, trivial⟩ ?_
    refine WO_split (d := 21) (b := decide (64 < (p0.length : Int))) rfl (fun hb57 => ?_) (fun hb57 => ?_)
    · have hx3 := ifT hb57 hx3
      refine WO_pure tbok 4 [(0, .slice a_p0 p0.length c_p0), (1, .slice a_p1 p1.length c_p1), (6, .pointer (some ⟨b1, 0, none⟩)), (7, .pointer (some ⟨b2, 0, none⟩)), (8, .slice none 0 0), (9, .int .i64 0), (25, .bool true)] rfl ⟨rfl, rfl, rfl, rfl, rfl, rfl, rfl, trivial⟩ ?_
      refine WO_end ?_
      cases hx3
      refine WK.sub ?_ (WK.cls (fun _ h => h) hk4)
      exact ⟨rfl, rfl, rfl, rfl, rfl, rfl, rfl, trivial⟩
    · have hx3 := ifF hb57 hx3
      refine WO_pure tbok 4 [(0, .slice a_p0 p0.length c_p0), (1, .slice a_p1 p1.length c_p1), (6, .pointer (some ⟨b1, 0, none⟩)), (7, .pointer (some ⟨b2, 0, none⟩)), (8, .slice none 0 0), (9, .int .i64 0), (25, .bool (decide (64 < (p1.length : Int))))] rfl ⟨rfl, rfl, rfl, rfl, rfl, rfl, rfl, trivial⟩ ?_
      refine WO_end ?_
      cases hx3
      refine WK.sub ?_ (WK.cls (fun _ h => h) hk4)
      exact ⟨rfl, rfl, rfl, rfl, rfl, rfl, rfl, trivial⟩
theorem slices_Equal_suint64_walk {m : Mu} {p0 : List Int} {p1 : List Int} {a_p0 : Option Addr} {q_p0 c_p0 : Nat} {a_p1 : Option Addr} {q_p1 c_p1 : Nat} (h_p0 : SlR (FE (I1 .u64)) 1 m (.slice a_p0 q_p0 c_p0) p0) (h_p1 : SlR (FE (I1 .u64)) 1 m (.slice a_p1 q_p1 c_p1) p1) {r : Bool} (hm : slices_Equal_suint64 p0 p1 = some r) :
    Go.E.Spec Try.prog 50 [.slice a_p0 q_p0 c_p0, .slice a_p1 q_p1 c_p1] m (fun v _ _ => v = .bool r) := by
  refine Spec_enter Try.func50 rfl rfl rfl (fun w0 => ?_)
  refine WK.sub (e' := [(0, .slice a_p0 q_p0 c_p0), (1, .slice a_p1 q_p1 c_p1)]) ⟨rfl, rfl, trivial⟩ ?_
  obtain rfl := SlR.qlen h_p0
  obtain rfl := SlR.qlen h_p1
  refine WK.sub (e' := [(0, .slice a_p0 p0.length c_p0), (1, .slice a_p1 p1.length c_p1)]) ⟨rfl, rfl, trivial⟩ ?_
  unfold slices_Equal_suint64 at hm
  refine WK_seq ?_
  refine WK_region ?_
  refine WO_pure tbok 1 [(0, .slice a_p0 p0.length c_p0), (1, .slice a_p1 p1.length c_p1), (4, .bool false)] rfl ⟨rfl, rfl, rfl, trivial⟩ ?_
  refine WO_end ?_
  refine WK_seq ?_
  refine WK_seq ?_
  refine WK_region ?_
  refine WO_pure tbok 5 [(0, .slice a_p0 p0.length c_p0), (1, .slice a_p1 p1.length c_p1), (4, .bool false), (10, .bool ((p0.length : Int) != (p1.length : Int)))] rfl ⟨rfl, rfl, rfl, rfl, trivial⟩ ?_
  refine WO_end ?_
  refine WK_cond (b := (p0.length : Int) != (p1.length : Int)) rfl (fun hb1 => ?_) (fun hb1 => ?_)
  · have hm := ifT hb1 hm
    refine WK_seq ?_
    refine WK_region ?_
    refine WO_pure tbok 1 [(0, .slice a_p0 p0.length c_p0), (1, .slice a_p1 p1.length c_p1), (4, .bool false)] rfl ⟨rfl, rfl, rfl, trivial⟩ ?_
    refine WO_end ?_
    cases hm
    exact WK_ret (ret_out (L := []) (RLc_tmp rfl RLc_nil) (List.nil_sublist _) rfl)
  · have hm := ifF hb1 hm
    refine WK_skip ?_
    refine WK_seq ?_
    refine WK_seq ?_
    refine WK_region ?_
    refine WO_pure tbok 3 [(0, .slice a_p0 p0.length c_p0), (1, .slice a_p1 p1.length c_p1), (4, .bool false), (12, .int .i64 (p0.length : Int)), (13, .int .i64 0)] rfl ⟨rfl, rfl, rfl, rfl, rfl, trivial⟩ ?_
    refine WO_end ?_
    obtain ⟨x2, hx3, hm⟩ := bind_some hm
    refine WK_join (β := Unit × Unit) (fun p => Sum.inr p.1 = x2) (fun p => [(4, .bool false)]) (fun p => St w0 m m []) ?_ (fun hk4 => ?_)
    · rintro ⟨⟨⟩, ⟨⟩⟩ hq10
      subst hq10
      refine WK.sub (e' := [(4, .bool false)]) ⟨rfl, trivial⟩ (WK.cls (C' := St w0 m m []) (fun _ h => h) ?_)
      refine WK_seq ?_
      refine WK_region ?_
      refine WO_pure tbok 1 [(4, .bool true)] rfl ⟨rfl, trivial⟩ ?_
      refine WO_end ?_
      cases hm
      exact WK_ret (ret_out (L := []) (RLc_tmp rfl RLc_nil) (List.nil_sublist _) rfl)
    · refine WK_block ?_
      refine WK_loop (S := Int) (G := Unit) (fun s => slices_Equal_suint64_s1 p0 p1 s) (fun s g => [(0, .slice a_p0 p0.length c_p0), (1, .slice a_p1 p1.length c_p1), (4, .bool false), (12, .int .i64 (p0.length : Int)), (13, .int .i64 s)]) (fun s g => St w0 m m []) (fun s g => True) FUEL 0 () x2 hx3 trivial ⟨rfl, rfl, rfl, rfl, rfl, trivial⟩ (fun _ h => h) ?_
      rintro s_1 ⟨⟩ o6 fl7 hm5 - hn8 hd9
      have hm5 : slices_Equal_suint64_s1 p0 p1 s_1 = some o6 := hm5
      unfold slices_Equal_suint64_s1 at hm5
      refine WK.sub (e' := [(0, .slice a_p0 p0.length c_p0), (1, .slice a_p1 p1.length c_p1), (4, .bool false), (12, .int .i64 (p0.length : Int)), (13, .int .i64 s_1)]) ⟨rfl, rfl, rfl, rfl, rfl, trivial⟩ (WK.cls (C' := St w0 m m []) (fun _ h => h) ?_)
      refine WK_seq ?_
      refine WK_region ?_
      refine WO_pure tbok 1 [(0, .slice a_p0 p0.length c_p0), (1, .slice a_p1 p1.length c_p1), (4, .bool false), (12, .int .i64 (p0.length : Int)), (13, .int .i64 s_1), (14, .bool (decide (s_1 < (p0.length : Int))))] rfl ⟨rfl, rfl, rfl, rfl, rfl, rfl, trivial⟩ ?_
      refine WO_end ?_
      refine WK_seq ?_
      refine WK_cond (b := decide (s_1 < (p0.length : Int))) rfl (fun hb11 => ?_) (fun hb11 => ?_)
      · have hm5 := ifT hb11 hm5
        refine WK_skip ?_
        refine WK_seq ?_
        refine WK_block ?_
        refine WK_seq ?_
        refine WK_region ?_
        refine WO_pure tbok 2 [(0, .slice a_p0 p0.length c_p0), (1, .slice a_p1 p1.length c_p1), (4, .bool false), (5, .int .i64 s_1), (12, .int .i64 (p0.length : Int)), (13, .int .i64 s_1)] rfl ⟨rfl, rfl, rfl, rfl, rfl, rfl, trivial⟩ ?_
        refine WO_end ?_
        refine WK_seq ?_
        refine WK_draw 9 [0, 1, 2, 3, 4, 5, 6, 7, 8] follows_ok (by kernel_rfl) St_closed ?_
        refine WO_pure tbok 2 [(0, .slice a_p0 p0.length c_p0), (1, .slice a_p1 p1.length c_p1), (4, .bool false), (5, .int .i64 s_1), (12, .int .i64 (p0.length : Int)), (13, .int .i64 s_1), (16, .slice a_p0 p0.length c_p0), (17, .int .i64 s_1)] rfl ⟨rfl, rfl, rfl, rfl, rfl, rfl, rfl, rfl, trivial⟩ ?_
        obtain ⟨v_2, hy12, hm5⟩ := bind_some hm5
        obtain ⟨hc13, hy12⟩ := ix_some hy12
        refine WO_index tbok rfl rfl rfl rfl rfl rfl rfl rfl (SlR.addr h_p0) hc13 ?_
        refine WO_loadE tbok rfl rfl rfl rfl (fun _ h => St.sat h) h_p0 hy12 rfl ?_
        refine WO_pure tbok 2 [(0, .slice a_p0 p0.length c_p0), (1, .slice a_p1 p1.length c_p1), (4, .bool false), (12, .int .i64 (p0.length : Int)), (13, .int .i64 s_1), (19, .int .u64 v_2), (20, .slice a_p1 p1.length c_p1), (21, .int .i64 s_1)] rfl ⟨rfl, rfl, rfl, rfl, rfl, rfl, rfl, rfl, trivial⟩ ?_
        obtain ⟨v_3, hy14, hm5⟩ := bind_some hm5
        obtain ⟨hc15, hy14⟩ := ix_some hy14
        refine WO_index tbok rfl rfl rfl rfl rfl rfl rfl rfl (SlR.addr h_p1) hc15 ?_
        refine WO_loadE tbok rfl rfl rfl rfl (fun _ h => St.sat h) h_p1 hy14 rfl ?_
        refine WO_pure tbok 1 [(0, .slice a_p0 p0.length c_p0), (1, .slice a_p1 p1.length c_p1), (4, .bool false), (12, .int .i64 (p0.length : Int)), (13, .int .i64 s_1), (24, .bool (v_2 != v_3))] rfl ⟨rfl, rfl, rfl, rfl, rfl, rfl, trivial⟩ ?_
        refine WO_tail ?_
        refine WO_end ?_
        refine WK_cond (b := v_2 != v_3) rfl (fun hb16 => ?_) (fun hb16 => ?_)
        · have hm5 := ifT hb16 hm5
          refine WK_seq ?_
          refine WK_region ?_
          refine WO_pure tbok 1 [(0, .slice a_p0 p0.length c_p0), (1, .slice a_p1 p1.length c_p1), (4, .bool false), (12, .int .i64 (p0.length : Int)), (13, .int .i64 s_1)] rfl ⟨rfl, rfl, rfl, rfl, rfl, trivial⟩ ?_
          refine WO_end ?_
          cases hm5
          have hq := hd9 _ rfl
          subst hq
          have hm : some _ = some _ := hm
          cases hm
          exact WK_ret (ret_out (L := []) (RLc_tmp rfl RLc_nil) (List.nil_sublist _) rfl)
        · have hm5 := ifF hb16 hm5
          refine WK_skip ?_
          refine WK_blk ?_
          refine WK_region ?_
          refine WO_pure tbok 2 [(0, .slice a_p0 p0.length c_p0), (1, .slice a_p1 p1.length c_p1), (4, .bool false), (12, .int .i64 (p0.length : Int)), (13, .int .i64 (w64 (s_1 + 1)))] rfl ⟨rfl, rfl, rfl, rfl, rfl, trivial⟩ ?_
          refine WO_end ?_
          cases hm5
          refine WK.sub ?_ (WK.cls (fun _ h => h) (hn8 _ () rfl trivial))
          exact ⟨rfl, rfl, rfl, rfl, rfl, trivial⟩
      · have hm5 := ifF hb11 hm5
        refine WK_exit rfl ?_
        cases hm5
        refine WK.sub ?_ (WK.cls (fun _ h => h) (hk4 ((), ()) (hd9 _ rfl)))
        exact ⟨rfl, trivial⟩
theorem fiducialtop_bMatched_walk {m : Mu}    {r : Bool} (hm : fiducialtop_bMatched = some r) :
    Go.E.Spec Try.prog 19 [] m (fun v _ _ => v = .bool r) := by
  refine Spec_enter Try.func19 rfl rfl rfl (fun w0 => ?_)
  refine WK.sub (e' := []) trivial ?_
  refine WK.sub (e' := []) trivial ?_
  unfold fiducialtop_bMatched at hm
  refine WK_seq ?_
  refine WK_region ?_
  refine WO_pure tbok 1 [(0, .bool false)] rfl ⟨rfl, trivial⟩ ?_
  refine WO_end ?_
  refine WK_seq ?_
  refine WK_region ?_
  refine WO_pure tbok 3 [(0, .bool false), (9, .agg #[.int .i64 0, .int .i64 0, .int .i64 1, .int .i64 1, .int .i64 1, .int .i64 0, .int .i64 1, .int .i64 1])] rfl ⟨rfl, rfl, trivial⟩ ?_
  refine WO_bslice (E := T8) tbok (fun _ => rfl) (by decide) [.agg #[.int .i64 0, .int .i64 0, .int .i64 1, .int .i64 1, .int .i64 1, .int .i64 0, .int .i64 1, .int .i64 1]] ([(0, 0, 1, 1, 1, 0, 1, 1)] : List (Int × Int × Int × Int × Int × Int × Int × Int)) rfl rfl trivial rfl rfl rfl rfl rfl rfl rfl rfl rfl rfl rfl rfl (fun b1 hb1 => ?_)
  refine WO.cls (C' := St w0 m m [[⟨b1, 94, ([(0, 0, 1, 1, 1, 0, 1, 1)] : List (Int × Int × Int × Int × Int × Int × Int × Int)).flatMap T8⟩]]) (fun _ h => h) ?_
  refine WO_pure tbok 1 [(0, .bool false), (1, .slice (some ⟨b1, 0, none⟩) 1 1)] rfl ⟨rfl, rfl, trivial⟩ ?_
  refine WO_end ?_
  refine WK_seq ?_
  refine WK_region ?_
  refine WO_bslice (E := (I1 .i64)) tbok (fun _ => rfl) (by decide) [.int .i64 1, .int .i64 5, .int .i64 5] ([1, 5, 5] : List Int) rfl rfl trivial rfl rfl rfl rfl rfl rfl rfl rfl rfl rfl rfl rfl (fun b2 hb2 => ?_)
  refine WO.cls (C' := St w0 m m [[⟨b1, 94, ([(0, 0, 1, 1, 1, 0, 1, 1)] : List (Int × Int × Int × Int × Int × Int × Int × Int)).flatMap T8⟩], [⟨b2, 3, ([1, 5, 5] : List Int).flatMap (I1 .i64)⟩]]) (fun _ h => h) ?_
  refine WO_pure tbok 2 [(0, .bool false), (13, .agg #[.int .i64 3, .int .i64 1, .int .i64 9, .slice (some ⟨b2, 0, none⟩) 3 3]), (14, .slice (some ⟨b1, 0, none⟩) 1 1)] rfl ⟨rfl, rfl, rfl, trivial⟩ ?_
  refine WO_freeze 1 rfl (fun m3 hle4 hmm5 => ?_)
  refine WO.cls (C' := St w0 m m3 [[⟨b1, 94, ([(0, 0, 1, 1, 1, 0, 1, 1)] : List (Int × Int × Int × Int × Int × Int × Int × Int)).flatMap T8⟩], []]) (fun _ h => h) ?_
  refine WO_freeze 0 rfl (fun m6 hle7 hmm8 => ?_)
  refine WO.cls (C' := St w0 m m6 [[], []]) (fun _ h => h) ?_
  obtain ⟨⟨y_1, y_2, y_3⟩, hc9, hm⟩ := bind_some hm
  refine WO_call2 (descriptor_All_Q (y_1, y_2, y_3)) rfl rfl trivial rfl rfl rfl rfl ⟨21, #[], #[], rfl, callable_21, descriptor_All_walk ((OwnE.rd (E := (I1 .i64)) (k := 1) (fun _ => rfl) hb2 hmm5).mono (mono_FE _) hle7) (OwnE.rd (E := T8) (k := 8) (fun _ => rfl) hb1 hmm8) hc9⟩ (fun v15 m16 L14 hle17 hq => ?_)
  obtain ⟨a10, qa10, c11, a12, qa12, c13, rfl, h18, h19⟩ := hq
  obtain rfl := SlR.qlen h18
  obtain rfl := SlR.qlen h19
  refine WO.cls (C' := St w0 m m16 [[], [], L14]) (fun _ h => h.sub (by simp)) ?_
  refine WO_pure tbok 7 [(0, .bool false), (2, .slice a10 ((y_1).length) c11), (3, .slice a12 ((y_2).length) c13), (4, .int .i64 y_3)] rfl ⟨rfl, rfl, rfl, rfl, trivial⟩ ?_
  refine WO_end ?_
  refine WK_seq ?_
  refine WK_region ?_
  refine WO_pure tbok 1 [(0, .bool false), (2, .slice a10 ((y_1).length) c11), (3, .slice a12 ((y_2).length) c13), (4, .int .i64 y_3), (20, .slice a12 ((y_2).length) c13)] rfl ⟨rfl, rfl, rfl, rfl, rfl, trivial⟩ ?_
  refine WO_bslice (E := (I1 .u64)) tbok (fun _ => rfl) (by decide) [.int .u64 0, .int .u64 1] ([0, 1] : List Int) rfl rfl trivial rfl rfl rfl rfl rfl rfl rfl rfl rfl rfl rfl rfl (fun b20 hb20 => ?_)
  refine WO.cls (C' := St w0 m m16 [[], [], L14, [⟨b20, 95, ([0, 1] : List Int).flatMap (I1 .u64)⟩]]) (fun _ h => h) ?_
  obtain ⟨⟨y_4, y_5⟩, hc21, hm⟩ := bind_some hm
  refine WO_call1 (neighbour_Matches_Q (y_4, y_5)) rfl rfl trivial rfl rfl rfl rfl ⟨25, #[], #[], rfl, callable_25, fun w hw => ⟨_, hw.satV, neighbour_Matches_walk (h19.mono (mono_FE _) hw.leV) (OwnE.rd (E := (I1 .u64)) (k := 1) (fun _ => rfl) hb20 (fun _ hx => hw.memV (i := 3) rfl hx)) hc21⟩⟩ (fun v25 L24 hq => ?_)
  obtain ⟨a22, qa22, c23, rfl, hL24⟩ := hq
  obtain rfl := OwnE.qlen hL24
  refine WO.cls (C' := St w0 m m16 [[], [], L14, [⟨b20, 95, ([0, 1] : List Int).flatMap (I1 .u64)⟩], L24]) (fun _ h => h) ?_
  refine WO_pure tbok 5 [(0, .bool false), (2, .slice a10 ((y_1).length) c11), (3, .slice a12 ((y_2).length) c13), (4, .int .i64 y_3), (5, .slice a22 ((y_4).length) c23), (6, .int .i64 y_5)] rfl ⟨rfl, rfl, rfl, rfl, rfl, rfl, trivial⟩ ?_
  refine WO_end ?_
  refine WK_seq ?_
  refine WK_region ?_
  refine WO_pure tbok 5 [(0, .bool false), (2, .slice a10 ((y_1).length) c11), (3, .slice a12 ((y_2).length) c13), (5, .slice a22 ((y_4).length) c23), (29, .bool ((w64 (y_3 + y_5)) == 0))] rfl ⟨rfl, rfl, rfl, rfl, rfl, trivial⟩ ?_
  refine WO_split (d := 29) (b := (w64 (y_3 + y_5)) == 0) rfl (fun hb26 => ?_) (fun hb26 => ?_)
  · have hm := ifT hb26 hm
    refine WO_pure tbok 5 [(0, .bool false), (3, .slice a12 ((y_2).length) c13), (5, .slice a22 ((y_4).length) c23), (34, .bool (((y_1).length : Int) == 2))] rfl ⟨rfl, rfl, rfl, rfl, trivial⟩ ?_
    refine WO_split (d := 34) (b := ((y_1).length : Int) == 2) rfl (fun hb27 => ?_) (fun hb27 => ?_)
    · have hm := ifT hb27 hm
      refine WO_pure tbok 1 [(0, .bool false), (5, .slice a22 ((y_4).length) c23), (34, .bool true), (35, .slice a12 ((y_2).length) c13)] rfl ⟨rfl, rfl, rfl, rfl, trivial⟩ ?_
      refine WO_bslice (E := (I1 .u64)) tbok (fun _ => rfl) (by decide) [.int .u64 1, .int .u64 0] ([1, 0] : List Int) rfl rfl trivial rfl rfl rfl rfl rfl rfl rfl rfl rfl rfl rfl rfl (fun b28 hb28 => ?_)
      refine WO.cls (C' := St w0 m m16 [[], [], L14, [⟨b20, 95, ([0, 1] : List Int).flatMap (I1 .u64)⟩], L24, [⟨b28, 95, ([1, 0] : List Int).flatMap (I1 .u64)⟩]]) (fun _ h => h) ?_
      obtain ⟨y_6, hc29, hm⟩ := bind_some hm
      refine WO_call0 (.bool y_6) rfl rfl trivial rfl rfl rfl rfl St_closed ⟨50, #[], #[], rfl, callable_50, fun w hw => ⟨_, hw.satV, slices_Equal_suint64_walk (h19.mono (mono_FE _) hw.leV) (OwnE.rd (E := (I1 .u64)) (k := 1) (fun _ => rfl) hb28 (fun _ hx => hw.memV (i := 5) rfl hx)) hc29⟩⟩ ?_
      refine WO_pure tbok 2 [(0, .bool false), (5, .slice a22 ((y_4).length) c23), (39, .bool y_6)] rfl ⟨rfl, rfl, rfl, trivial⟩ ?_
      refine WO_split (d := 39) (b := y_6) rfl (fun hb30 => ?_) (fun hb30 => ?_)
      · have hm := ifT hb30 hm
        refine WO_pure tbok 5 [(0, .bool (((y_4).length : Int) == 2))] rfl ⟨rfl, trivial⟩ ?_
        refine WO_end ?_
        cases hm
        exact WK_ret (ret_out (L := []) (RLc_tmp rfl RLc_nil) (List.nil_sublist _) rfl)
      · have hm := ifF hb30 hm
        refine WO_pure tbok 5 [(0, .bool false)] rfl ⟨rfl, trivial⟩ ?_
        refine WO_end ?_
        cases hm
        exact WK_ret (ret_out (L := []) (RLc_tmp rfl RLc_nil) (List.nil_sublist _) rfl)
    · have hm := ifF hb27 hm
      refine WO_pure tbok 1 [(0, .bool false), (5, .slice a22 ((y_4).length) c23), (34, .bool false)] rfl ⟨rfl, rfl, rfl, trivial⟩ ?_
      refine WO_skip rfl rfl ?_
      refine WO_skip rfl rfl ?_
      refine WO_pure tbok 7 [(0, .bool false)] rfl ⟨rfl, trivial⟩ ?_
      refine WO_end ?_
      cases hm
      exact WK_ret (ret_out (L := []) (RLc_tmp rfl RLc_nil) (List.nil_sublist _) rfl)
  · have hm := ifF hb26 hm
    refine WO_pure tbok 6 [(0, .bool false), (5, .slice a22 ((y_4).length) c23), (34, .bool false)] rfl ⟨rfl, rfl, rfl, trivial⟩ ?_
    refine WO_skip rfl rfl ?_
    refine WO_skip rfl rfl ?_
    refine WO_pure tbok 7 [(0, .bool false)] rfl ⟨rfl, trivial⟩ ?_
    refine WO_end ?_
    cases hm
    exact WK_ret (ret_out (L := []) (RLc_tmp rfl RLc_nil) (List.nil_sublist _) rfl)
theorem fiducialref13_Check_walk {m : Mu} {p0_0 : Int} {p0_1 : Int} {p0_2 : Int} {p0_3 : List Int} {a_p0_3 : Option Addr} {q_p0_3 c_p0_3 : Nat} (h_p0_3 : SlR (FE (I1 .i64)) 1 m (.slice a_p0_3 q_p0_3 c_p0_3) p0_3) {r : Int} (hm : fiducialref13_Check p0_0 p0_1 p0_2 p0_3 = some r) :
    Go.E.Spec Try.prog 7 [.agg #[.int .i64 p0_0, .int .i64 p0_1, .int .i64 p0_2, .slice a_p0_3 q_p0_3 c_p0_3]] m (fun v _ _ => v = .int .i64 r) := by
  refine Spec_enter Try.func7 rfl rfl rfl (fun w0 => ?_)
  refine WK.sub (e' := [(0, .agg #[.int .i64 p0_0, .int .i64 p0_1, .int .i64 p0_2, .slice a_p0_3 q_p0_3 c_p0_3])]) ⟨rfl, trivial⟩ ?_
  obtain rfl := SlR.qlen h_p0_3
  refine WK.sub (e' := [(0, .agg #[.int .i64 p0_0, .int .i64 p0_1, .int .i64 p0_2, .slice a_p0_3 p0_3.length c_p0_3])]) ⟨rfl, trivial⟩ ?_
  unfold fiducialref13_Check at hm
  refine WK_seq ?_
  refine WK_region ?_
  refine WO_box [.int .i64 p0_0, .int .i64 p0_1, .int .i64 p0_2, .slice a_p0_3 p0_3.length c_p0_3] rfl rfl trivial rfl rfl rfl (fun b1 => ?_)
  refine WO.cls (C' := St w0 m m [[⟨b1, 24, [.int .i64 p0_0, .int .i64 p0_1, .int .i64 p0_2, .slice a_p0_3 p0_3.length c_p0_3]⟩]]) (fun _ h => h) ?_
  refine WO_pure tbok 1 [(1, .pointer (some ⟨b1, 0, none⟩)), (2, .int .i64 0)] rfl ⟨rfl, rfl, trivial⟩ ?_
  refine WO_end ?_
  refine WK_seq ?_
  refine WK_seq ?_
  obtain ⟨s_1, hx2, hm⟩ := bind_some hm
  refine WK_meet [(1, .pointer (some ⟨b1, 0, none⟩)), (2, .int .i64 0), (42, .bool s_1)] (St w0 m m [[⟨b1, 24, [.int .i64 p0_0, .int .i64 p0_1, .int .i64 p0_2, .slice a_p0_3 p0_3.length c_p0_3]⟩]]) ?_ (fun hk3 => ?_)
  · refine WK_cond (b := s_1) rfl (fun hb4 => ?_) (fun hb4 => ?_)
    · have hm := ifT hb4 hm
      refine WK_seq ?_
      refine WK_region ?_
      refine WO_pure tbok 1 [(1, .pointer (some ⟨b1, 0, none⟩)), (2, .int .i64 1)] rfl ⟨rfl, rfl, trivial⟩ ?_
      refine WO_end ?_
      cases hm
      exact WK_ret (ret_out (L := []) (RLc_tmp rfl RLc_nil) (List.nil_sublist _) rfl)
    · have hm := ifF hb4 hm
      refine WK_skip ?_
      refine WK_seq ?_
      refine WK_seq ?_
      refine WK_region ?_
      refine WO_pure tbok 1 [(1, .pointer (some ⟨b1, 0, none⟩)), (2, .int .i64 0), (3, .int .i64 0)] rfl ⟨rfl, rfl, rfl, trivial⟩ ?_
      refine WO_end ?_
      obtain ⟨x5, hx6, hm⟩ := bind_some hm
      refine WK_join (β := Unit × Unit) (fun p => Sum.inr p.1 = x5) (fun p => [(2, .int .i64 0)]) (fun p => St w0 m m [[⟨b1, 24, [.int .i64 p0_0, .int .i64 p0_1, .int .i64 p0_2, .slice a_p0_3 p0_3.length c_p0_3]⟩]]) ?_ (fun hk7 => ?_)
      · rintro ⟨⟨⟩, ⟨⟩⟩ hq13
        subst hq13
        refine WK.sub (e' := [(2, .int .i64 0)]) ⟨rfl, trivial⟩ (WK.cls (C' := St w0 m m [[⟨b1, 24, [.int .i64 p0_0, .int .i64 p0_1, .int .i64 p0_2, .slice a_p0_3 p0_3.length c_p0_3]⟩]]) (fun _ h => h) ?_)
        refine WK_seq ?_
        refine WK_region ?_
        refine WO_pure tbok 1 [(2, .int .i64 0)] rfl ⟨rfl, trivial⟩ ?_
        refine WO_end ?_
        cases hm
        exact WK_ret (ret_out (L := []) (RLc_tmp rfl RLc_nil) (List.nil_sublist _) rfl)
      · refine WK_block ?_
        refine WK_loop (S := Int) (G := Unit) (fun s => fiducialref13_Check_s1 p0_2 p0_3 s) (fun s g => [(1, .pointer (some ⟨b1, 0, none⟩)), (2, .int .i64 0), (3, .int .i64 s)]) (fun s g => St w0 m m [[⟨b1, 24, [.int .i64 p0_0, .int .i64 p0_1, .int .i64 p0_2, .slice a_p0_3 p0_3.length c_p0_3]⟩]]) (fun s g => True) FUEL 0 () x5 hx6 trivial ⟨rfl, rfl, rfl, trivial⟩ (fun _ h => h) ?_
        rintro s_2 ⟨⟩ o9 fl10 hm8 - hn11 hd12
        have hm8 : fiducialref13_Check_s1 p0_2 p0_3 s_2 = some o9 := hm8
        unfold fiducialref13_Check_s1 at hm8
        refine WK.sub (e' := [(1, .pointer (some ⟨b1, 0, none⟩)), (2, .int .i64 0), (3, .int .i64 s_2)]) ⟨rfl, rfl, rfl, trivial⟩ (WK.cls (C' := St w0 m m [[⟨b1, 24, [.int .i64 p0_0, .int .i64 p0_1, .int .i64 p0_2, .slice a_p0_3 p0_3.length c_p0_3]⟩]]) (fun _ h => h) ?_)
        refine WK_seq ?_
        refine WK_seq ?_
        refine WK_region ?_
        refine WO_pure tbok 2 [(1, .pointer (some ⟨b1, 0, none⟩)), (2, .int .i64 0), (3, .int .i64 s_2), (43, .int .i64 s_2), (44, .pointer (some ⟨b1, 3, none⟩))] rfl ⟨rfl, rfl, rfl, rfl, rfl, trivial⟩ ?_
        refine WO_loadB tbok 0 rfl rfl rfl rfl (fun _ h => h) rfl rfl ?_
        refine WO_pure tbok 2 [(1, .pointer (some ⟨b1, 0, none⟩)), (2, .int .i64 0), (3, .int .i64 s_2), (47, .bool (decide (s_2 < (p0_3.length : Int))))] rfl ⟨rfl, rfl, rfl, rfl, trivial⟩ ?_
        refine WO_end ?_
        refine WK_cond (b := decide (s_2 < (p0_3.length : Int))) rfl (fun hb14 => ?_) (fun hb14 => ?_)
        · have hm8 := ifT hb14 hm8
          refine WK_skip ?_
          refine WK_seq ?_
          refine WK_block ?_
          refine WK_seq ?_
          obtain ⟨s_3, hx15, hm8⟩ := bind_some hm8
          refine WK_meet [(1, .pointer (some ⟨b1, 0, none⟩)), (2, .int .i64 0), (3, .int .i64 s_2), (65, .bool s_3)] (St w0 m m [[⟨b1, 24, [.int .i64 p0_0, .int .i64 p0_1, .int .i64 p0_2, .slice a_p0_3 p0_3.length c_p0_3]⟩]]) ?_ (fun hk16 => ?_)
          · refine WK_cond (b := s_3) rfl (fun hb17 => ?_) (fun hb17 => ?_)
            · have hm8 := ifT hb17 hm8
              refine WK_seq ?_
              refine WK_region ?_
              refine WO_pure tbok 1 [(1, .pointer (some ⟨b1, 0, none⟩)), (2, .int .i64 1), (3, .int .i64 s_2)] rfl ⟨rfl, rfl, rfl, trivial⟩ ?_
              refine WO_end ?_
              cases hm8
              have hq := hd12 _ rfl
              subst hq
              have hm : some _ = some _ := hm
              cases hm
              exact WK_ret (ret_out (L := []) (RLc_tmp rfl RLc_nil) (List.nil_sublist _) rfl)
            · have hm8 := ifF hb17 hm8
              refine WK_skip ?_
              refine WK_blk ?_
              refine WK_region ?_
              refine WO_pure tbok 3 [(1, .pointer (some ⟨b1, 0, none⟩)), (2, .int .i64 0), (3, .int .i64 (w64 (s_2 + 1)))] rfl ⟨rfl, rfl, rfl, trivial⟩ ?_
              refine WO_end ?_
              cases hm8
              refine WK.sub ?_ (WK.cls (fun _ h => h) (hn11 _ () rfl trivial))
              exact ⟨rfl, rfl, rfl, trivial⟩
          · refine WK_draw 16 [0, 1, 2, 3, 4, 5, 6, 7, 8, 9, 10, 11, 12, 13, 14, 15] follows_ok (by kernel_rfl) St_closed ?_
            refine WO_pure tbok 1 [(1, .pointer (some ⟨b1, 0, none⟩)), (2, .int .i64 0), (3, .int .i64 s_2), (50, .pointer (some ⟨b1, 3, none⟩))] rfl ⟨rfl, rfl, rfl, rfl, trivial⟩ ?_
            refine WO_loadB tbok 0 rfl rfl rfl rfl (fun _ h => h) rfl rfl ?_
            refine WO_pure tbok 1 [(1, .pointer (some ⟨b1, 0, none⟩)), (2, .int .i64 0), (3, .int .i64 s_2), (51, .slice a_p0_3 p0_3.length c_p0_3), (52, .int .i64 s_2)] rfl ⟨rfl, rfl, rfl, rfl, rfl, trivial⟩ ?_
            obtain ⟨v_4, hy18, hx15⟩ := bind_some hx15
            obtain ⟨hc19, hy18⟩ := ix_some hy18
            refine WO_index tbok rfl rfl rfl rfl rfl rfl rfl rfl (SlR.addr h_p0_3) hc19 ?_
            refine WO_loadE tbok rfl rfl rfl rfl (fun _ h => St.sat h) h_p0_3 hy18 rfl ?_
            refine WO_pure tbok 2 [(1, .pointer (some ⟨b1, 0, none⟩)), (2, .int .i64 0), (3, .int .i64 s_2), (56, .bool (decide (v_4 < 0)))] rfl ⟨rfl, rfl, rfl, rfl, trivial⟩ ?_
            refine WO_split (d := 56) (b := decide (v_4 < 0)) rfl (fun hb20 => ?_) (fun hb20 => ?_)
            · have hx15 := ifT hb20 hx15
              refine WO_pure tbok 9 [(1, .pointer (some ⟨b1, 0, none⟩)), (2, .int .i64 0), (3, .int .i64 s_2), (65, .bool true)] rfl ⟨rfl, rfl, rfl, rfl, trivial⟩ ?_
              refine WO_tail ?_
              refine WO_end ?_
              cases hx15
              refine WK.sub ?_ (WK.cls (fun _ h => h) hk16)
              exact ⟨rfl, rfl, rfl, rfl, trivial⟩
            · have hx15 := ifF hb20 hx15
              refine WO_pure tbok 1 [(1, .pointer (some ⟨b1, 0, none⟩)), (2, .int .i64 0), (3, .int .i64 s_2), (56, .bool false), (57, .pointer (some ⟨b1, 3, none⟩))] rfl ⟨rfl, rfl, rfl, rfl, rfl, trivial⟩ ?_
              refine WO_loadB tbok 0 rfl rfl rfl rfl (fun _ h => h) rfl rfl ?_
              refine WO_pure tbok 1 [(1, .pointer (some ⟨b1, 0, none⟩)), (2, .int .i64 0), (3, .int .i64 s_2), (56, .bool false), (58, .slice a_p0_3 p0_3.length c_p0_3), (59, .int .i64 s_2)] rfl ⟨rfl, rfl, rfl, rfl, rfl, rfl, trivial⟩ ?_
              obtain ⟨v_5, hy21, hx15⟩ := bind_some hx15
              obtain ⟨hc22, hy21⟩ := ix_some hy21
              refine WO_index tbok rfl rfl rfl rfl rfl rfl rfl rfl (SlR.addr h_p0_3) hc22 ?_
              refine WO_loadE tbok rfl rfl rfl rfl (fun _ h => St.sat h) h_p0_3 hy21 rfl ?_
              refine WO_pure tbok 1 [(1, .pointer (some ⟨b1, 0, none⟩)), (2, .int .i64 0), (3, .int .i64 s_2), (56, .bool false), (61, .int .i64 v_5), (62, .pointer (some ⟨b1, 2, none⟩))] rfl ⟨rfl, rfl, rfl, rfl, rfl, rfl, trivial⟩ ?_
              refine WO_loadB tbok 0 rfl rfl rfl rfl (fun _ h => h) rfl rfl ?_
              refine WO_pure tbok 2 [(1, .pointer (some ⟨b1, 0, none⟩)), (2, .int .i64 0), (3, .int .i64 s_2), (65, .bool (decide (p0_2 < v_5)))] rfl ⟨rfl, rfl, rfl, rfl, trivial⟩ ?_
              refine WO_tail ?_
              refine WO_end ?_
              cases hx15
              refine WK.sub ?_ (WK.cls (fun _ h => h) hk16)
              exact ⟨rfl, rfl, rfl, rfl, trivial⟩
        · have hm8 := ifF hb14 hm8
          refine WK_exit rfl ?_
          cases hm8
          refine WK.sub ?_ (WK.cls (fun _ h => h) (hk7 ((), ()) (hd12 _ rfl)))
          exact ⟨rfl, trivial⟩
  · refine WK_region ?_
    refine WO_pure tbok 1 [(1, .pointer (some ⟨b1, 0, none⟩)), (2, .int .i64 0), (4, .pointer (some ⟨b1, 0, none⟩))] rfl ⟨rfl, rfl, rfl, trivial⟩ ?_
    refine WO_loadB tbok 0 rfl rfl rfl rfl (fun _ h => h) rfl rfl ?_
    refine WO_pure tbok 2 [(1, .pointer (some ⟨b1, 0, none⟩)), (2, .int .i64 0), (7, .bool (decide (p0_0 < 1)))] rfl ⟨rfl, rfl, rfl, trivial⟩ ?_
    refine WO_split (d := 7) (b := decide (p0_0 < 1)) rfl (fun hb23 => ?_) (fun hb23 => ?_)
    · have hx2 := ifT hb23 hx2
      refine WO_pure tbok 35 [(1, .pointer (some ⟨b1, 0, none⟩)), (2, .int .i64 0), (42, .bool true)] rfl ⟨rfl, rfl, rfl, trivial⟩ ?_
      refine WO_end ?_
      cases hx2
      refine WK.sub ?_ (WK.cls (fun _ h => h) hk3)
      exact ⟨rfl, rfl, rfl, trivial⟩
    · have hx2 := ifF hb23 hx2
      refine WO_pure tbok 1 [(1, .pointer (some ⟨b1, 0, none⟩)), (2, .int .i64 0), (7, .bool false), (8, .pointer (some ⟨b1, 0, none⟩))] rfl ⟨rfl, rfl, rfl, rfl, trivial⟩ ?_
      refine WO_loadB tbok 0 rfl rfl rfl rfl (fun _ h => h) rfl rfl ?_
      refine WO_pure tbok 3 [(1, .pointer (some ⟨b1, 0, none⟩)), (2, .int .i64 0), (12, .bool (decide (64 < p0_0)))] rfl ⟨rfl, rfl, rfl, trivial⟩ ?_
      refine WO_split (d := 12) (b := decide (64 < p0_0)) rfl (fun hb24 => ?_) (fun hb24 => ?_)
      · have hx2 := ifT hb24 hx2
        refine WO_pure tbok 30 [(1, .pointer (some ⟨b1, 0, none⟩)), (2, .int .i64 0), (42, .bool true)] rfl ⟨rfl, rfl, rfl, trivial⟩ ?_
        refine WO_end ?_
        cases hx2
        refine WK.sub ?_ (WK.cls (fun _ h => h) hk3)
        exact ⟨rfl, rfl, rfl, trivial⟩
      · have hx2 := ifF hb24 hx2
        refine WO_pure tbok 1 [(1, .pointer (some ⟨b1, 0, none⟩)), (2, .int .i64 0), (12, .bool false), (13, .pointer (some ⟨b1, 1, none⟩))] rfl ⟨rfl, rfl, rfl, rfl, trivial⟩ ?_
        refine WO_loadB tbok 0 rfl rfl rfl rfl (fun _ h => h) rfl rfl ?_
        refine WO_pure tbok 3 [(1, .pointer (some ⟨b1, 0, none⟩)), (2, .int .i64 0), (17, .bool (decide (p0_1 < 1)))] rfl ⟨rfl, rfl, rfl, trivial⟩ ?_
        refine WO_split (d := 17) (b := decide (p0_1 < 1)) rfl (fun hb25 => ?_) (fun hb25 => ?_)
        · have hx2 := ifT hb25 hx2
          refine WO_pure tbok 25 [(1, .pointer (some ⟨b1, 0, none⟩)), (2, .int .i64 0), (42, .bool true)] rfl ⟨rfl, rfl, rfl, trivial⟩ ?_
          refine WO_end ?_
          cases hx2
          refine WK.sub ?_ (WK.cls (fun _ h => h) hk3)
          exact ⟨rfl, rfl, rfl, trivial⟩
        · have hx2 := ifF hb25 hx2
          refine WO_pure tbok 1 [(1, .pointer (some ⟨b1, 0, none⟩)), (2, .int .i64 0), (17, .bool false), (18, .pointer (some ⟨b1, 1, none⟩))] rfl ⟨rfl, rfl, rfl, rfl, trivial⟩ ?_
          refine WO_loadB tbok 0 rfl rfl rfl rfl (fun _ h => h) rfl rfl ?_
          refine WO_pure tbok 3 [(1, .pointer (some ⟨b1, 0, none⟩)), (2, .int .i64 0), (22, .bool (decide (64 < p0_1)))] rfl ⟨rfl, rfl, rfl, trivial⟩ ?_
          refine WO_split (d := 22) (b := decide (64 < p0_1)) rfl (fun hb26 => ?_) (fun hb26 => ?_)
          · have hx2 := ifT hb26 hx2
            refine WO_pure tbok 20 [(1, .pointer (some ⟨b1, 0, none⟩)), (2, .int .i64 0), (42, .bool true)] rfl ⟨rfl, rfl, rfl, trivial⟩ ?_
            refine WO_end ?_
            cases hx2
            refine WK.sub ?_ (WK.cls (fun _ h => h) hk3)
            exact ⟨rfl, rfl, rfl, trivial⟩
          · have hx2 := ifF hb26 hx2
            refine WO_pure tbok 1 [(1, .pointer (some ⟨b1, 0, none⟩)), (2, .int .i64 0), (22, .bool false), (23, .pointer (some ⟨b1, 2, none⟩))] rfl ⟨rfl, rfl, rfl, rfl, trivial⟩ ?_
            refine WO_loadB tbok 0 rfl rfl rfl rfl (fun _ h => h) rfl rfl ?_
            refine WO_pure tbok 3 [(1, .pointer (some ⟨b1, 0, none⟩)), (2, .int .i64 0), (27, .bool (decide (p0_2 < 1)))] rfl ⟨rfl, rfl, rfl, trivial⟩ ?_
            refine WO_split (d := 27) (b := decide (p0_2 < 1)) rfl (fun hb27 => ?_) (fun hb27 => ?_)
            · have hx2 := ifT hb27 hx2
              refine WO_pure tbok 15 [(1, .pointer (some ⟨b1, 0, none⟩)), (2, .int .i64 0), (42, .bool true)] rfl ⟨rfl, rfl, rfl, trivial⟩ ?_
              refine WO_end ?_
              cases hx2
              refine WK.sub ?_ (WK.cls (fun _ h => h) hk3)
              exact ⟨rfl, rfl, rfl, trivial⟩
            · have hx2 := ifF hb27 hx2
              refine WO_pure tbok 1 [(1, .pointer (some ⟨b1, 0, none⟩)), (2, .int .i64 0), (27, .bool false), (28, .pointer (some ⟨b1, 2, none⟩))] rfl ⟨rfl, rfl, rfl, rfl, trivial⟩ ?_
              refine WO_loadB tbok 0 rfl rfl rfl rfl (fun _ h => h) rfl rfl ?_
              refine WO_pure tbok 3 [(1, .pointer (some ⟨b1, 0, none⟩)), (2, .int .i64 0), (32, .bool (decide (65535 < p0_2)))] rfl ⟨rfl, rfl, rfl, trivial⟩ ?_
              refine WO_split (d := 32) (b := decide (65535 < p0_2)) rfl (fun hb28 => ?_) (fun hb28 => ?_)
              · have hx2 := ifT hb28 hx2
                refine WO_pure tbok 10 [(1, .pointer (some ⟨b1, 0, none⟩)), (2, .int .i64 0), (42, .bool true)] rfl ⟨rfl, rfl, rfl, trivial⟩ ?_
                refine WO_end ?_
                cases hx2
                refine WK.sub ?_ (WK.cls (fun _ h => h) hk3)
                exact ⟨rfl, rfl, rfl, trivial⟩
              · have hx2 := ifF hb28 hx2
                refine WO_pure tbok 1 [(1, .pointer (some ⟨b1, 0, none⟩)), (2, .int .i64 0), (32, .bool false), (33, .pointer (some ⟨b1, 3, none⟩))] rfl ⟨rfl, rfl, rfl, rfl, trivial⟩ ?_
                refine WO_loadB tbok 0 rfl rfl rfl rfl (fun _ h => h) rfl rfl ?_
                refine WO_pure tbok 2 [(1, .pointer (some ⟨b1, 0, none⟩)), (2, .int .i64 0), (32, .bool false), (35, .int .i64 (p0_3.length : Int)), (36, .pointer (some ⟨b1, 0, none⟩))] rfl ⟨rfl, rfl, rfl, rfl, rfl, trivial⟩ ?_
                refine WO_loadB tbok 0 rfl rfl rfl rfl (fun _ h => h) rfl rfl ?_
                refine WO_pure tbok 1 [(1, .pointer (some ⟨b1, 0, none⟩)), (2, .int .i64 0), (32, .bool false), (35, .int .i64 (p0_3.length : Int)), (37, .int .i64 p0_0), (38, .pointer (some ⟨b1, 1, none⟩))] rfl ⟨rfl, rfl, rfl, rfl, rfl, rfl, trivial⟩ ?_
                refine WO_loadB tbok 0 rfl rfl rfl rfl (fun _ h => h) rfl rfl ?_
                refine WO_pure tbok 3 [(1, .pointer (some ⟨b1, 0, none⟩)), (2, .int .i64 0), (42, .bool ((p0_3.length : Int) != (w64 (p0_0 * p0_1))))] rfl ⟨rfl, rfl, rfl, trivial⟩ ?_
                refine WO_end ?_
                cases hx2
                refine WK.sub ?_ (WK.cls (fun _ h => h) hk3)
                exact ⟨rfl, rfl, rfl, trivial⟩
def raster_made_Q (r : Int × Int × Int × List Int) : Value → List Ent → Prop := fun v L => ∃ (a0 : Option Addr) (q0 c0 : Nat), v = .agg #[.int .i64 r.1, .int .i64 r.2.1, .int .i64 r.2.2.1, .slice a0 q0 c0] ∧ OwnE 3 1 (I1 .i64) (.slice a0 q0 c0) r.2.2.2 L
theorem raster_made_walk {m : Mu} {p0 : Int} {p1 : Int} {p2 : Int} {p3 : Int → Int → Option Int} {p3v : Value} (hp3 : ∀ (m1 : Mu), Le m m1 → ∀ (u1 : Int), ∀ (u2 : Int), ∀ (r : Int), p3 u1 u2 = some r → SpecV Try.prog p3v [.int .i64 u1, .int .i64 u2] m1 (fun v _ _ => v = .int .i64 r)) {r : Int × Int × Int × List Int} (hm : raster_made p0 p1 p2 p3 = some r) :
    Go.E.Spec Try.prog 44 [.int .i64 p0, .int .i64 p1, .int .i64 p2, p3v] m (fun v _ L => raster_made_Q r v L) := by
  refine Spec_enter Try.func44 rfl rfl rfl (fun w0 => ?_)
  refine WK.sub (e' := [(0, .int .i64 p0), (1, .int .i64 p1), (2, .int .i64 p2), (3, p3v)]) ⟨rfl, rfl, rfl, rfl, trivial⟩ ?_
  refine WK.sub (e' := [(0, .int .i64 p0), (1, .int .i64 p1), (2, .int .i64 p2), (3, p3v)]) ⟨rfl, rfl, rfl, rfl, trivial⟩ ?_
  unfold raster_made at hm
  refine WK_seq ?_
  refine WK_region ?_
  refine WO_alloc tbok [.int .i64 0, .int .i64 0, .int .i64 0, .slice none 0 0] rfl rfl trivial rfl rfl rfl rfl (fun b1 => ?_)
  refine WO.cls (C' := St w0 m m [[⟨b1, 24, [.int .i64 0, .int .i64 0, .int .i64 0, .slice none 0 0]⟩]]) (fun _ h => h) ?_
  refine WO_end ?_
  refine WK_seq ?_
  refine WK_region ?_
  refine WO_pure tbok 6 [(0, .int .i64 p0), (1, .int .i64 p1), (3, p3v), (8, .pointer (some ⟨b1, 0, none⟩)), (12, .int .i64 p0), (13, .int .i64 p1), (14, .int .i64 p2), (17, .int .i64 (w64 (p0 * p1)))] rfl ⟨rfl, rfl, rfl, rfl, rfl, rfl, rfl, rfl, trivial⟩ ?_
  obtain ⟨hc2, hm⟩ := chk_some hm
  refine WO_make (E := (I1 .i64)) tbok (fun _ => rfl) (by decide) (0 : Int) rfl rfl trivial rfl rfl rfl rfl rfl rfl rfl rfl rfl (mk_ok (by decide) hc2) (fun b3 c4 L5 hL5 => ?_)
  refine WO.cls (C' := St w0 m m [[⟨b1, 24, [.int .i64 0, .int .i64 0, .int .i64 0, .slice none 0 0]⟩], L5]) (fun _ h => h) ?_
  refine WO_pure tbok 1 [(0, .int .i64 p0), (1, .int .i64 p1), (3, p3v), (8, .pointer (some ⟨b1, 0, none⟩)), (19, .agg #[.int .i64 p0, .int .i64 p1, .int .i64 p2, .slice (some ⟨b3, 0, none⟩) (([] : List Int).length) c4])] rfl ⟨rfl, rfl, rfl, rfl, rfl, trivial⟩ ?_
  refine WO_alloc tbok [.int .i64 0, .int .i64 0, .int .i64 0, .slice none 0 0] rfl rfl trivial rfl rfl rfl rfl (fun b6 => ?_)
  refine WO.cls (C' := St w0 m m [[⟨b1, 24, [.int .i64 0, .int .i64 0, .int .i64 0, .slice none 0 0]⟩], L5, [⟨b6, 24, [.int .i64 0, .int .i64 0, .int .i64 0, .slice none 0 0]⟩]]) (fun _ h => h) ?_
  refine WO_storeB tbok 2 [.int .i64 p0, .int .i64 p1, .int .i64 p2, .slice (some ⟨b3, 0, none⟩) (([] : List Int).length) c4] rfl rfl rfl rfl rfl rfl rfl ?_
  refine WO.cls (C' := St w0 m m [[⟨b1, 24, [.int .i64 0, .int .i64 0, .int .i64 0, .slice none 0 0]⟩], L5, [⟨b6, 24, [.int .i64 p0, .int .i64 p1, .int .i64 p2, .slice (some ⟨b3, 0, none⟩) (([] : List Int).length) c4]⟩]]) (fun _ h => h) ?_
  refine WO_end ?_
  refine WK_seq ?_
  refine WK_seq ?_
  refine WK_region ?_
  refine WO_pure tbok 2 [(0, .int .i64 p0), (3, p3v), (8, .pointer (some ⟨b1, 0, none⟩)), (9, .pointer (some ⟨b6, 0, none⟩)), (20, .int .i64 p1), (21, .int .i64 0)] rfl ⟨rfl, rfl, rfl, rfl, rfl, rfl, trivial⟩ ?_
  refine WO_end ?_
  obtain ⟨x15, hx16, hm⟩ := bind_some hm
  refine WK_join (β := (List Int) × (Option Addr × Nat × Nat × List Ent)) (fun p => p.1 = x15 ∧ OwnE 3 1 (I1 .i64) (.slice p.2.1 p.2.2.1 p.2.2.2.1) p.1 p.2.2.2.2) (fun p => [(8, .pointer (some ⟨b1, 0, none⟩)), (9, .pointer (some ⟨b6, 0, none⟩))]) (fun p => St w0 m m [[⟨b1, 24, [.int .i64 0, .int .i64 0, .int .i64 0, .slice none 0 0]⟩], p.2.2.2.2, [⟨b6, 24, [.int .i64 p0, .int .i64 p1, .int .i64 p2, .slice p.2.1 p.2.2.1 p.2.2.2.1]⟩]]) ?_ (fun hk17 => ?_)
  · rintro ⟨l_3, ⟨a12, q13, c14, L11⟩⟩ ⟨hq23, hL11⟩
    subst hq23
    have hqq : q13 = l_3.length := OwnE.qlen hL11
    subst hqq
    refine WK.sub (e' := [(8, .pointer (some ⟨b1, 0, none⟩)), (9, .pointer (some ⟨b6, 0, none⟩))]) ⟨rfl, rfl, trivial⟩ (WK.cls (C' := St w0 m m [[⟨b1, 24, [.int .i64 0, .int .i64 0, .int .i64 0, .slice none 0 0]⟩], L11, [⟨b6, 24, [.int .i64 p0, .int .i64 p1, .int .i64 p2, .slice a12 ((l_3).length) c14]⟩]]) (fun _ h => h) ?_)
    refine WK_seq ?_
    refine WK_region ?_
    refine WO_loadB tbok 2 rfl rfl rfl rfl (fun _ h => h) rfl rfl ?_
    refine WO_storeB tbok 0 [.int .i64 p0, .int .i64 p1, .int .i64 p2, .slice a12 ((l_3).length) c14] rfl rfl rfl rfl rfl rfl rfl ?_
    refine WO.cls (C' := St w0 m m [[⟨b1, 24, [.int .i64 p0, .int .i64 p1, .int .i64 p2, .slice a12 ((l_3).length) c14]⟩], L11, [⟨b6, 24, [.int .i64 p0, .int .i64 p1, .int .i64 p2, .slice a12 ((l_3).length) c14]⟩]]) (fun _ h => h) ?_
    refine WO_end ?_
    cases hm
    exact WK_ret (ret_out (L := L11) (RLc_cell tbok 0 rfl rfl rfl RLc_nil) (seg_sub 1 rfl) ⟨a12, _, c14, rfl, hL11⟩)
  · refine WK_block ?_
    refine WK_loop (S := List Int × Int) (G := Option Addr × Nat × Nat × List Ent) (fun s => raster_made_s1 p0 p1 p3 s.1 s.2) (fun s g => [(0, .int .i64 p0), (3, p3v), (8, .pointer (some ⟨b1, 0, none⟩)), (9, .pointer (some ⟨b6, 0, none⟩)), (20, .int .i64 p1), (21, .int .i64 s.2)]) (fun s g => St w0 m m [[⟨b1, 24, [.int .i64 0, .int .i64 0, .int .i64 0, .slice none 0 0]⟩], g.2.2.2, [⟨b6, 24, [.int .i64 p0, .int .i64 p1, .int .i64 p2, .slice g.1 g.2.1 g.2.2.1]⟩]]) (fun s g => OwnE 3 1 (I1 .i64) (.slice g.1 g.2.1 g.2.2.1) s.1 g.2.2.2) FUEL (([] : List Int), 0) (some ⟨b3, 0, none⟩, ([] : List Int).length, c4, L5) x15 hx16 hL5 ⟨rfl, rfl, rfl, rfl, rfl, rfl, trivial⟩ (fun _ h => h) ?_
    rintro ⟨l_1, s_2⟩ ⟨a8, q9, c10, L7⟩ o19 fl20 hm18 hL7 hn21 hd22
    have hm18 : raster_made_s1 p0 p1 p3 l_1 s_2 = some o19 := hm18
    unfold raster_made_s1 at hm18
    have hqq : q9 = l_1.length := OwnE.qlen hL7
    subst hqq
    refine WK.sub (e' := [(0, .int .i64 p0), (3, p3v), (8, .pointer (some ⟨b1, 0, none⟩)), (9, .pointer (some ⟨b6, 0, none⟩)), (20, .int .i64 p1), (21, .int .i64 s_2)]) ⟨rfl, rfl, rfl, rfl, rfl, rfl, trivial⟩ (WK.cls (C' := St w0 m m [[⟨b1, 24, [.int .i64 0, .int .i64 0, .int .i64 0, .slice none 0 0]⟩], L7, [⟨b6, 24, [.int .i64 p0, .int .i64 p1, .int .i64 p2, .slice a8 ((l_1).length) c10]⟩]]) (fun _ h => h) ?_)
    refine WK_seq ?_
    refine WK_region ?_
    refine WO_pure tbok 1 [(0, .int .i64 p0), (3, p3v), (8, .pointer (some ⟨b1, 0, none⟩)), (9, .pointer (some ⟨b6, 0, none⟩)), (20, .int .i64 p1), (21, .int .i64 s_2), (22, .bool (decide (s_2 < p1)))] rfl ⟨rfl, rfl, rfl, rfl, rfl, rfl, rfl, trivial⟩ ?_
    refine WO_end ?_
    refine WK_seq ?_
    refine WK_cond (b := decide (s_2 < p1)) rfl (fun hb24 => ?_) (fun hb24 => ?_)
    · have hm18 := ifT hb24 hm18
      refine WK_skip ?_
      refine WK_seq ?_
      refine WK_block ?_
      refine WK_seq ?_
      refine WK_region ?_
      refine WO_pure tbok 2 [(0, .int .i64 p0), (3, p3v), (8, .pointer (some ⟨b1, 0, none⟩)), (9, .pointer (some ⟨b6, 0, none⟩)), (10, .int .i64 s_2), (20, .int .i64 p1), (21, .int .i64 s_2)] rfl ⟨rfl, rfl, rfl, rfl, rfl, rfl, rfl, trivial⟩ ?_
      refine WO_end ?_
      refine WK_seq ?_
      refine WK_region ?_
      refine WO_pure tbok 2 [(0, .int .i64 p0), (3, p3v), (8, .pointer (some ⟨b1, 0, none⟩)), (9, .pointer (some ⟨b6, 0, none⟩)), (10, .int .i64 s_2), (20, .int .i64 p1), (21, .int .i64 s_2), (24, .int .i64 p0), (25, .int .i64 0)] rfl ⟨rfl, rfl, rfl, rfl, rfl, rfl, rfl, rfl, rfl, trivial⟩ ?_
      refine WO_end ?_
      obtain ⟨x33, hx34, hm18⟩ := bind_some hm18
      refine WK_join (β := (List Int) × (Option Addr × Nat × Nat × List Ent)) (fun p => p.1 = x33 ∧ OwnE 3 1 (I1 .i64) (.slice p.2.1 p.2.2.1 p.2.2.2.1) p.1 p.2.2.2.2) (fun p => [(0, .int .i64 p0), (3, p3v), (8, .pointer (some ⟨b1, 0, none⟩)), (9, .pointer (some ⟨b6, 0, none⟩)), (20, .int .i64 p1), (21, .int .i64 s_2)]) (fun p => St w0 m m [[⟨b1, 24, [.int .i64 0, .int .i64 0, .int .i64 0, .slice none 0 0]⟩], p.2.2.2.2, [⟨b6, 24, [.int .i64 p0, .int .i64 p1, .int .i64 p2, .slice p.2.1 p.2.2.1 p.2.2.2.1]⟩]]) ?_ (fun hk35 => ?_)
      · rintro ⟨l_6, ⟨a30, q31, c32, L29⟩⟩ ⟨hq41, hL29⟩
        subst hq41
        have hqq : q31 = l_6.length := OwnE.qlen hL29
        subst hqq
        refine WK.sub (e' := [(0, .int .i64 p0), (3, p3v), (8, .pointer (some ⟨b1, 0, none⟩)), (9, .pointer (some ⟨b6, 0, none⟩)), (20, .int .i64 p1), (21, .int .i64 s_2)]) ⟨rfl, rfl, rfl, rfl, rfl, rfl, trivial⟩ (WK.cls (C' := St w0 m m [[⟨b1, 24, [.int .i64 0, .int .i64 0, .int .i64 0, .slice none 0 0]⟩], L29, [⟨b6, 24, [.int .i64 p0, .int .i64 p1, .int .i64 p2, .slice a30 ((l_6).length) c32]⟩]]) (fun _ h => h) ?_)
        refine WK_blk ?_
        refine WK_region ?_
        refine WO_pure tbok 2 [(0, .int .i64 p0), (3, p3v), (8, .pointer (some ⟨b1, 0, none⟩)), (9, .pointer (some ⟨b6, 0, none⟩)), (20, .int .i64 p1), (21, .int .i64 (w64 (s_2 + 1)))] rfl ⟨rfl, rfl, rfl, rfl, rfl, rfl, trivial⟩ ?_
        refine WO_end ?_
        cases hm18
        refine WK.sub ?_ (WK.cls (fun _ h => h) (hn21 _ (a30, _, c32, L29) rfl hL29))
        exact ⟨rfl, rfl, rfl, rfl, rfl, rfl, trivial⟩
      · refine WK_block ?_
        refine WK_loop (S := List Int × Int) (G := Option Addr × Nat × Nat × List Ent) (fun s => raster_made_s2 p0 p3 s_2 s.1 s.2) (fun s g => [(0, .int .i64 p0), (3, p3v), (8, .pointer (some ⟨b1, 0, none⟩)), (9, .pointer (some ⟨b6, 0, none⟩)), (10, .int .i64 s_2), (20, .int .i64 p1), (21, .int .i64 s_2), (24, .int .i64 p0), (25, .int .i64 s.2)]) (fun s g => St w0 m m [[⟨b1, 24, [.int .i64 0, .int .i64 0, .int .i64 0, .slice none 0 0]⟩], g.2.2.2, [⟨b6, 24, [.int .i64 p0, .int .i64 p1, .int .i64 p2, .slice g.1 g.2.1 g.2.2.1]⟩]]) (fun s g => OwnE 3 1 (I1 .i64) (.slice g.1 g.2.1 g.2.2.1) s.1 g.2.2.2) FUEL (l_1, 0) (a8, _, c10, L7) x33 hx34 hL7 ⟨rfl, rfl, rfl, rfl, rfl, rfl, rfl, rfl, rfl, trivial⟩ (fun _ h => h) ?_
        rintro ⟨l_4, s_5⟩ ⟨a26, q27, c28, L25⟩ o37 fl38 hm36 hL25 hn39 hd40
        have hm36 : raster_made_s2 p0 p3 s_2 l_4 s_5 = some o37 := hm36
        unfold raster_made_s2 at hm36
        have hqq : q27 = l_4.length := OwnE.qlen hL25
        subst hqq
        refine WK.sub (e' := [(0, .int .i64 p0), (3, p3v), (8, .pointer (some ⟨b1, 0, none⟩)), (9, .pointer (some ⟨b6, 0, none⟩)), (10, .int .i64 s_2), (20, .int .i64 p1), (21, .int .i64 s_2), (24, .int .i64 p0), (25, .int .i64 s_5)]) ⟨rfl, rfl, rfl, rfl, rfl, rfl, rfl, rfl, rfl, trivial⟩ (WK.cls (C' := St w0 m m [[⟨b1, 24, [.int .i64 0, .int .i64 0, .int .i64 0, .slice none 0 0]⟩], L25, [⟨b6, 24, [.int .i64 p0, .int .i64 p1, .int .i64 p2, .slice a26 ((l_4).length) c28]⟩]]) (fun _ h => h) ?_)
        refine WK_seq ?_
        refine WK_region ?_
        refine WO_pure tbok 1 [(0, .int .i64 p0), (3, p3v), (8, .pointer (some ⟨b1, 0, none⟩)), (9, .pointer (some ⟨b6, 0, none⟩)), (10, .int .i64 s_2), (20, .int .i64 p1), (21, .int .i64 s_2), (24, .int .i64 p0), (25, .int .i64 s_5), (26, .bool (decide (s_5 < p0)))] rfl ⟨rfl, rfl, rfl, rfl, rfl, rfl, rfl, rfl, rfl, rfl, trivial⟩ ?_
        refine WO_end ?_
        refine WK_seq ?_
        refine WK_cond (b := decide (s_5 < p0)) rfl (fun hb42 => ?_) (fun hb42 => ?_)
        · have hm36 := ifT hb42 hm36
          refine WK_skip ?_
          refine WK_seq ?_
          refine WK_block ?_
          refine WK_seq ?_
          refine WK_region ?_
          refine WO_pure tbok 2 [(0, .int .i64 p0), (3, p3v), (8, .pointer (some ⟨b1, 0, none⟩)), (9, .pointer (some ⟨b6, 0, none⟩)), (10, .int .i64 s_2), (11, .int .i64 s_5), (20, .int .i64 p1), (21, .int .i64 s_2), (24, .int .i64 p0), (25, .int .i64 s_5)] rfl ⟨rfl, rfl, rfl, rfl, rfl, rfl, rfl, rfl, rfl, rfl, trivial⟩ ?_
          refine WO_end ?_
          refine WK_draw 7 [0, 1, 2, 3, 4, 5, 6] follows_ok (by kernel_rfl) St_closed ?_
          refine WO_pure tbok 1 [(0, .int .i64 p0), (3, p3v), (8, .pointer (some ⟨b1, 0, none⟩)), (9, .pointer (some ⟨b6, 0, none⟩)), (10, .int .i64 s_2), (11, .int .i64 s_5), (20, .int .i64 p1), (21, .int .i64 s_2), (24, .int .i64 p0), (25, .int .i64 s_5), (28, .pointer (some ⟨b6, 3, none⟩))] rfl ⟨rfl, rfl, rfl, rfl, rfl, rfl, rfl, rfl, rfl, rfl, rfl, trivial⟩ ?_
          refine WO_loadB tbok 2 rfl rfl rfl rfl (fun _ h => h) rfl rfl ?_
          refine WO_pure tbok 3 [(0, .int .i64 p0), (3, p3v), (8, .pointer (some ⟨b1, 0, none⟩)), (9, .pointer (some ⟨b6, 0, none⟩)), (10, .int .i64 s_2), (20, .int .i64 p1), (21, .int .i64 s_2), (24, .int .i64 p0), (25, .int .i64 s_5), (29, .slice a26 ((l_4).length) c28), (30, p3v), (31, .int .i64 s_5), (32, .int .i64 s_2)] rfl ⟨rfl, rfl, rfl, rfl, rfl, rfl, rfl, rfl, rfl, rfl, rfl, rfl, rfl, trivial⟩ ?_
          obtain ⟨y_7, hc43, hm36⟩ := bind_some hm36
          obtain ⟨f0, first0, cap0, hf0, hcal0, hsp0⟩ := hp3 _ (Le.refl _) s_5 s_2 _ hc43
          refine WO_call0 (.int .i64 y_7) rfl rfl St_closed rfl rfl rfl rfl St_closed ⟨f0, first0, cap0, hf0, hcal0, fun w hw => ⟨m, hw.sat, hsp0⟩⟩ ?_
          refine WO_bslice (E := (I1 .i64)) tbok (fun _ => rfl) (by decide) [.int .i64 y_7] ([y_7] : List Int) rfl rfl St_closed rfl rfl rfl rfl rfl rfl rfl rfl rfl rfl rfl rfl (fun b44 hb44 => ?_)
          refine WO.cls (C' := St w0 m m [[⟨b1, 24, [.int .i64 0, .int .i64 0, .int .i64 0, .slice none 0 0]⟩], L25, [⟨b6, 24, [.int .i64 p0, .int .i64 p1, .int .i64 p2, .slice a26 ((l_4).length) c28]⟩], [⟨b44, 3, ([y_7] : List Int).flatMap (I1 .i64)⟩]]) (fun _ h => h) ?_
          refine WO_tail ?_
          obtain ⟨hc45, hm36⟩ := chk_some hm36
          refine WO_append (E := (I1 .i64)) tbok (fun _ => rfl) 1 ([y_7] : List Int) (fun _ _ => rfl) rfl rfl rfl rfl rfl rfl rfl rfl rfl rfl rfl rfl hL25 rfl (src_seg (j := 3) rfl) (ap_ok (by decide) hc45) (ap_max hc45) (fun a46 c47 L48 hL48 => ?_)
          refine WO.cls (C' := St w0 m m [[⟨b1, 24, [.int .i64 0, .int .i64 0, .int .i64 0, .slice none 0 0]⟩], L48, [⟨b6, 24, [.int .i64 p0, .int .i64 p1, .int .i64 p2, .slice a26 ((l_4).length) c28]⟩], [⟨b44, 3, ([y_7] : List Int).flatMap (I1 .i64)⟩]]) (fun _ h => h) ?_
          refine WO_pure tbok 1 [(0, .int .i64 p0), (3, p3v), (8, .pointer (some ⟨b1, 0, none⟩)), (9, .pointer (some ⟨b6, 0, none⟩)), (10, .int .i64 s_2), (20, .int .i64 p1), (21, .int .i64 s_2), (24, .int .i64 p0), (25, .int .i64 s_5), (35, .slice a46 ((l_4 ++ ([y_7] : List Int)).length) c47), (36, .pointer (some ⟨b6, 3, none⟩))] rfl ⟨rfl, rfl, rfl, rfl, rfl, rfl, rfl, rfl, rfl, rfl, rfl, trivial⟩ ?_
          refine WO_storeB tbok 2 [.int .i64 p0, .int .i64 p1, .int .i64 p2, .slice a46 ((l_4 ++ ([y_7] : List Int)).length) c47] rfl rfl rfl rfl rfl rfl rfl ?_
          refine WO.cls (C' := St w0 m m [[⟨b1, 24, [.int .i64 0, .int .i64 0, .int .i64 0, .slice none 0 0]⟩], L48, [⟨b6, 24, [.int .i64 p0, .int .i64 p1, .int .i64 p2, .slice a46 ((l_4 ++ ([y_7] : List Int)).length) c47]⟩], [⟨b44, 3, ([y_7] : List Int).flatMap (I1 .i64)⟩]]) (fun _ h => h) ?_
          refine WO_end ?_
          refine WK_blk ?_
          refine WK_region ?_
          refine WO_pure tbok 2 [(0, .int .i64 p0), (3, p3v), (8, .pointer (some ⟨b1, 0, none⟩)), (9, .pointer (some ⟨b6, 0, none⟩)), (10, .int .i64 s_2), (20, .int .i64 p1), (21, .int .i64 s_2), (24, .int .i64 p0), (25, .int .i64 (w64 (s_5 + 1)))] rfl ⟨rfl, rfl, rfl, rfl, rfl, rfl, rfl, rfl, rfl, trivial⟩ ?_
          refine WO_end ?_
          cases hm36
          refine WK.sub ?_ (WK.cls (fun _ h => St.take 3 h) (hn39 _ (a46, (l_4 ++ ([y_7] : List Int)).length, c47, L48) rfl hL48))
          exact ⟨rfl, rfl, rfl, rfl, rfl, rfl, rfl, rfl, rfl, trivial⟩
        · have hm36 := ifF hb42 hm36
          refine WK_exit rfl ?_
          cases hm36
          refine WK.sub ?_ (WK.cls (fun _ h => h) (hk35 (l_4, (a26, _, c28, L25)) ⟨(hd40 _ rfl), hL25⟩))
          exact ⟨rfl, rfl, rfl, rfl, rfl, rfl, trivial⟩
    · have hm18 := ifF hb24 hm18
      refine WK_exit rfl ?_
      cases hm18
      refine WK.sub ?_ (WK.cls (fun _ h => h) (hk17 (l_1, (a8, _, c10, L7)) ⟨(hd22 _ rfl), hL7⟩))
      exact ⟨rfl, rfl, trivial⟩
theorem raster_Turn_c1_walk {m : Mu} {p0 : Int} {p1 : Int} {q0_0 : Int} {q0_1 : Int} {q0_2 : Int} {q0_3 : List Int} {a_q0_3 : Option Addr} {q_q0_3 c_q0_3 : Nat} {b_q0 : Nat} (hb_q0 : m b_q0 = some (Ent.obj ⟨b_q0, 24, [.int .i64 q0_0, .int .i64 q0_1, .int .i64 q0_2, .slice a_q0_3 q_q0_3 c_q0_3]⟩)) (h_q0_3 : SlR (FE (I1 .i64)) 1 m (.slice a_q0_3 q_q0_3 c_q0_3) q0_3) {r : Int} (hm : raster_Turn_c1 p0 p1 q0_0 q0_1 q0_2 q0_3 = some r) :
    Go.E.Spec Try.prog 56 [.int .i64 p0, .int .i64 p1, .pointer (some ⟨b_q0, 0, none⟩)] m (fun v _ _ => v = .int .i64 r) := by
  refine Spec_enter Try.func56 rfl rfl rfl (fun w0 => ?_)
  refine WK.sub (e' := [(0, .int .i64 p0), (1, .int .i64 p1), (2, .pointer (some ⟨b_q0, 0, none⟩))]) ⟨rfl, rfl, rfl, trivial⟩ ?_
  obtain rfl := SlR.qlen h_q0_3
  refine WK.sub (e' := [(0, .int .i64 p0), (1, .int .i64 p1), (2, .pointer (some ⟨b_q0, 0, none⟩))]) ⟨rfl, rfl, rfl, trivial⟩ ?_
  unfold raster_Turn_c1 at hm
  refine WK_seq ?_
  refine WK_region ?_
  refine WO_pure tbok 1 [(0, .int .i64 p0), (1, .int .i64 p1), (2, .pointer (some ⟨b_q0, 0, none⟩)), (5, .int .i64 0)] rfl ⟨rfl, rfl, rfl, rfl, trivial⟩ ?_
  refine WO_end ?_
  refine WK_seq ?_
  refine WK_region ?_
  refine WO_loadM tbok rfl rfl rfl rfl (fun _ h => St.sat h) hb_q0 rfl ?_
  refine WO_pure tbok 1 [(0, .int .i64 p0), (1, .int .i64 p1), (5, .int .i64 0), (6, .agg #[.int .i64 q0_0, .int .i64 q0_1, .int .i64 q0_2, .slice a_q0_3 q0_3.length c_q0_3]), (7, .pointer (some ⟨b_q0, 0, none⟩))] rfl ⟨rfl, rfl, rfl, rfl, rfl, trivial⟩ ?_
  refine WO_loadM tbok rfl rfl rfl rfl (fun _ h => St.sat h) hb_q0 rfl ?_
  refine WO_pure tbok 4 [(5, .int .i64 0), (6, .agg #[.int .i64 q0_0, .int .i64 q0_1, .int .i64 q0_2, .slice a_q0_3 q0_3.length c_q0_3]), (11, .int .i64 (w64 ((w64 (q0_0 - 1)) - p1))), (12, .int .i64 p0)] rfl ⟨rfl, rfl, rfl, rfl, trivial⟩ ?_
  obtain ⟨y_1, hc1, hm⟩ := bind_some hm
  refine WO_call0 (.int .i64 y_1) rfl rfl trivial rfl rfl rfl rfl St_closed ⟨46, #[], #[], rfl, callable_46, fun w hw => ⟨_, hw.sat, raster_at_walk h_q0_3 hc1⟩⟩ ?_
  refine WO_pure tbok 1 [(5, .int .i64 y_1)] rfl ⟨rfl, trivial⟩ ?_
  refine WO_end ?_
  cases hm
  exact WK_ret (ret_out (L := []) (RLc_tmp rfl RLc_nil) (List.nil_sublist _) rfl)
def raster_Turn_Q (r : Int × Int × Int × List Int × Int) : Value → List Ent → Prop := fun v L => ∃ (a0 : Option Addr) (q0 c0 : Nat), v = .tuple #[.agg #[.int .i64 r.1, .int .i64 r.2.1, .int .i64 r.2.2.1, .slice a0 q0 c0], .int .i64 r.2.2.2.2] ∧ OwnE 3 1 (I1 .i64) (.slice a0 q0 c0) r.2.2.2.1 L
theorem raster_Turn_walk {m : Mu} {p0_0 : Int} {p0_1 : Int} {p0_2 : Int} {p0_3 : List Int} {a_p0_3 : Option Addr} {q_p0_3 c_p0_3 : Nat} (h_p0_3 : SlR (FE (I1 .i64)) 1 m (.slice a_p0_3 q_p0_3 c_p0_3) p0_3) {r : Int × Int × Int × List Int × Int} (hm : raster_Turn p0_0 p0_1 p0_2 p0_3 = some r) :
    Go.E.Spec Try.prog 22 [.agg #[.int .i64 p0_0, .int .i64 p0_1, .int .i64 p0_2, .slice a_p0_3 q_p0_3 c_p0_3]] m (fun v _ L => raster_Turn_Q r v L) := by
  refine Spec_enter Try.func22 rfl rfl rfl (fun w0 => ?_)
  refine WK.sub (e' := [(0, .agg #[.int .i64 p0_0, .int .i64 p0_1, .int .i64 p0_2, .slice a_p0_3 q_p0_3 c_p0_3])]) ⟨rfl, trivial⟩ ?_
  obtain rfl := SlR.qlen h_p0_3
  refine WK.sub (e' := [(0, .agg #[.int .i64 p0_0, .int .i64 p0_1, .int .i64 p0_2, .slice a_p0_3 p0_3.length c_p0_3])]) ⟨rfl, trivial⟩ ?_
  unfold raster_Turn at hm
  refine WK_seq ?_
  refine WK_region ?_
  refine WO_box [.int .i64 p0_0, .int .i64 p0_1, .int .i64 p0_2, .slice a_p0_3 p0_3.length c_p0_3] rfl rfl trivial rfl rfl rfl (fun b1 => ?_)
  refine WO.cls (C' := St w0 m m [[⟨b1, 24, [.int .i64 p0_0, .int .i64 p0_1, .int .i64 p0_2, .slice a_p0_3 p0_3.length c_p0_3]⟩]]) (fun _ h => h) ?_
  refine WO_alloc tbok [.int .i64 0, .int .i64 0, .int .i64 0, .slice none 0 0] rfl rfl trivial rfl rfl rfl rfl (fun b2 => ?_)
  refine WO.cls (C' := St w0 m m [[⟨b1, 24, [.int .i64 p0_0, .int .i64 p0_1, .int .i64 p0_2, .slice a_p0_3 p0_3.length c_p0_3]⟩], [⟨b2, 24, [.int .i64 0, .int .i64 0, .int .i64 0, .slice none 0 0]⟩]]) (fun _ h => h) ?_
  refine WO_pure tbok 1 [(1, .pointer (some ⟨b1, 0, none⟩)), (2, .pointer (some ⟨b2, 0, none⟩)), (3, .int .i64 0)] rfl ⟨rfl, rfl, rfl, trivial⟩ ?_
  refine WO_end ?_
  refine WK_seq ?_
  refine WK_seq ?_
  refine WK_region ?_
  refine WO_loadB tbok 0 rfl rfl rfl rfl (fun _ h => h) rfl rfl ?_
  obtain ⟨y_1, hc3, hm⟩ := bind_some hm
  refine WO_call0 (.int .i64 y_1) rfl rfl trivial rfl rfl rfl rfl St_closed ⟨43, #[], #[], rfl, callable_43, fun w hw => ⟨_, hw.sat, raster_Check_walk h_p0_3 hc3⟩⟩ ?_
  refine WO_pure tbok 1 [(1, .pointer (some ⟨b1, 0, none⟩)), (2, .pointer (some ⟨b2, 0, none⟩)), (3, .int .i64 0), (4, .int .i64 y_1)] rfl ⟨rfl, rfl, rfl, rfl, trivial⟩ ?_
  refine WO_end ?_
  refine WK_seq ?_
  refine WK_region ?_
  refine WO_pure tbok 2 [(1, .pointer (some ⟨b1, 0, none⟩)), (2, .pointer (some ⟨b2, 0, none⟩)), (3, .int .i64 0), (4, .int .i64 y_1), (8, .bool (y_1 != 0))] rfl ⟨rfl, rfl, rfl, rfl, rfl, trivial⟩ ?_
  refine WO_end ?_
  refine WK_cond (b := y_1 != 0) rfl (fun hb4 => ?_) (fun hb4 => ?_)
  · have hm := ifT hb4 hm
    refine WK_seq ?_
    refine WK_region ?_
    refine WO_pure tbok 2 [(1, .pointer (some ⟨b1, 0, none⟩)), (2, .pointer (some ⟨b2, 0, none⟩)), (3, .int .i64 0), (9, .agg #[.int .i64 0, .int .i64 0, .int .i64 0, .slice none 0 0]), (10, .int .i64 y_1)] rfl ⟨rfl, rfl, rfl, rfl, rfl, trivial⟩ ?_
    refine WO_storeB tbok 1 [.int .i64 0, .int .i64 0, .int .i64 0, .slice none 0 0] rfl rfl rfl rfl rfl rfl rfl ?_
    refine WO.cls (C' := St w0 m m [[⟨b1, 24, [.int .i64 p0_0, .int .i64 p0_1, .int .i64 p0_2, .slice a_p0_3 p0_3.length c_p0_3]⟩], [⟨b2, 24, [.int .i64 0, .int .i64 0, .int .i64 0, .slice none 0 0]⟩]]) (fun _ h => h) ?_
    refine WO_pure tbok 1 [(1, .pointer (some ⟨b1, 0, none⟩)), (2, .pointer (some ⟨b2, 0, none⟩)), (3, .int .i64 y_1)] rfl ⟨rfl, rfl, rfl, trivial⟩ ?_
    refine WO_end ?_
    cases hm
    exact WK_ret (ret_out (L := []) (RLc_cell tbok 1 rfl rfl rfl (RLc_tmp rfl RLc_nil)) (List.nil_sublist _) ⟨none, 0, 0, rfl, (OwnE.nil none)⟩)
  · have hm := ifF hb4 hm
    refine WK_skip ?_
    refine WK_seq ?_
    refine WK_region ?_
    refine WO_pure tbok 1 [(1, .pointer (some ⟨b1, 0, none⟩)), (2, .pointer (some ⟨b2, 0, none⟩)), (3, .int .i64 0), (11, .pointer (some ⟨b1, 1, none⟩))] rfl ⟨rfl, rfl, rfl, rfl, trivial⟩ ?_
    refine WO_loadB tbok 0 rfl rfl rfl rfl (fun _ h => h) rfl rfl ?_
    refine WO_pure tbok 1 [(1, .pointer (some ⟨b1, 0, none⟩)), (2, .pointer (some ⟨b2, 0, none⟩)), (3, .int .i64 0), (12, .int .i64 p0_1), (13, .pointer (some ⟨b1, 0, none⟩))] rfl ⟨rfl, rfl, rfl, rfl, rfl, trivial⟩ ?_
    refine WO_loadB tbok 0 rfl rfl rfl rfl (fun _ h => h) rfl rfl ?_
    refine WO_pure tbok 1 [(1, .pointer (some ⟨b1, 0, none⟩)), (2, .pointer (some ⟨b2, 0, none⟩)), (3, .int .i64 0), (12, .int .i64 p0_1), (14, .int .i64 p0_0), (15, .pointer (some ⟨b1, 2, none⟩))] rfl ⟨rfl, rfl, rfl, rfl, rfl, rfl, trivial⟩ ?_
    refine WO_loadB tbok 0 rfl rfl rfl rfl (fun _ h => h) rfl rfl ?_
    refine WO_pure tbok 1 [(2, .pointer (some ⟨b2, 0, none⟩)), (3, .int .i64 0), (12, .int .i64 p0_1), (14, .int .i64 p0_0), (16, .int .i64 p0_2), (17, .func (.func 56) #[] #[.pointer (some ⟨b1, 0, none⟩)])] rfl ⟨rfl, rfl, rfl, rfl, rfl, rfl, trivial⟩ ?_
    obtain ⟨⟨y_4, y_5, y_6, y_7⟩, hc5, hm⟩ := bind_some hm
    refine WO_call1 (raster_made_Q (y_4, y_5, y_6, y_7)) rfl rfl trivial rfl rfl rfl rfl ⟨44, #[], #[], rfl, callable_44, fun w hw => ⟨_, hw.satV, raster_made_walk (fun m1 hm1 z_2 z_3 _ h => specV_cap callable_56 (raster_Turn_c1_walk (hm1 _ _ (hw.memV (i := 0) rfl (List.mem_singleton.2 rfl))) ((h_p0_3.mono (mono_FE _) hw.leV).mono (mono_FE _) hm1) h)) hc5⟩⟩ (fun v9 L8 hq => ?_)
    obtain ⟨a6, qa6, c7, rfl, hL8⟩ := hq
    obtain rfl := OwnE.qlen hL8
    refine WO.cls (C' := St w0 m m [[⟨b1, 24, [.int .i64 p0_0, .int .i64 p0_1, .int .i64 p0_2, .slice a_p0_3 p0_3.length c_p0_3]⟩], [⟨b2, 24, [.int .i64 0, .int .i64 0, .int .i64 0, .slice none 0 0]⟩], L8]) (fun _ h => h) ?_
    refine WO_storeB tbok 1 [.int .i64 y_4, .int .i64 y_5, .int .i64 y_6, .slice a6 ((y_7).length) c7] rfl rfl rfl rfl rfl rfl rfl ?_
    refine WO.cls (C' := St w0 m m [[⟨b1, 24, [.int .i64 p0_0, .int .i64 p0_1, .int .i64 p0_2, .slice a_p0_3 p0_3.length c_p0_3]⟩], [⟨b2, 24, [.int .i64 y_4, .int .i64 y_5, .int .i64 y_6, .slice a6 ((y_7).length) c7]⟩], L8]) (fun _ h => h) ?_
    refine WO_pure tbok 1 [(2, .pointer (some ⟨b2, 0, none⟩)), (3, .int .i64 0)] rfl ⟨rfl, rfl, trivial⟩ ?_
    refine WO_end ?_
    cases hm
    exact WK_ret (ret_out (L := L8) (RLc_cell tbok 1 rfl rfl rfl (RLc_tmp rfl RLc_nil)) (seg_sub 2 rfl) ⟨a6, _, c7, rfl, hL8⟩)
end Go.Proofs.Ytbolefkhmfbnlaa
