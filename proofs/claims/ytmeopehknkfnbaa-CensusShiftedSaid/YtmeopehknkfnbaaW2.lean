import Derived.Test.YtmeopehknkfnbaaTab
import Derived.Test.YtmeopehknkfnbaaM
import Derived.Test.YtmeopehknkfnbaaIt
import Derived.Test.YtmeopehknkfnbaaW1
set_option linter.unusedVariables false
set_option maxRecDepth 100000
set_option maxHeartbeats 4000000
namespace Go.Proofs.Ytmeopehknkfnbaa
open Go.E Go.RowKit
attribute [local irreducible] Go.E.WO Go.E.WK
theorem bits_OnesCount64_walk {m : Mu} {p0 : Int}   {r : Int} (hm : bits_OnesCount64 p0 = some r) :
    Go.E.Spec Try.prog 17 [.int .u64 p0] m (fun v _ _ => v = .int .i64 r) := by
  refine Spec_enter Try.func17 rfl rfl rfl (fun w0 => ?_)
  refine WK.sub (e' := [(0, .int .u64 p0)]) ⟨rfl, trivial⟩ ?_
  refine WK.sub (e' := [(0, .int .u64 p0)]) ⟨rfl, trivial⟩ ?_
  unfold bits_OnesCount64 at hm
  refine WK_seq ?_
  refine WK_region ?_
  refine WO_pure tbok 1 [(0, .int .u64 p0), (2, .int .i64 0)] rfl ⟨rfl, rfl, trivial⟩ ?_
  refine WO_end ?_
  refine WK_seq ?_
  refine WK_region ?_
  refine WO_pure tbok 1 [(0, .int .u64 p0), (2, .int .i64 0), (3, .int .u64 p0)] rfl ⟨rfl, rfl, rfl, trivial⟩ ?_
  refine WO_shr rfl rfl rfl rfl rfl (by decide) ?_
  refine WO_pure tbok 5 [(0, .int .u64 (wu64 ((wu64 (((BitVec.ofInt 64 (Int.fdiv p0 (2 ^ (min (1 : Int).toNat 64))) &&& BitVec.ofInt 64 6148914691236517205).toNat : Int))) + (wu64 (((BitVec.ofInt 64 p0 &&& BitVec.ofInt 64 6148914691236517205).toNat : Int)))))), (2, .int .i64 0)] rfl ⟨rfl, rfl, trivial⟩ ?_
  refine WO_end ?_
  refine WK_seq ?_
  refine WK_region ?_
  refine WO_pure tbok 1 [(0, .int .u64 (wu64 ((wu64 (((BitVec.ofInt 64 (Int.fdiv p0 (2 ^ (min (1 : Int).toNat 64))) &&& BitVec.ofInt 64 6148914691236517205).toNat : Int))) + (wu64 (((BitVec.ofInt 64 p0 &&& BitVec.ofInt 64 6148914691236517205).toNat : Int)))))), (2, .int .i64 0), (9, .int .u64 (wu64 ((wu64 (((BitVec.ofInt 64 (Int.fdiv p0 (2 ^ (min (1 : Int).toNat 64))) &&& BitVec.ofInt 64 6148914691236517205).toNat : Int))) + (wu64 (((BitVec.ofInt 64 p0 &&& BitVec.ofInt 64 6148914691236517205).toNat : Int))))))] rfl ⟨rfl, rfl, rfl, trivial⟩ ?_
  refine WO_shr rfl rfl rfl rfl rfl (by decide) ?_
  refine WO_pure tbok 5 [(0, .int .u64 (wu64 ((wu64 (((BitVec.ofInt 64 (Int.fdiv (wu64 ((wu64 (((BitVec.ofInt 64 (Int.fdiv p0 (2 ^ (min (1 : Int).toNat 64))) &&& BitVec.ofInt 64 6148914691236517205).toNat : Int))) + (wu64 (((BitVec.ofInt 64 p0 &&& BitVec.ofInt 64 6148914691236517205).toNat : Int))))) (2 ^ (min (2 : Int).toNat 64))) &&& BitVec.ofInt 64 3689348814741910323).toNat : Int))) + (wu64 (((BitVec.ofInt 64 (wu64 ((wu64 (((BitVec.ofInt 64 (Int.fdiv p0 (2 ^ (min (1 : Int).toNat 64))) &&& BitVec.ofInt 64 6148914691236517205).toNat : Int))) + (wu64 (((BitVec.ofInt 64 p0 &&& BitVec.ofInt 64 6148914691236517205).toNat : Int))))) &&& BitVec.ofInt 64 3689348814741910323).toNat : Int)))))), (2, .int .i64 0)] rfl ⟨rfl, rfl, trivial⟩ ?_
  refine WO_end ?_
  refine WK_seq ?_
  refine WK_region ?_
  refine WO_pure tbok 1 [(0, .int .u64 (wu64 ((wu64 (((BitVec.ofInt 64 (Int.fdiv (wu64 ((wu64 (((BitVec.ofInt 64 (Int.fdiv p0 (2 ^ (min (1 : Int).toNat 64))) &&& BitVec.ofInt 64 6148914691236517205).toNat : Int))) + (wu64 (((BitVec.ofInt 64 p0 &&& BitVec.ofInt 64 6148914691236517205).toNat : Int))))) (2 ^ (min (2 : Int).toNat 64))) &&& BitVec.ofInt 64 3689348814741910323).toNat : Int))) + (wu64 (((BitVec.ofInt 64 (wu64 ((wu64 (((BitVec.ofInt 64 (Int.fdiv p0 (2 ^ (min (1 : Int).toNat 64))) &&& BitVec.ofInt 64 6148914691236517205).toNat : Int))) + (wu64 (((BitVec.ofInt 64 p0 &&& BitVec.ofInt 64 6148914691236517205).toNat : Int))))) &&& BitVec.ofInt 64 3689348814741910323).toNat : Int)))))), (2, .int .i64 0), (15, .int .u64 (wu64 ((wu64 (((BitVec.ofInt 64 (Int.fdiv (wu64 ((wu64 (((BitVec.ofInt 64 (Int.fdiv p0 (2 ^ (min (1 : Int).toNat 64))) &&& BitVec.ofInt 64 6148914691236517205).toNat : Int))) + (wu64 (((BitVec.ofInt 64 p0 &&& BitVec.ofInt 64 6148914691236517205).toNat : Int))))) (2 ^ (min (2 : Int).toNat 64))) &&& BitVec.ofInt 64 3689348814741910323).toNat : Int))) + (wu64 (((BitVec.ofInt 64 (wu64 ((wu64 (((BitVec.ofInt 64 (Int.fdiv p0 (2 ^ (min (1 : Int).toNat 64))) &&& BitVec.ofInt 64 6148914691236517205).toNat : Int))) + (wu64 (((BitVec.ofInt 64 p0 &&& BitVec.ofInt 64 6148914691236517205).toNat : Int))))) &&& BitVec.ofInt 64 3689348814741910323).toNat : Int))))))] rfl ⟨rfl, rfl, rfl, trivial⟩ ?_
  refine WO_shr rfl rfl rfl rfl rfl (by decide) ?_
  refine WO_pure tbok 4 [(0, .int .u64 (wu64 (((BitVec.ofInt 64 (wu64 ((Int.fdiv (wu64 ((wu64 (((BitVec.ofInt 64 (Int.fdiv (wu64 ((wu64 (((BitVec.ofInt 64 (Int.fdiv p0 (2 ^ (min (1 : Int).toNat 64))) &&& BitVec.ofInt 64 6148914691236517205).toNat : Int))) + (wu64 (((BitVec.ofInt 64 p0 &&& BitVec.ofInt 64 6148914691236517205).toNat : Int))))) (2 ^ (min (2 : Int).toNat 64))) &&& BitVec.ofInt 64 3689348814741910323).toNat : Int))) + (wu64 (((BitVec.ofInt 64 (wu64 ((wu64 (((BitVec.ofInt 64 (Int.fdiv p0 (2 ^ (min (1 : Int).toNat 64))) &&& BitVec.ofInt 64 6148914691236517205).toNat : Int))) + (wu64 (((BitVec.ofInt 64 p0 &&& BitVec.ofInt 64 6148914691236517205).toNat : Int))))) &&& BitVec.ofInt 64 3689348814741910323).toNat : Int))))) (2 ^ (min (4 : Int).toNat 64))) + (wu64 ((wu64 (((BitVec.ofInt 64 (Int.fdiv (wu64 ((wu64 (((BitVec.ofInt 64 (Int.fdiv p0 (2 ^ (min (1 : Int).toNat 64))) &&& BitVec.ofInt 64 6148914691236517205).toNat : Int))) + (wu64 (((BitVec.ofInt 64 p0 &&& BitVec.ofInt 64 6148914691236517205).toNat : Int))))) (2 ^ (min (2 : Int).toNat 64))) &&& BitVec.ofInt 64 3689348814741910323).toNat : Int))) + (wu64 (((BitVec.ofInt 64 (wu64 ((wu64 (((BitVec.ofInt 64 (Int.fdiv p0 (2 ^ (min (1 : Int).toNat 64))) &&& BitVec.ofInt 64 6148914691236517205).toNat : Int))) + (wu64 (((BitVec.ofInt 64 p0 &&& BitVec.ofInt 64 6148914691236517205).toNat : Int))))) &&& BitVec.ofInt 64 3689348814741910323).toNat : Int))))))) &&& BitVec.ofInt 64 1085102592571150095).toNat : Int)))), (2, .int .i64 0)] rfl ⟨rfl, rfl, trivial⟩ ?_
  refine WO_end ?_
  refine WK_seq ?_
  refine WK_region ?_
  refine WO_pure tbok 2 [(0, .int .u64 (wu64 (((BitVec.ofInt 64 (wu64 ((Int.fdiv (wu64 ((wu64 (((BitVec.ofInt 64 (Int.fdiv (wu64 ((wu64 (((BitVec.ofInt 64 (Int.fdiv p0 (2 ^ (min (1 : Int).toNat 64))) &&& BitVec.ofInt 64 6148914691236517205).toNat : Int))) + (wu64 (((BitVec.ofInt 64 p0 &&& BitVec.ofInt 64 6148914691236517205).toNat : Int))))) (2 ^ (min (2 : Int).toNat 64))) &&& BitVec.ofInt 64 3689348814741910323).toNat : Int))) + (wu64 (((BitVec.ofInt 64 (wu64 ((wu64 (((BitVec.ofInt 64 (Int.fdiv p0 (2 ^ (min (1 : Int).toNat 64))) &&& BitVec.ofInt 64 6148914691236517205).toNat : Int))) + (wu64 (((BitVec.ofInt 64 p0 &&& BitVec.ofInt 64 6148914691236517205).toNat : Int))))) &&& BitVec.ofInt 64 3689348814741910323).toNat : Int))))) (2 ^ (min (4 : Int).toNat 64))) + (wu64 ((wu64 (((BitVec.ofInt 64 (Int.fdiv (wu64 ((wu64 (((BitVec.ofInt 64 (Int.fdiv p0 (2 ^ (min (1 : Int).toNat 64))) &&& BitVec.ofInt 64 6148914691236517205).toNat : Int))) + (wu64 (((BitVec.ofInt 64 p0 &&& BitVec.ofInt 64 6148914691236517205).toNat : Int))))) (2 ^ (min (2 : Int).toNat 64))) &&& BitVec.ofInt 64 3689348814741910323).toNat : Int))) + (wu64 (((BitVec.ofInt 64 (wu64 ((wu64 (((BitVec.ofInt 64 (Int.fdiv p0 (2 ^ (min (1 : Int).toNat 64))) &&& BitVec.ofInt 64 6148914691236517205).toNat : Int))) + (wu64 (((BitVec.ofInt 64 p0 &&& BitVec.ofInt 64 6148914691236517205).toNat : Int))))) &&& BitVec.ofInt 64 3689348814741910323).toNat : Int))))))) &&& BitVec.ofInt 64 1085102592571150095).toNat : Int)))), (2, .int .i64 0), (20, .int .u64 (wu64 (((BitVec.ofInt 64 (wu64 ((Int.fdiv (wu64 ((wu64 (((BitVec.ofInt 64 (Int.fdiv (wu64 ((wu64 (((BitVec.ofInt 64 (Int.fdiv p0 (2 ^ (min (1 : Int).toNat 64))) &&& BitVec.ofInt 64 6148914691236517205).toNat : Int))) + (wu64 (((BitVec.ofInt 64 p0 &&& BitVec.ofInt 64 6148914691236517205).toNat : Int))))) (2 ^ (min (2 : Int).toNat 64))) &&& BitVec.ofInt 64 3689348814741910323).toNat : Int))) + (wu64 (((BitVec.ofInt 64 (wu64 ((wu64 (((BitVec.ofInt 64 (Int.fdiv p0 (2 ^ (min (1 : Int).toNat 64))) &&& BitVec.ofInt 64 6148914691236517205).toNat : Int))) + (wu64 (((BitVec.ofInt 64 p0 &&& BitVec.ofInt 64 6148914691236517205).toNat : Int))))) &&& BitVec.ofInt 64 3689348814741910323).toNat : Int))))) (2 ^ (min (4 : Int).toNat 64))) + (wu64 ((wu64 (((BitVec.ofInt 64 (Int.fdiv (wu64 ((wu64 (((BitVec.ofInt 64 (Int.fdiv p0 (2 ^ (min (1 : Int).toNat 64))) &&& BitVec.ofInt 64 6148914691236517205).toNat : Int))) + (wu64 (((BitVec.ofInt 64 p0 &&& BitVec.ofInt 64 6148914691236517205).toNat : Int))))) (2 ^ (min (2 : Int).toNat 64))) &&& BitVec.ofInt 64 3689348814741910323).toNat : Int))) + (wu64 (((BitVec.ofInt 64 (wu64 ((wu64 (((BitVec.ofInt 64 (Int.fdiv p0 (2 ^ (min (1 : Int).toNat 64))) &&& BitVec.ofInt 64 6148914691236517205).toNat : Int))) + (wu64 (((BitVec.ofInt 64 p0 &&& BitVec.ofInt 64 6148914691236517205).toNat : Int))))) &&& BitVec.ofInt 64 3689348814741910323).toNat : Int))))))) &&& BitVec.ofInt 64 1085102592571150095).toNat : Int)))), (21, .int .u64 (wu64 (((BitVec.ofInt 64 (wu64 ((Int.fdiv (wu64 ((wu64 (((BitVec.ofInt 64 (Int.fdiv (wu64 ((wu64 (((BitVec.ofInt 64 (Int.fdiv p0 (2 ^ (min (1 : Int).toNat 64))) &&& BitVec.ofInt 64 6148914691236517205).toNat : Int))) + (wu64 (((BitVec.ofInt 64 p0 &&& BitVec.ofInt 64 6148914691236517205).toNat : Int))))) (2 ^ (min (2 : Int).toNat 64))) &&& BitVec.ofInt 64 3689348814741910323).toNat : Int))) + (wu64 (((BitVec.ofInt 64 (wu64 ((wu64 (((BitVec.ofInt 64 (Int.fdiv p0 (2 ^ (min (1 : Int).toNat 64))) &&& BitVec.ofInt 64 6148914691236517205).toNat : Int))) + (wu64 (((BitVec.ofInt 64 p0 &&& BitVec.ofInt 64 6148914691236517205).toNat : Int))))) &&& BitVec.ofInt 64 3689348814741910323).toNat : Int))))) (2 ^ (min (4 : Int).toNat 64))) + (wu64 ((wu64 (((BitVec.ofInt 64 (Int.fdiv (wu64 ((wu64 (((BitVec.ofInt 64 (Int.fdiv p0 (2 ^ (min (1 : Int).toNat 64))) &&& BitVec.ofInt 64 6148914691236517205).toNat : Int))) + (wu64 (((BitVec.ofInt 64 p0 &&& BitVec.ofInt 64 6148914691236517205).toNat : Int))))) (2 ^ (min (2 : Int).toNat 64))) &&& BitVec.ofInt 64 3689348814741910323).toNat : Int))) + (wu64 (((BitVec.ofInt 64 (wu64 ((wu64 (((BitVec.ofInt 64 (Int.fdiv p0 (2 ^ (min (1 : Int).toNat 64))) &&& BitVec.ofInt 64 6148914691236517205).toNat : Int))) + (wu64 (((BitVec.ofInt 64 p0 &&& BitVec.ofInt 64 6148914691236517205).toNat : Int))))) &&& BitVec.ofInt 64 3689348814741910323).toNat : Int))))))) &&& BitVec.ofInt 64 1085102592571150095).toNat : Int))))] rfl ⟨rfl, rfl, rfl, rfl, trivial⟩ ?_
  refine WO_shr rfl rfl rfl rfl rfl (by decide) ?_
  refine WO_pure tbok 2 [(0, .int .u64 (wu64 ((wu64 (((BitVec.ofInt 64 (wu64 ((Int.fdiv (wu64 ((wu64 (((BitVec.ofInt 64 (Int.fdiv (wu64 ((wu64 (((BitVec.ofInt 64 (Int.fdiv p0 (2 ^ (min (1 : Int).toNat 64))) &&& BitVec.ofInt 64 6148914691236517205).toNat : Int))) + (wu64 (((BitVec.ofInt 64 p0 &&& BitVec.ofInt 64 6148914691236517205).toNat : Int))))) (2 ^ (min (2 : Int).toNat 64))) &&& BitVec.ofInt 64 3689348814741910323).toNat : Int))) + (wu64 (((BitVec.ofInt 64 (wu64 ((wu64 (((BitVec.ofInt 64 (Int.fdiv p0 (2 ^ (min (1 : Int).toNat 64))) &&& BitVec.ofInt 64 6148914691236517205).toNat : Int))) + (wu64 (((BitVec.ofInt 64 p0 &&& BitVec.ofInt 64 6148914691236517205).toNat : Int))))) &&& BitVec.ofInt 64 3689348814741910323).toNat : Int))))) (2 ^ (min (4 : Int).toNat 64))) + (wu64 ((wu64 (((BitVec.ofInt 64 (Int.fdiv (wu64 ((wu64 (((BitVec.ofInt 64 (Int.fdiv p0 (2 ^ (min (1 : Int).toNat 64))) &&& BitVec.ofInt 64 6148914691236517205).toNat : Int))) + (wu64 (((BitVec.ofInt 64 p0 &&& BitVec.ofInt 64 6148914691236517205).toNat : Int))))) (2 ^ (min (2 : Int).toNat 64))) &&& BitVec.ofInt 64 3689348814741910323).toNat : Int))) + (wu64 (((BitVec.ofInt 64 (wu64 ((wu64 (((BitVec.ofInt 64 (Int.fdiv p0 (2 ^ (min (1 : Int).toNat 64))) &&& BitVec.ofInt 64 6148914691236517205).toNat : Int))) + (wu64 (((BitVec.ofInt 64 p0 &&& BitVec.ofInt 64 6148914691236517205).toNat : Int))))) &&& BitVec.ofInt 64 3689348814741910323).toNat : Int))))))) &&& BitVec.ofInt 64 1085102592571150095).toNat : Int))) + (Int.fdiv (wu64 (((BitVec.ofInt 64 (wu64 ((Int.fdiv (wu64 ((wu64 (((BitVec.ofInt 64 (Int.fdiv (wu64 ((wu64 (((BitVec.ofInt 64 (Int.fdiv p0 (2 ^ (min (1 : Int).toNat 64))) &&& BitVec.ofInt 64 6148914691236517205).toNat : Int))) + (wu64 (((BitVec.ofInt 64 p0 &&& BitVec.ofInt 64 6148914691236517205).toNat : Int))))) (2 ^ (min (2 : Int).toNat 64))) &&& BitVec.ofInt 64 3689348814741910323).toNat : Int))) + (wu64 (((BitVec.ofInt 64 (wu64 ((wu64 (((BitVec.ofInt 64 (Int.fdiv p0 (2 ^ (min (1 : Int).toNat 64))) &&& BitVec.ofInt 64 6148914691236517205).toNat : Int))) + (wu64 (((BitVec.ofInt 64 p0 &&& BitVec.ofInt 64 6148914691236517205).toNat : Int))))) &&& BitVec.ofInt 64 3689348814741910323).toNat : Int))))) (2 ^ (min (4 : Int).toNat 64))) + (wu64 ((wu64 (((BitVec.ofInt 64 (Int.fdiv (wu64 ((wu64 (((BitVec.ofInt 64 (Int.fdiv p0 (2 ^ (min (1 : Int).toNat 64))) &&& BitVec.ofInt 64 6148914691236517205).toNat : Int))) + (wu64 (((BitVec.ofInt 64 p0 &&& BitVec.ofInt 64 6148914691236517205).toNat : Int))))) (2 ^ (min (2 : Int).toNat 64))) &&& BitVec.ofInt 64 3689348814741910323).toNat : Int))) + (wu64 (((BitVec.ofInt 64 (wu64 ((wu64 (((BitVec.ofInt 64 (Int.fdiv p0 (2 ^ (min (1 : Int).toNat 64))) &&& BitVec.ofInt 64 6148914691236517205).toNat : Int))) + (wu64 (((BitVec.ofInt 64 p0 &&& BitVec.ofInt 64 6148914691236517205).toNat : Int))))) &&& BitVec.ofInt 64 3689348814741910323).toNat : Int))))))) &&& BitVec.ofInt 64 1085102592571150095).toNat : Int))) (2 ^ (min (8 : Int).toNat 64)))))), (2, .int .i64 0)] rfl ⟨rfl, rfl, trivial⟩ ?_
  refine WO_end ?_
  refine WK_seq ?_
  refine WK_region ?_
  refine WO_pure tbok 2 [(0, .int .u64 (wu64 ((wu64 (((BitVec.ofInt 64 (wu64 ((Int.fdiv (wu64 ((wu64 (((BitVec.ofInt 64 (Int.fdiv (wu64 ((wu64 (((BitVec.ofInt 64 (Int.fdiv p0 (2 ^ (min (1 : Int).toNat 64))) &&& BitVec.ofInt 64 6148914691236517205).toNat : Int))) + (wu64 (((BitVec.ofInt 64 p0 &&& BitVec.ofInt 64 6148914691236517205).toNat : Int))))) (2 ^ (min (2 : Int).toNat 64))) &&& BitVec.ofInt 64 3689348814741910323).toNat : Int))) + (wu64 (((BitVec.ofInt 64 (wu64 ((wu64 (((BitVec.ofInt 64 (Int.fdiv p0 (2 ^ (min (1 : Int).toNat 64))) &&& BitVec.ofInt 64 6148914691236517205).toNat : Int))) + (wu64 (((BitVec.ofInt 64 p0 &&& BitVec.ofInt 64 6148914691236517205).toNat : Int))))) &&& BitVec.ofInt 64 3689348814741910323).toNat : Int))))) (2 ^ (min (4 : Int).toNat 64))) + (wu64 ((wu64 (((BitVec.ofInt 64 (Int.fdiv (wu64 ((wu64 (((BitVec.ofInt 64 (Int.fdiv p0 (2 ^ (min (1 : Int).toNat 64))) &&& BitVec.ofInt 64 6148914691236517205).toNat : Int))) + (wu64 (((BitVec.ofInt 64 p0 &&& BitVec.ofInt 64 6148914691236517205).toNat : Int))))) (2 ^ (min (2 : Int).toNat 64))) &&& BitVec.ofInt 64 3689348814741910323).toNat : Int))) + (wu64 (((BitVec.ofInt 64 (wu64 ((wu64 (((BitVec.ofInt 64 (Int.fdiv p0 (2 ^ (min (1 : Int).toNat 64))) &&& BitVec.ofInt 64 6148914691236517205).toNat : Int))) + (wu64 (((BitVec.ofInt 64 p0 &&& BitVec.ofInt 64 6148914691236517205).toNat : Int))))) &&& BitVec.ofInt 64 3689348814741910323).toNat : Int))))))) &&& BitVec.ofInt 64 1085102592571150095).toNat : Int))) + (Int.fdiv (wu64 (((BitVec.ofInt 64 (wu64 ((Int.fdiv (wu64 ((wu64 (((BitVec.ofInt 64 (Int.fdiv (wu64 ((wu64 (((BitVec.ofInt 64 (Int.fdiv p0 (2 ^ (min (1 : Int).toNat 64))) &&& BitVec.ofInt 64 6148914691236517205).toNat : Int))) + (wu64 (((BitVec.ofInt 64 p0 &&& BitVec.ofInt 64 6148914691236517205).toNat : Int))))) (2 ^ (min (2 : Int).toNat 64))) &&& BitVec.ofInt 64 3689348814741910323).toNat : Int))) + (wu64 (((BitVec.ofInt 64 (wu64 ((wu64 (((BitVec.ofInt 64 (Int.fdiv p0 (2 ^ (min (1 : Int).toNat 64))) &&& BitVec.ofInt 64 6148914691236517205).toNat : Int))) + (wu64 (((BitVec.ofInt 64 p0 &&& BitVec.ofInt 64 6148914691236517205).toNat : Int))))) &&& BitVec.ofInt 64 3689348814741910323).toNat : Int))))) (2 ^ (min (4 : Int).toNat 64))) + (wu64 ((wu64 (((BitVec.ofInt 64 (Int.fdiv (wu64 ((wu64 (((BitVec.ofInt 64 (Int.fdiv p0 (2 ^ (min (1 : Int).toNat 64))) &&& BitVec.ofInt 64 6148914691236517205).toNat : Int))) + (wu64 (((BitVec.ofInt 64 p0 &&& BitVec.ofInt 64 6148914691236517205).toNat : Int))))) (2 ^ (min (2 : Int).toNat 64))) &&& BitVec.ofInt 64 3689348814741910323).toNat : Int))) + (wu64 (((BitVec.ofInt 64 (wu64 ((wu64 (((BitVec.ofInt 64 (Int.fdiv p0 (2 ^ (min (1 : Int).toNat 64))) &&& BitVec.ofInt 64 6148914691236517205).toNat : Int))) + (wu64 (((BitVec.ofInt 64 p0 &&& BitVec.ofInt 64 6148914691236517205).toNat : Int))))) &&& BitVec.ofInt 64 3689348814741910323).toNat : Int))))))) &&& BitVec.ofInt 64 1085102592571150095).toNat : Int))) (2 ^ (min (8 : Int).toNat 64)))))), (2, .int .i64 0), (24, .int .u64 (wu64 ((wu64 (((BitVec.ofInt 64 (wu64 ((Int.fdiv (wu64 ((wu64 (((BitVec.ofInt 64 (Int.fdiv (wu64 ((wu64 (((BitVec.ofInt 64 (Int.fdiv p0 (2 ^ (min (1 : Int).toNat 64))) &&& BitVec.ofInt 64 6148914691236517205).toNat : Int))) + (wu64 (((BitVec.ofInt 64 p0 &&& BitVec.ofInt 64 6148914691236517205).toNat : Int))))) (2 ^ (min (2 : Int).toNat 64))) &&& BitVec.ofInt 64 3689348814741910323).toNat : Int))) + (wu64 (((BitVec.ofInt 64 (wu64 ((wu64 (((BitVec.ofInt 64 (Int.fdiv p0 (2 ^ (min (1 : Int).toNat 64))) &&& BitVec.ofInt 64 6148914691236517205).toNat : Int))) + (wu64 (((BitVec.ofInt 64 p0 &&& BitVec.ofInt 64 6148914691236517205).toNat : Int))))) &&& BitVec.ofInt 64 3689348814741910323).toNat : Int))))) (2 ^ (min (4 : Int).toNat 64))) + (wu64 ((wu64 (((BitVec.ofInt 64 (Int.fdiv (wu64 ((wu64 (((BitVec.ofInt 64 (Int.fdiv p0 (2 ^ (min (1 : Int).toNat 64))) &&& BitVec.ofInt 64 6148914691236517205).toNat : Int))) + (wu64 (((BitVec.ofInt 64 p0 &&& BitVec.ofInt 64 6148914691236517205).toNat : Int))))) (2 ^ (min (2 : Int).toNat 64))) &&& BitVec.ofInt 64 3689348814741910323).toNat : Int))) + (wu64 (((BitVec.ofInt 64 (wu64 ((wu64 (((BitVec.ofInt 64 (Int.fdiv p0 (2 ^ (min (1 : Int).toNat 64))) &&& BitVec.ofInt 64 6148914691236517205).toNat : Int))) + (wu64 (((BitVec.ofInt 64 p0 &&& BitVec.ofInt 64 6148914691236517205).toNat : Int))))) &&& BitVec.ofInt 64 3689348814741910323).toNat : Int))))))) &&& BitVec.ofInt 64 1085102592571150095).toNat : Int))) + (Int.fdiv (wu64 (((BitVec.ofInt 64 (wu64 ((Int.fdiv (wu64 ((wu64 (((BitVec.ofInt 64 (Int.fdiv (wu64 ((wu64 (((BitVec.ofInt 64 (Int.fdiv p0 (2 ^ (min (1 : Int).toNat 64))) &&& BitVec.ofInt 64 6148914691236517205).toNat : Int))) + (wu64 (((BitVec.ofInt 64 p0 &&& BitVec.ofInt 64 6148914691236517205).toNat : Int))))) (2 ^ (min (2 : Int).toNat 64))) &&& BitVec.ofInt 64 3689348814741910323).toNat : Int))) + (wu64 (((BitVec.ofInt 64 (wu64 ((wu64 (((BitVec.ofInt 64 (Int.fdiv p0 (2 ^ (min (1 : Int).toNat 64))) &&& BitVec.ofInt 64 6148914691236517205).toNat : Int))) + (wu64 (((BitVec.ofInt 64 p0 &&& BitVec.ofInt 64 6148914691236517205).toNat : Int))))) &&& BitVec.ofInt 64 3689348814741910323).toNat : Int))))) (2 ^ (min (4 : Int).toNat 64))) + (wu64 ((wu64 (((BitVec.ofInt 64 (Int.fdiv (wu64 ((wu64 (((BitVec.ofInt 64 (Int.fdiv p0 (2 ^ (min (1 : Int).toNat 64))) &&& BitVec.ofInt 64 6148914691236517205).toNat : Int))) + (wu64 (((BitVec.ofInt 64 p0 &&& BitVec.ofInt 64 6148914691236517205).toNat : Int))))) (2 ^ (min (2 : Int).toNat 64))) &&& BitVec.ofInt 64 3689348814741910323).toNat : Int))) + (wu64 (((BitVec.ofInt 64 (wu64 ((wu64 (((BitVec.ofInt 64 (Int.fdiv p0 (2 ^ (min (1 : Int).toNat 64))) &&& BitVec.ofInt 64 6148914691236517205).toNat : Int))) + (wu64 (((BitVec.ofInt 64 p0 &&& BitVec.ofInt 64 6148914691236517205).toNat : Int))))) &&& BitVec.ofInt 64 3689348814741910323).toNat : Int))))))) &&& BitVec.ofInt 64 1085102592571150095).toNat : Int))) (2 ^ (min (8 : Int).toNat 64)))))), (25, .int .u64 (wu64 ((wu64 (((BitVec.ofInt 64 (wu64 ((Int.fdiv (wu64 ((wu64 (((BitVec.ofInt 64 (Int.fdiv (wu64 ((wu64 (((BitVec.ofInt 64 (Int.fdiv p0 (2 ^ (min (1 : Int).toNat 64))) &&& BitVec.ofInt 64 6148914691236517205).toNat : Int))) + (wu64 (((BitVec.ofInt 64 p0 &&& BitVec.ofInt 64 6148914691236517205).toNat : Int))))) (2 ^ (min (2 : Int).toNat 64))) &&& BitVec.ofInt 64 3689348814741910323).toNat : Int))) + (wu64 (((BitVec.ofInt 64 (wu64 ((wu64 (((BitVec.ofInt 64 (Int.fdiv p0 (2 ^ (min (1 : Int).toNat 64))) &&& BitVec.ofInt 64 6148914691236517205).toNat : Int))) + (wu64 (((BitVec.ofInt 64 p0 &&& BitVec.ofInt 64 6148914691236517205).toNat : Int))))) &&& BitVec.ofInt 64 3689348814741910323).toNat : Int))))) (2 ^ (min (4 : Int).toNat 64))) + (wu64 ((wu64 (((BitVec.ofInt 64 (Int.fdiv (wu64 ((wu64 (((BitVec.ofInt 64 (Int.fdiv p0 (2 ^ (min (1 : Int).toNat 64))) &&& BitVec.ofInt 64 6148914691236517205).toNat : Int))) + (wu64 (((BitVec.ofInt 64 p0 &&& BitVec.ofInt 64 6148914691236517205).toNat : Int))))) (2 ^ (min (2 : Int).toNat 64))) &&& BitVec.ofInt 64 3689348814741910323).toNat : Int))) + (wu64 (((BitVec.ofInt 64 (wu64 ((wu64 (((BitVec.ofInt 64 (Int.fdiv p0 (2 ^ (min (1 : Int).toNat 64))) &&& BitVec.ofInt 64 6148914691236517205).toNat : Int))) + (wu64 (((BitVec.ofInt 64 p0 &&& BitVec.ofInt 64 6148914691236517205).toNat : Int))))) &&& BitVec.ofInt 64 3689348814741910323).toNat : Int))))))) &&& BitVec.ofInt 64 1085102592571150095).toNat : Int))) + (Int.fdiv (wu64 (((BitVec.ofInt 64 (wu64 ((Int.fdiv (wu64 ((wu64 (((BitVec.ofInt 64 (Int.fdiv (wu64 ((wu64 (((BitVec.ofInt 64 (Int.fdiv p0 (2 ^ (min (1 : Int).toNat 64))) &&& BitVec.ofInt 64 6148914691236517205).toNat : Int))) + (wu64 (((BitVec.ofInt 64 p0 &&& BitVec.ofInt 64 6148914691236517205).toNat : Int))))) (2 ^ (min (2 : Int).toNat 64))) &&& BitVec.ofInt 64 3689348814741910323).toNat : Int))) + (wu64 (((BitVec.ofInt 64 (wu64 ((wu64 (((BitVec.ofInt 64 (Int.fdiv p0 (2 ^ (min (1 : Int).toNat 64))) &&& BitVec.ofInt 64 6148914691236517205).toNat : Int))) + (wu64 (((BitVec.ofInt 64 p0 &&& BitVec.ofInt 64 6148914691236517205).toNat : Int))))) &&& BitVec.ofInt 64 3689348814741910323).toNat : Int))))) (2 ^ (min (4 : Int).toNat 64))) + (wu64 ((wu64 (((BitVec.ofInt 64 (Int.fdiv (wu64 ((wu64 (((BitVec.ofInt 64 (Int.fdiv p0 (2 ^ (min (1 : Int).toNat 64))) &&& BitVec.ofInt 64 6148914691236517205).toNat : Int))) + (wu64 (((BitVec.ofInt 64 p0 &&& BitVec.ofInt 64 6148914691236517205).toNat : Int))))) (2 ^ (min (2 : Int).toNat 64))) &&& BitVec.ofInt 64 3689348814741910323).toNat : Int))) + (wu64 (((BitVec.ofInt 64 (wu64 ((wu64 (((BitVec.ofInt 64 (Int.fdiv p0 (2 ^ (min (1 : Int).toNat 64))) &&& BitVec.ofInt 64 6148914691236517205).toNat : Int))) + (wu64 (((BitVec.ofInt 64 p0 &&& BitVec.ofInt 64 6148914691236517205).toNat : Int))))) &&& BitVec.ofInt 64 3689348814741910323).toNat : Int))))))) &&& BitVec.ofInt 64 1085102592571150095).toNat : Int))) (2 ^ (min (8 : Int).toNat 64))))))] rfl ⟨rfl, rfl, rfl, rfl, trivial⟩ ?_
  refine WO_shr rfl rfl rfl rfl rfl (by decide) ?_
  refine WO_pure tbok 2 [(0, .int .u64 (wu64 ((wu64 ((wu64 (((BitVec.ofInt 64 (wu64 ((Int.fdiv (wu64 ((wu64 (((BitVec.ofInt 64 (Int.fdiv (wu64 ((wu64 (((BitVec.ofInt 64 (Int.fdiv p0 (2 ^ (min (1 : Int).toNat 64))) &&& BitVec.ofInt 64 6148914691236517205).toNat : Int))) + (wu64 (((BitVec.ofInt 64 p0 &&& BitVec.ofInt 64 6148914691236517205).toNat : Int))))) (2 ^ (min (2 : Int).toNat 64))) &&& BitVec.ofInt 64 3689348814741910323).toNat : Int))) + (wu64 (((BitVec.ofInt 64 (wu64 ((wu64 (((BitVec.ofInt 64 (Int.fdiv p0 (2 ^ (min (1 : Int).toNat 64))) &&& BitVec.ofInt 64 6148914691236517205).toNat : Int))) + (wu64 (((BitVec.ofInt 64 p0 &&& BitVec.ofInt 64 6148914691236517205).toNat : Int))))) &&& BitVec.ofInt 64 3689348814741910323).toNat : Int))))) (2 ^ (min (4 : Int).toNat 64))) + (wu64 ((wu64 (((BitVec.ofInt 64 (Int.fdiv (wu64 ((wu64 (((BitVec.ofInt 64 (Int.fdiv p0 (2 ^ (min (1 : Int).toNat 64))) &&& BitVec.ofInt 64 6148914691236517205).toNat : Int))) + (wu64 (((BitVec.ofInt 64 p0 &&& BitVec.ofInt 64 6148914691236517205).toNat : Int))))) (2 ^ (min (2 : Int).toNat 64))) &&& BitVec.ofInt 64 3689348814741910323).toNat : Int))) + (wu64 (((BitVec.ofInt 64 (wu64 ((wu64 (((BitVec.ofInt 64 (Int.fdiv p0 (2 ^ (min (1 : Int).toNat 64))) &&& BitVec.ofInt 64 6148914691236517205).toNat : Int))) + (wu64 (((BitVec.ofInt 64 p0 &&& BitVec.ofInt 64 6148914691236517205).toNat : Int))))) &&& BitVec.ofInt 64 3689348814741910323).toNat : Int))))))) &&& BitVec.ofInt 64 1085102592571150095).toNat : Int))) + (Int.fdiv (wu64 (((BitVec.ofInt 64 (wu64 ((Int.fdiv (wu64 ((wu64 (((BitVec.ofInt 64 (Int.fdiv (wu64 ((wu64 (((BitVec.ofInt 64 (Int.fdiv p0 (2 ^ (min (1 : Int).toNat 64))) &&& BitVec.ofInt 64 6148914691236517205).toNat : Int))) + (wu64 (((BitVec.ofInt 64 p0 &&& BitVec.ofInt 64 6148914691236517205).toNat : Int))))) (2 ^ (min (2 : Int).toNat 64))) &&& BitVec.ofInt 64 3689348814741910323).toNat : Int))) + (wu64 (((BitVec.ofInt 64 (wu64 ((wu64 (((BitVec.ofInt 64 (Int.fdiv p0 (2 ^ (min (1 : Int).toNat 64))) &&& BitVec.ofInt 64 6148914691236517205).toNat : Int))) + (wu64 (((BitVec.ofInt 64 p0 &&& BitVec.ofInt 64 6148914691236517205).toNat : Int))))) &&& BitVec.ofInt 64 3689348814741910323).toNat : Int))))) (2 ^ (min (4 : Int).toNat 64))) + (wu64 ((wu64 (((BitVec.ofInt 64 (Int.fdiv (wu64 ((wu64 (((BitVec.ofInt 64 (Int.fdiv p0 (2 ^ (min (1 : Int).toNat 64))) &&& BitVec.ofInt 64 6148914691236517205).toNat : Int))) + (wu64 (((BitVec.ofInt 64 p0 &&& BitVec.ofInt 64 6148914691236517205).toNat : Int))))) (2 ^ (min (2 : Int).toNat 64))) &&& BitVec.ofInt 64 3689348814741910323).toNat : Int))) + (wu64 (((BitVec.ofInt 64 (wu64 ((wu64 (((BitVec.ofInt 64 (Int.fdiv p0 (2 ^ (min (1 : Int).toNat 64))) &&& BitVec.ofInt 64 6148914691236517205).toNat : Int))) + (wu64 (((BitVec.ofInt 64 p0 &&& BitVec.ofInt 64 6148914691236517205).toNat : Int))))) &&& BitVec.ofInt 64 3689348814741910323).toNat : Int))))))) &&& BitVec.ofInt 64 1085102592571150095).toNat : Int))) (2 ^ (min (8 : Int).toNat 64))))) + (Int.fdiv (wu64 ((wu64 (((BitVec.ofInt 64 (wu64 ((Int.fdiv (wu64 ((wu64 (((BitVec.ofInt 64 (Int.fdiv (wu64 ((wu64 (((BitVec.ofInt 64 (Int.fdiv p0 (2 ^ (min (1 : Int).toNat 64))) &&& BitVec.ofInt 64 6148914691236517205).toNat : Int))) + (wu64 (((BitVec.ofInt 64 p0 &&& BitVec.ofInt 64 6148914691236517205).toNat : Int))))) (2 ^ (min (2 : Int).toNat 64))) &&& BitVec.ofInt 64 3689348814741910323).toNat : Int))) + (wu64 (((BitVec.ofInt 64 (wu64 ((wu64 (((BitVec.ofInt 64 (Int.fdiv p0 (2 ^ (min (1 : Int).toNat 64))) &&& BitVec.ofInt 64 6148914691236517205).toNat : Int))) + (wu64 (((BitVec.ofInt 64 p0 &&& BitVec.ofInt 64 6148914691236517205).toNat : Int))))) &&& BitVec.ofInt 64 3689348814741910323).toNat : Int))))) (2 ^ (min (4 : Int).toNat 64))) + (wu64 ((wu64 (((BitVec.ofInt 64 (Int.fdiv (wu64 ((wu64 (((BitVec.ofInt 64 (Int.fdiv p0 (2 ^ (min (1 : Int).toNat 64))) &&& BitVec.ofInt 64 6148914691236517205).toNat : Int))) + (wu64 (((BitVec.ofInt 64 p0 &&& BitVec.ofInt 64 6148914691236517205).toNat : Int))))) (2 ^ (min (2 : Int).toNat 64))) &&& BitVec.ofInt 64 3689348814741910323).toNat : Int))) + (wu64 (((BitVec.ofInt 64 (wu64 ((wu64 (((BitVec.ofInt 64 (Int.fdiv p0 (2 ^ (min (1 : Int).toNat 64))) &&& BitVec.ofInt 64 6148914691236517205).toNat : Int))) + (wu64 (((BitVec.ofInt 64 p0 &&& BitVec.ofInt 64 6148914691236517205).toNat : Int))))) &&& BitVec.ofInt 64 3689348814741910323).toNat : Int))))))) &&& BitVec.ofInt 64 1085102592571150095).toNat : Int))) + (Int.fdiv (wu64 (((BitVec.ofInt 64 (wu64 ((Int.fdiv (wu64 ((wu64 (((BitVec.ofInt 64 (Int.fdiv (wu64 ((wu64 (((BitVec.ofInt 64 (Int.fdiv p0 (2 ^ (min (1 : Int).toNat 64))) &&& BitVec.ofInt 64 6148914691236517205).toNat : Int))) + (wu64 (((BitVec.ofInt 64 p0 &&& BitVec.ofInt 64 6148914691236517205).toNat : Int))))) (2 ^ (min (2 : Int).toNat 64))) &&& BitVec.ofInt 64 3689348814741910323).toNat : Int))) + (wu64 (((BitVec.ofInt 64 (wu64 ((wu64 (((BitVec.ofInt 64 (Int.fdiv p0 (2 ^ (min (1 : Int).toNat 64))) &&& BitVec.ofInt 64 6148914691236517205).toNat : Int))) + (wu64 (((BitVec.ofInt 64 p0 &&& BitVec.ofInt 64 6148914691236517205).toNat : Int))))) &&& BitVec.ofInt 64 3689348814741910323).toNat : Int))))) (2 ^ (min (4 : Int).toNat 64))) + (wu64 ((wu64 (((BitVec.ofInt 64 (Int.fdiv (wu64 ((wu64 (((BitVec.ofInt 64 (Int.fdiv p0 (2 ^ (min (1 : Int).toNat 64))) &&& BitVec.ofInt 64 6148914691236517205).toNat : Int))) + (wu64 (((BitVec.ofInt 64 p0 &&& BitVec.ofInt 64 6148914691236517205).toNat : Int))))) (2 ^ (min (2 : Int).toNat 64))) &&& BitVec.ofInt 64 3689348814741910323).toNat : Int))) + (wu64 (((BitVec.ofInt 64 (wu64 ((wu64 (((BitVec.ofInt 64 (Int.fdiv p0 (2 ^ (min (1 : Int).toNat 64))) &&& BitVec.ofInt 64 6148914691236517205).toNat : Int))) + (wu64 (((BitVec.ofInt 64 p0 &&& BitVec.ofInt 64 6148914691236517205).toNat : Int))))) &&& BitVec.ofInt 64 3689348814741910323).toNat : Int))))))) &&& BitVec.ofInt 64 1085102592571150095).toNat : Int))) (2 ^ (min (8 : Int).toNat 64))))) (2 ^ (min (16 : Int).toNat 64)))))), (2, .int .i64 0)] rfl ⟨rfl, rfl, trivial⟩ ?_
  refine WO_end ?_
  refine WK_seq ?_
  refine WK_region ?_
  refine WO_pure tbok 2 [(0, .int .u64 (wu64 ((wu64 ((wu64 (((BitVec.ofInt 64 (wu64 ((Int.fdiv (wu64 ((wu64 (((BitVec.ofInt 64 (Int.fdiv (wu64 ((wu64 (((BitVec.ofInt 64 (Int.fdiv p0 (2 ^ (min (1 : Int).toNat 64))) &&& BitVec.ofInt 64 6148914691236517205).toNat : Int))) + (wu64 (((BitVec.ofInt 64 p0 &&& BitVec.ofInt 64 6148914691236517205).toNat : Int))))) (2 ^ (min (2 : Int).toNat 64))) &&& BitVec.ofInt 64 3689348814741910323).toNat : Int))) + (wu64 (((BitVec.ofInt 64 (wu64 ((wu64 (((BitVec.ofInt 64 (Int.fdiv p0 (2 ^ (min (1 : Int).toNat 64))) &&& BitVec.ofInt 64 6148914691236517205).toNat : Int))) + (wu64 (((BitVec.ofInt 64 p0 &&& BitVec.ofInt 64 6148914691236517205).toNat : Int))))) &&& BitVec.ofInt 64 3689348814741910323).toNat : Int))))) (2 ^ (min (4 : Int).toNat 64))) + (wu64 ((wu64 (((BitVec.ofInt 64 (Int.fdiv (wu64 ((wu64 (((BitVec.ofInt 64 (Int.fdiv p0 (2 ^ (min (1 : Int).toNat 64))) &&& BitVec.ofInt 64 6148914691236517205).toNat : Int))) + (wu64 (((BitVec.ofInt 64 p0 &&& BitVec.ofInt 64 6148914691236517205).toNat : Int))))) (2 ^ (min (2 : Int).toNat 64))) &&& BitVec.ofInt 64 3689348814741910323).toNat : Int))) + (wu64 (((BitVec.ofInt 64 (wu64 ((wu64 (((BitVec.ofInt 64 (Int.fdiv p0 (2 ^ (min (1 : Int).toNat 64))) &&& BitVec.ofInt 64 6148914691236517205).toNat : Int))) + (wu64 (((BitVec.ofInt 64 p0 &&& BitVec.ofInt 64 6148914691236517205).toNat : Int))))) &&& BitVec.ofInt 64 3689348814741910323).toNat : Int))))))) &&& BitVec.ofInt 64 1085102592571150095).toNat : Int))) + (Int.fdiv (wu64 (((BitVec.ofInt 64 (wu64 ((Int.fdiv (wu64 ((wu64 (((BitVec.ofInt 64 (Int.fdiv (wu64 ((wu64 (((BitVec.ofInt 64 (Int.fdiv p0 (2 ^ (min (1 : Int).toNat 64))) &&& BitVec.ofInt 64 6148914691236517205).toNat : Int))) + (wu64 (((BitVec.ofInt 64 p0 &&& BitVec.ofInt 64 6148914691236517205).toNat : Int))))) (2 ^ (min (2 : Int).toNat 64))) &&& BitVec.ofInt 64 3689348814741910323).toNat : Int))) + (wu64 (((BitVec.ofInt 64 (wu64 ((wu64 (((BitVec.ofInt 64 (Int.fdiv p0 (2 ^ (min (1 : Int).toNat 64))) &&& BitVec.ofInt 64 6148914691236517205).toNat : Int))) + (wu64 (((BitVec.ofInt 64 p0 &&& BitVec.ofInt 64 6148914691236517205).toNat : Int))))) &&& BitVec.ofInt 64 3689348814741910323).toNat : Int))))) (2 ^ (min (4 : Int).toNat 64))) + (wu64 ((wu64 (((BitVec.ofInt 64 (Int.fdiv (wu64 ((wu64 (((BitVec.ofInt 64 (Int.fdiv p0 (2 ^ (min (1 : Int).toNat 64))) &&& BitVec.ofInt 64 6148914691236517205).toNat : Int))) + (wu64 (((BitVec.ofInt 64 p0 &&& BitVec.ofInt 64 6148914691236517205).toNat : Int))))) (2 ^ (min (2 : Int).toNat 64))) &&& BitVec.ofInt 64 3689348814741910323).toNat : Int))) + (wu64 (((BitVec.ofInt 64 (wu64 ((wu64 (((BitVec.ofInt 64 (Int.fdiv p0 (2 ^ (min (1 : Int).toNat 64))) &&& BitVec.ofInt 64 6148914691236517205).toNat : Int))) + (wu64 (((BitVec.ofInt 64 p0 &&& BitVec.ofInt 64 6148914691236517205).toNat : Int))))) &&& BitVec.ofInt 64 3689348814741910323).toNat : Int))))))) &&& BitVec.ofInt 64 1085102592571150095).toNat : Int))) (2 ^ (min (8 : Int).toNat 64))))) + (Int.fdiv (wu64 ((wu64 (((BitVec.ofInt 64 (wu64 ((Int.fdiv (wu64 ((wu64 (((BitVec.ofInt 64 (Int.fdiv (wu64 ((wu64 (((BitVec.ofInt 64 (Int.fdiv p0 (2 ^ (min (1 : Int).toNat 64))) &&& BitVec.ofInt 64 6148914691236517205).toNat : Int))) + (wu64 (((BitVec.ofInt 64 p0 &&& BitVec.ofInt 64 6148914691236517205).toNat : Int))))) (2 ^ (min (2 : Int).toNat 64))) &&& BitVec.ofInt 64 3689348814741910323).toNat : Int))) + (wu64 (((BitVec.ofInt 64 (wu64 ((wu64 (((BitVec.ofInt 64 (Int.fdiv p0 (2 ^ (min (1 : Int).toNat 64))) &&& BitVec.ofInt 64 6148914691236517205).toNat : Int))) + (wu64 (((BitVec.ofInt 64 p0 &&& BitVec.ofInt 64 6148914691236517205).toNat : Int))))) &&& BitVec.ofInt 64 3689348814741910323).toNat : Int))))) (2 ^ (min (4 : Int).toNat 64))) + (wu64 ((wu64 (((BitVec.ofInt 64 (Int.fdiv (wu64 ((wu64 (((BitVec.ofInt 64 (Int.fdiv p0 (2 ^ (min (1 : Int).toNat 64))) &&& BitVec.ofInt 64 6148914691236517205).toNat : Int))) + (wu64 (((BitVec.ofInt 64 p0 &&& BitVec.ofInt 64 6148914691236517205).toNat : Int))))) (2 ^ (min (2 : Int).toNat 64))) &&& BitVec.ofInt 64 3689348814741910323).toNat : Int))) + (wu64 (((BitVec.ofInt 64 (wu64 ((wu64 (((BitVec.ofInt 64 (Int.fdiv p0 (2 ^ (min (1 : Int).toNat 64))) &&& BitVec.ofInt 64 6148914691236517205).toNat : Int))) + (wu64 (((BitVec.ofInt 64 p0 &&& BitVec.ofInt 64 6148914691236517205).toNat : Int))))) &&& BitVec.ofInt 64 3689348814741910323).toNat : Int))))))) &&& BitVec.ofInt 64 1085102592571150095).toNat : Int))) + (Int.fdiv (wu64 (((BitVec.ofInt 64 (wu64 ((Int.fdiv (wu64 ((wu64 (((BitVec.ofInt 64 (Int.fdiv (wu64 ((wu64 (((BitVec.ofInt 64 (Int.fdiv p0 (2 ^ (min (1 : Int).toNat 64))) &&& BitVec.ofInt 64 6148914691236517205).toNat : Int))) + (wu64 (((BitVec.ofInt 64 p0 &&& BitVec.ofInt 64 6148914691236517205).toNat : Int))))) (2 ^ (min (2 : Int).toNat 64))) &&& BitVec.ofInt 64 3689348814741910323).toNat : Int))) + (wu64 (((BitVec.ofInt 64 (wu64 ((wu64 (((BitVec.ofInt 64 (Int.fdiv p0 (2 ^ (min (1 : Int).toNat 64))) &&& BitVec.ofInt 64 6148914691236517205).toNat : Int))) + (wu64 (((BitVec.ofInt 64 p0 &&& BitVec.ofInt 64 6148914691236517205).toNat : Int))))) &&& BitVec.ofInt 64 3689348814741910323).toNat : Int))))) (2 ^ (min (4 : Int).toNat 64))) + (wu64 ((wu64 (((BitVec.ofInt 64 (Int.fdiv (wu64 ((wu64 (((BitVec.ofInt 64 (Int.fdiv p0 (2 ^ (min (1 : Int).toNat 64))) &&& BitVec.ofInt 64 6148914691236517205).toNat : Int))) + (wu64 (((BitVec.ofInt 64 p0 &&& BitVec.ofInt 64 6148914691236517205).toNat : Int))))) (2 ^ (min (2 : Int).toNat 64))) &&& BitVec.ofInt 64 3689348814741910323).toNat : Int))) + (wu64 (((BitVec.ofInt 64 (wu64 ((wu64 (((BitVec.ofInt 64 (Int.fdiv p0 (2 ^ (min (1 : Int).toNat 64))) &&& BitVec.ofInt 64 6148914691236517205).toNat : Int))) + (wu64 (((BitVec.ofInt 64 p0 &&& BitVec.ofInt 64 6148914691236517205).toNat : Int))))) &&& BitVec.ofInt 64 3689348814741910323).toNat : Int))))))) &&& BitVec.ofInt 64 1085102592571150095).toNat : Int))) (2 ^ (min (8 : Int).toNat 64))))) (2 ^ (min (16 : Int).toNat 64)))))), (2, .int .i64 0), (28, .int .u64 (wu64 ((wu64 ((wu64 (((BitVec.ofInt 64 (wu64 ((Int.fdiv (wu64 ((wu64 (((BitVec.ofInt 64 (Int.fdiv (wu64 ((wu64 (((BitVec.ofInt 64 (Int.fdiv p0 (2 ^ (min (1 : Int).toNat 64))) &&& BitVec.ofInt 64 6148914691236517205).toNat : Int))) + (wu64 (((BitVec.ofInt 64 p0 &&& BitVec.ofInt 64 6148914691236517205).toNat : Int))))) (2 ^ (min (2 : Int).toNat 64))) &&& BitVec.ofInt 64 3689348814741910323).toNat : Int))) + (wu64 (((BitVec.ofInt 64 (wu64 ((wu64 (((BitVec.ofInt 64 (Int.fdiv p0 (2 ^ (min (1 : Int).toNat 64))) &&& BitVec.ofInt 64 6148914691236517205).toNat : Int))) + (wu64 (((BitVec.ofInt 64 p0 &&& BitVec.ofInt 64 6148914691236517205).toNat : Int))))) &&& BitVec.ofInt 64 3689348814741910323).toNat : Int))))) (2 ^ (min (4 : Int).toNat 64))) + (wu64 ((wu64 (((BitVec.ofInt 64 (Int.fdiv (wu64 ((wu64 (((BitVec.ofInt 64 (Int.fdiv p0 (2 ^ (min (1 : Int).toNat 64))) &&& BitVec.ofInt 64 6148914691236517205).toNat : Int))) + (wu64 (((BitVec.ofInt 64 p0 &&& BitVec.ofInt 64 6148914691236517205).toNat : Int))))) (2 ^ (min (2 : Int).toNat 64))) &&& BitVec.ofInt 64 3689348814741910323).toNat : Int))) + (wu64 (((BitVec.ofInt 64 (wu64 ((wu64 (((BitVec.ofInt 64 (Int.fdiv p0 (2 ^ (min (1 : Int).toNat 64))) &&& BitVec.ofInt 64 6148914691236517205).toNat : Int))) + (wu64 (((BitVec.ofInt 64 p0 &&& BitVec.ofInt 64 6148914691236517205).toNat : Int))))) &&& BitVec.ofInt 64 3689348814741910323).toNat : Int))))))) &&& BitVec.ofInt 64 1085102592571150095).toNat : Int))) + (Int.fdiv (wu64 (((BitVec.ofInt 64 (wu64 ((Int.fdiv (wu64 ((wu64 (((BitVec.ofInt 64 (Int.fdiv (wu64 ((wu64 (((BitVec.ofInt 64 (Int.fdiv p0 (2 ^ (min (1 : Int).toNat 64))) &&& BitVec.ofInt 64 6148914691236517205).toNat : Int))) + (wu64 (((BitVec.ofInt 64 p0 &&& BitVec.ofInt 64 6148914691236517205).toNat : Int))))) (2 ^ (min (2 : Int).toNat 64))) &&& BitVec.ofInt 64 3689348814741910323).toNat : Int))) + (wu64 (((BitVec.ofInt 64 (wu64 ((wu64 (((BitVec.ofInt 64 (Int.fdiv p0 (2 ^ (min (1 : Int).toNat 64))) &&& BitVec.ofInt 64 6148914691236517205).toNat : Int))) + (wu64 (((BitVec.ofInt 64 p0 &&& BitVec.ofInt 64 6148914691236517205).toNat : Int))))) &&& BitVec.ofInt 64 3689348814741910323).toNat : Int))))) (2 ^ (min (4 : Int).toNat 64))) + (wu64 ((wu64 (((BitVec.ofInt 64 (Int.fdiv (wu64 ((wu64 (((BitVec.ofInt 64 (Int.fdiv p0 (2 ^ (min (1 : Int).toNat 64))) &&& BitVec.ofInt 64 6148914691236517205).toNat : Int))) + (wu64 (((BitVec.ofInt 64 p0 &&& BitVec.ofInt 64 6148914691236517205).toNat : Int))))) (2 ^ (min (2 : Int).toNat 64))) &&& BitVec.ofInt 64 3689348814741910323).toNat : Int))) + (wu64 (((BitVec.ofInt 64 (wu64 ((wu64 (((BitVec.ofInt 64 (Int.fdiv p0 (2 ^ (min (1 : Int).toNat 64))) &&& BitVec.ofInt 64 6148914691236517205).toNat : Int))) + (wu64 (((BitVec.ofInt 64 p0 &&& BitVec.ofInt 64 6148914691236517205).toNat : Int))))) &&& BitVec.ofInt 64 3689348814741910323).toNat : Int))))))) &&& BitVec.ofInt 64 1085102592571150095).toNat : Int))) (2 ^ (min (8 : Int).toNat 64))))) + (Int.fdiv (wu64 ((wu64 (((BitVec.ofInt 64 (wu64 ((Int.fdiv (wu64 ((wu64 (((BitVec.ofInt 64 (Int.fdiv (wu64 ((wu64 (((BitVec.ofInt 64 (Int.fdiv p0 (2 ^ (min (1 : Int).toNat 64))) &&& BitVec.ofInt 64 6148914691236517205).toNat : Int))) + (wu64 (((BitVec.ofInt 64 p0 &&& BitVec.ofInt 64 6148914691236517205).toNat : Int))))) (2 ^ (min (2 : Int).toNat 64))) &&& BitVec.ofInt 64 3689348814741910323).toNat : Int))) + (wu64 (((BitVec.ofInt 64 (wu64 ((wu64 (((BitVec.ofInt 64 (Int.fdiv p0 (2 ^ (min (1 : Int).toNat 64))) &&& BitVec.ofInt 64 6148914691236517205).toNat : Int))) + (wu64 (((BitVec.ofInt 64 p0 &&& BitVec.ofInt 64 6148914691236517205).toNat : Int))))) &&& BitVec.ofInt 64 3689348814741910323).toNat : Int))))) (2 ^ (min (4 : Int).toNat 64))) + (wu64 ((wu64 (((BitVec.ofInt 64 (Int.fdiv (wu64 ((wu64 (((BitVec.ofInt 64 (Int.fdiv p0 (2 ^ (min (1 : Int).toNat 64))) &&& BitVec.ofInt 64 6148914691236517205).toNat : Int))) + (wu64 (((BitVec.ofInt 64 p0 &&& BitVec.ofInt 64 6148914691236517205).toNat : Int))))) (2 ^ (min (2 : Int).toNat 64))) &&& BitVec.ofInt 64 3689348814741910323).toNat : Int))) + (wu64 (((BitVec.ofInt 64 (wu64 ((wu64 (((BitVec.ofInt 64 (Int.fdiv p0 (2 ^ (min (1 : Int).toNat 64))) &&& BitVec.ofInt 64 6148914691236517205).toNat : Int))) + (wu64 (((BitVec.ofInt 64 p0 &&& BitVec.ofInt 64 6148914691236517205).toNat : Int))))) &&& BitVec.ofInt 64 3689348814741910323).toNat : Int))))))) &&& BitVec.ofInt 64 1085102592571150095).toNat : Int))) + (Int.fdiv (wu64 (((BitVec.ofInt 64 (wu64 ((Int.fdiv (wu64 ((wu64 (((BitVec.ofInt 64 (Int.fdiv (wu64 ((wu64 (((BitVec.ofInt 64 (Int.fdiv p0 (2 ^ (min (1 : Int).toNat 64))) &&& BitVec.ofInt 64 6148914691236517205).toNat : Int))) + (wu64 (((BitVec.ofInt 64 p0 &&& BitVec.ofInt 64 6148914691236517205).toNat : Int))))) (2 ^ (min (2 : Int).toNat 64))) &&& BitVec.ofInt 64 3689348814741910323).toNat : Int))) + (wu64 (((BitVec.ofInt 64 (wu64 ((wu64 (((BitVec.ofInt 64 (Int.fdiv p0 (2 ^ (min (1 : Int).toNat 64))) &&& BitVec.ofInt 64 6148914691236517205).toNat : Int))) + (wu64 (((BitVec.ofInt 64 p0 &&& BitVec.ofInt 64 6148914691236517205).toNat : Int))))) &&& BitVec.ofInt 64 3689348814741910323).toNat : Int))))) (2 ^ (min (4 : Int).toNat 64))) + (wu64 ((wu64 (((BitVec.ofInt 64 (Int.fdiv (wu64 ((wu64 (((BitVec.ofInt 64 (Int.fdiv p0 (2 ^ (min (1 : Int).toNat 64))) &&& BitVec.ofInt 64 6148914691236517205).toNat : Int))) + (wu64 (((BitVec.ofInt 64 p0 &&& BitVec.ofInt 64 6148914691236517205).toNat : Int))))) (2 ^ (min (2 : Int).toNat 64))) &&& BitVec.ofInt 64 3689348814741910323).toNat : Int))) + (wu64 (((BitVec.ofInt 64 (wu64 ((wu64 (((BitVec.ofInt 64 (Int.fdiv p0 (2 ^ (min (1 : Int).toNat 64))) &&& BitVec.ofInt 64 6148914691236517205).toNat : Int))) + (wu64 (((BitVec.ofInt 64 p0 &&& BitVec.ofInt 64 6148914691236517205).toNat : Int))))) &&& BitVec.ofInt 64 3689348814741910323).toNat : Int))))))) &&& BitVec.ofInt 64 1085102592571150095).toNat : Int))) (2 ^ (min (8 : Int).toNat 64))))) (2 ^ (min (16 : Int).toNat 64)))))), (29, .int .u64 (wu64 ((wu64 ((wu64 (((BitVec.ofInt 64 (wu64 ((Int.fdiv (wu64 ((wu64 (((BitVec.ofInt 64 (Int.fdiv (wu64 ((wu64 (((BitVec.ofInt 64 (Int.fdiv p0 (2 ^ (min (1 : Int).toNat 64))) &&& BitVec.ofInt 64 6148914691236517205).toNat : Int))) + (wu64 (((BitVec.ofInt 64 p0 &&& BitVec.ofInt 64 6148914691236517205).toNat : Int))))) (2 ^ (min (2 : Int).toNat 64))) &&& BitVec.ofInt 64 3689348814741910323).toNat : Int))) + (wu64 (((BitVec.ofInt 64 (wu64 ((wu64 (((BitVec.ofInt 64 (Int.fdiv p0 (2 ^ (min (1 : Int).toNat 64))) &&& BitVec.ofInt 64 6148914691236517205).toNat : Int))) + (wu64 (((BitVec.ofInt 64 p0 &&& BitVec.ofInt 64 6148914691236517205).toNat : Int))))) &&& BitVec.ofInt 64 3689348814741910323).toNat : Int))))) (2 ^ (min (4 : Int).toNat 64))) + (wu64 ((wu64 (((BitVec.ofInt 64 (Int.fdiv (wu64 ((wu64 (((BitVec.ofInt 64 (Int.fdiv p0 (2 ^ (min (1 : Int).toNat 64))) &&& BitVec.ofInt 64 6148914691236517205).toNat : Int))) + (wu64 (((BitVec.ofInt 64 p0 &&& BitVec.ofInt 64 6148914691236517205).toNat : Int))))) (2 ^ (min (2 : Int).toNat 64))) &&& BitVec.ofInt 64 3689348814741910323).toNat : Int))) + (wu64 (((BitVec.ofInt 64 (wu64 ((wu64 (((BitVec.ofInt 64 (Int.fdiv p0 (2 ^ (min (1 : Int).toNat 64))) &&& BitVec.ofInt 64 6148914691236517205).toNat : Int))) + (wu64 (((BitVec.ofInt 64 p0 &&& BitVec.ofInt 64 6148914691236517205).toNat : Int))))) &&& BitVec.ofInt 64 3689348814741910323).toNat : Int))))))) &&& BitVec.ofInt 64 1085102592571150095).toNat : Int))) + (Int.fdiv (wu64 (((BitVec.ofInt 64 (wu64 ((Int.fdiv (wu64 ((wu64 (((BitVec.ofInt 64 (Int.fdiv (wu64 ((wu64 (((BitVec.ofInt 64 (Int.fdiv p0 (2 ^ (min (1 : Int).toNat 64))) &&& BitVec.ofInt 64 6148914691236517205).toNat : Int))) + (wu64 (((BitVec.ofInt 64 p0 &&& BitVec.ofInt 64 6148914691236517205).toNat : Int))))) (2 ^ (min (2 : Int).toNat 64))) &&& BitVec.ofInt 64 3689348814741910323).toNat : Int))) + (wu64 (((BitVec.ofInt 64 (wu64 ((wu64 (((BitVec.ofInt 64 (Int.fdiv p0 (2 ^ (min (1 : Int).toNat 64))) &&& BitVec.ofInt 64 6148914691236517205).toNat : Int))) + (wu64 (((BitVec.ofInt 64 p0 &&& BitVec.ofInt 64 6148914691236517205).toNat : Int))))) &&& BitVec.ofInt 64 3689348814741910323).toNat : Int))))) (2 ^ (min (4 : Int).toNat 64))) + (wu64 ((wu64 (((BitVec.ofInt 64 (Int.fdiv (wu64 ((wu64 (((BitVec.ofInt 64 (Int.fdiv p0 (2 ^ (min (1 : Int).toNat 64))) &&& BitVec.ofInt 64 6148914691236517205).toNat : Int))) + (wu64 (((BitVec.ofInt 64 p0 &&& BitVec.ofInt 64 6148914691236517205).toNat : Int))))) (2 ^ (min (2 : Int).toNat 64))) &&& BitVec.ofInt 64 3689348814741910323).toNat : Int))) + (wu64 (((BitVec.ofInt 64 (wu64 ((wu64 (((BitVec.ofInt 64 (Int.fdiv p0 (2 ^ (min (1 : Int).toNat 64))) &&& BitVec.ofInt 64 6148914691236517205).toNat : Int))) + (wu64 (((BitVec.ofInt 64 p0 &&& BitVec.ofInt 64 6148914691236517205).toNat : Int))))) &&& BitVec.ofInt 64 3689348814741910323).toNat : Int))))))) &&& BitVec.ofInt 64 1085102592571150095).toNat : Int))) (2 ^ (min (8 : Int).toNat 64))))) + (Int.fdiv (wu64 ((wu64 (((BitVec.ofInt 64 (wu64 ((Int.fdiv (wu64 ((wu64 (((BitVec.ofInt 64 (Int.fdiv (wu64 ((wu64 (((BitVec.ofInt 64 (Int.fdiv p0 (2 ^ (min (1 : Int).toNat 64))) &&& BitVec.ofInt 64 6148914691236517205).toNat : Int))) + (wu64 (((BitVec.ofInt 64 p0 &&& BitVec.ofInt 64 6148914691236517205).toNat : Int))))) (2 ^ (min (2 : Int).toNat 64))) &&& BitVec.ofInt 64 3689348814741910323).toNat : Int))) + (wu64 (((BitVec.ofInt 64 (wu64 ((wu64 (((BitVec.ofInt 64 (Int.fdiv p0 (2 ^ (min (1 : Int).toNat 64))) &&& BitVec.ofInt 64 6148914691236517205).toNat : Int))) + (wu64 (((BitVec.ofInt 64 p0 &&& BitVec.ofInt 64 6148914691236517205).toNat : Int))))) &&& BitVec.ofInt 64 3689348814741910323).toNat : Int))))) (2 ^ (min (4 : Int).toNat 64))) + (wu64 ((wu64 (((BitVec.ofInt 64 (Int.fdiv (wu64 ((wu64 (((BitVec.ofInt 64 (Int.fdiv p0 (2 ^ (min (1 : Int).toNat 64))) &&& BitVec.ofInt 64 6148914691236517205).toNat : Int))) + (wu64 (((BitVec.ofInt 64 p0 &&& BitVec.ofInt 64 6148914691236517205).toNat : Int))))) (2 ^ (min (2 : Int).toNat 64))) &&& BitVec.ofInt 64 3689348814741910323).toNat : Int))) + (wu64 (((BitVec.ofInt 64 (wu64 ((wu64 (((BitVec.ofInt 64 (Int.fdiv p0 (2 ^ (min (1 : Int).toNat 64))) &&& BitVec.ofInt 64 6148914691236517205).toNat : Int))) + (wu64 (((BitVec.ofInt 64 p0 &&& BitVec.ofInt 64 6148914691236517205).toNat : Int))))) &&& BitVec.ofInt 64 3689348814741910323).toNat : Int))))))) &&& BitVec.ofInt 64 1085102592571150095).toNat : Int))) + (Int.fdiv (wu64 (((BitVec.ofInt 64 (wu64 ((Int.fdiv (wu64 ((wu64 (((BitVec.ofInt 64 (Int.fdiv (wu64 ((wu64 (((BitVec.ofInt 64 (Int.fdiv p0 (2 ^ (min (1 : Int).toNat 64))) &&& BitVec.ofInt 64 6148914691236517205).toNat : Int))) + (wu64 (((BitVec.ofInt 64 p0 &&& BitVec.ofInt 64 6148914691236517205).toNat : Int))))) (2 ^ (min (2 : Int).toNat 64))) &&& BitVec.ofInt 64 3689348814741910323).toNat : Int))) + (wu64 (((BitVec.ofInt 64 (wu64 ((wu64 (((BitVec.ofInt 64 (Int.fdiv p0 (2 ^ (min (1 : Int).toNat 64))) &&& BitVec.ofInt 64 6148914691236517205).toNat : Int))) + (wu64 (((BitVec.ofInt 64 p0 &&& BitVec.ofInt 64 6148914691236517205).toNat : Int))))) &&& BitVec.ofInt 64 3689348814741910323).toNat : Int))))) (2 ^ (min (4 : Int).toNat 64))) + (wu64 ((wu64 (((BitVec.ofInt 64 (Int.fdiv (wu64 ((wu64 (((BitVec.ofInt 64 (Int.fdiv p0 (2 ^ (min (1 : Int).toNat 64))) &&& BitVec.ofInt 64 6148914691236517205).toNat : Int))) + (wu64 (((BitVec.ofInt 64 p0 &&& BitVec.ofInt 64 6148914691236517205).toNat : Int))))) (2 ^ (min (2 : Int).toNat 64))) &&& BitVec.ofInt 64 3689348814741910323).toNat : Int))) + (wu64 (((BitVec.ofInt 64 (wu64 ((wu64 (((BitVec.ofInt 64 (Int.fdiv p0 (2 ^ (min (1 : Int).toNat 64))) &&& BitVec.ofInt 64 6148914691236517205).toNat : Int))) + (wu64 (((BitVec.ofInt 64 p0 &&& BitVec.ofInt 64 6148914691236517205).toNat : Int))))) &&& BitVec.ofInt 64 3689348814741910323).toNat : Int))))))) &&& BitVec.ofInt 64 1085102592571150095).toNat : Int))) (2 ^ (min (8 : Int).toNat 64))))) (2 ^ (min (16 : Int).toNat 64))))))] rfl ⟨rfl, rfl, rfl, rfl, trivial⟩ ?_
  refine WO_shr rfl rfl rfl rfl rfl (by decide) ?_
  refine WO_pure tbok 2 [(0, .int .u64 (wu64 ((wu64 ((wu64 ((wu64 (((BitVec.ofInt 64 (wu64 ((Int.fdiv (wu64 ((wu64 (((BitVec.ofInt 64 (Int.fdiv (wu64 ((wu64 (((BitVec.ofInt 64 (Int.fdiv p0 (2 ^ (min (1 : Int).toNat 64))) &&& BitVec.ofInt 64 6148914691236517205).toNat : Int))) + (wu64 (((BitVec.ofInt 64 p0 &&& BitVec.ofInt 64 6148914691236517205).toNat : Int))))) (2 ^ (min (2 : Int).toNat 64))) &&& BitVec.ofInt 64 3689348814741910323).toNat : Int))) + (wu64 (((BitVec.ofInt 64 (wu64 ((wu64 (((BitVec.ofInt 64 (Int.fdiv p0 (2 ^ (min (1 : Int).toNat 64))) &&& BitVec.ofInt 64 6148914691236517205).toNat : Int))) + (wu64 (((BitVec.ofInt 64 p0 &&& BitVec.ofInt 64 6148914691236517205).toNat : Int))))) &&& BitVec.ofInt 64 3689348814741910323).toNat : Int))))) (2 ^ (min (4 : Int).toNat 64))) + (wu64 ((wu64 (((BitVec.ofInt 64 (Int.fdiv (wu64 ((wu64 (((BitVec.ofInt 64 (Int.fdiv p0 (2 ^ (min (1 : Int).toNat 64))) &&& BitVec.ofInt 64 6148914691236517205).toNat : Int))) + (wu64 (((BitVec.ofInt 64 p0 &&& BitVec.ofInt 64 6148914691236517205).toNat : Int))))) (2 ^ (min (2 : Int).toNat 64))) &&& BitVec.ofInt 64 3689348814741910323).toNat : Int))) + (wu64 (((BitVec.ofInt 64 (wu64 ((wu64 (((BitVec.ofInt 64 (Int.fdiv p0 (2 ^ (min (1 : Int).toNat 64))) &&& BitVec.ofInt 64 6148914691236517205).toNat : Int))) + (wu64 (((BitVec.ofInt 64 p0 &&& BitVec.ofInt 64 6148914691236517205).toNat : Int))))) &&& BitVec.ofInt 64 3689348814741910323).toNat : Int))))))) &&& BitVec.ofInt 64 1085102592571150095).toNat : Int))) + (Int.fdiv (wu64 (((BitVec.ofInt 64 (wu64 ((Int.fdiv (wu64 ((wu64 (((BitVec.ofInt 64 (Int.fdiv (wu64 ((wu64 (((BitVec.ofInt 64 (Int.fdiv p0 (2 ^ (min (1 : Int).toNat 64))) &&& BitVec.ofInt 64 6148914691236517205).toNat : Int))) + (wu64 (((BitVec.ofInt 64 p0 &&& BitVec.ofInt 64 6148914691236517205).toNat : Int))))) (2 ^ (min (2 : Int).toNat 64))) &&& BitVec.ofInt 64 3689348814741910323).toNat : Int))) + (wu64 (((BitVec.ofInt 64 (wu64 ((wu64 (((BitVec.ofInt 64 (Int.fdiv p0 (2 ^ (min (1 : Int).toNat 64))) &&& BitVec.ofInt 64 6148914691236517205).toNat : Int))) + (wu64 (((BitVec.ofInt 64 p0 &&& BitVec.ofInt 64 6148914691236517205).toNat : Int))))) &&& BitVec.ofInt 64 3689348814741910323).toNat : Int))))) (2 ^ (min (4 : Int).toNat 64))) + (wu64 ((wu64 (((BitVec.ofInt 64 (Int.fdiv (wu64 ((wu64 (((BitVec.ofInt 64 (Int.fdiv p0 (2 ^ (min (1 : Int).toNat 64))) &&& BitVec.ofInt 64 6148914691236517205).toNat : Int))) + (wu64 (((BitVec.ofInt 64 p0 &&& BitVec.ofInt 64 6148914691236517205).toNat : Int))))) (2 ^ (min (2 : Int).toNat 64))) &&& BitVec.ofInt 64 3689348814741910323).toNat : Int))) + (wu64 (((BitVec.ofInt 64 (wu64 ((wu64 (((BitVec.ofInt 64 (Int.fdiv p0 (2 ^ (min (1 : Int).toNat 64))) &&& BitVec.ofInt 64 6148914691236517205).toNat : Int))) + (wu64 (((BitVec.ofInt 64 p0 &&& BitVec.ofInt 64 6148914691236517205).toNat : Int))))) &&& BitVec.ofInt 64 3689348814741910323).toNat : Int))))))) &&& BitVec.ofInt 64 1085102592571150095).toNat : Int))) (2 ^ (min (8 : Int).toNat 64))))) + (Int.fdiv (wu64 ((wu64 (((BitVec.ofInt 64 (wu64 ((Int.fdiv (wu64 ((wu64 (((BitVec.ofInt 64 (Int.fdiv (wu64 ((wu64 (((BitVec.ofInt 64 (Int.fdiv p0 (2 ^ (min (1 : Int).toNat 64))) &&& BitVec.ofInt 64 6148914691236517205).toNat : Int))) + (wu64 (((BitVec.ofInt 64 p0 &&& BitVec.ofInt 64 6148914691236517205).toNat : Int))))) (2 ^ (min (2 : Int).toNat 64))) &&& BitVec.ofInt 64 3689348814741910323).toNat : Int))) + (wu64 (((BitVec.ofInt 64 (wu64 ((wu64 (((BitVec.ofInt 64 (Int.fdiv p0 (2 ^ (min (1 : Int).toNat 64))) &&& BitVec.ofInt 64 6148914691236517205).toNat : Int))) + (wu64 (((BitVec.ofInt 64 p0 &&& BitVec.ofInt 64 6148914691236517205).toNat : Int))))) &&& BitVec.ofInt 64 3689348814741910323).toNat : Int))))) (2 ^ (min (4 : Int).toNat 64))) + (wu64 ((wu64 (((BitVec.ofInt 64 (Int.fdiv (wu64 ((wu64 (((BitVec.ofInt 64 (Int.fdiv p0 (2 ^ (min (1 : Int).toNat 64))) &&& BitVec.ofInt 64 6148914691236517205).toNat : Int))) + (wu64 (((BitVec.ofInt 64 p0 &&& BitVec.ofInt 64 6148914691236517205).toNat : Int))))) (2 ^ (min (2 : Int).toNat 64))) &&& BitVec.ofInt 64 3689348814741910323).toNat : Int))) + (wu64 (((BitVec.ofInt 64 (wu64 ((wu64 (((BitVec.ofInt 64 (Int.fdiv p0 (2 ^ (min (1 : Int).toNat 64))) &&& BitVec.ofInt 64 6148914691236517205).toNat : Int))) + (wu64 (((BitVec.ofInt 64 p0 &&& BitVec.ofInt 64 6148914691236517205).toNat : Int))))) &&& BitVec.ofInt 64 3689348814741910323).toNat : Int))))))) &&& BitVec.ofInt 64 1085102592571150095).toNat : Int))) + (Int.fdiv (wu64 (((BitVec.ofInt 64 (wu64 ((Int.fdiv (wu64 ((wu64 (((BitVec.ofInt 64 (Int.fdiv (wu64 ((wu64 (((BitVec.ofInt 64 (Int.fdiv p0 (2 ^ (min (1 : Int).toNat 64))) &&& BitVec.ofInt 64 6148914691236517205).toNat : Int))) + (wu64 (((BitVec.ofInt 64 p0 &&& BitVec.ofInt 64 6148914691236517205).toNat : Int))))) (2 ^ (min (2 : Int).toNat 64))) &&& BitVec.ofInt 64 3689348814741910323).toNat : Int))) + (wu64 (((BitVec.ofInt 64 (wu64 ((wu64 (((BitVec.ofInt 64 (Int.fdiv p0 (2 ^ (min (1 : Int).toNat 64))) &&& BitVec.ofInt 64 6148914691236517205).toNat : Int))) + (wu64 (((BitVec.ofInt 64 p0 &&& BitVec.ofInt 64 6148914691236517205).toNat : Int))))) &&& BitVec.ofInt 64 3689348814741910323).toNat : Int))))) (2 ^ (min (4 : Int).toNat 64))) + (wu64 ((wu64 (((BitVec.ofInt 64 (Int.fdiv (wu64 ((wu64 (((BitVec.ofInt 64 (Int.fdiv p0 (2 ^ (min (1 : Int).toNat 64))) &&& BitVec.ofInt 64 6148914691236517205).toNat : Int))) + (wu64 (((BitVec.ofInt 64 p0 &&& BitVec.ofInt 64 6148914691236517205).toNat : Int))))) (2 ^ (min (2 : Int).toNat 64))) &&& BitVec.ofInt 64 3689348814741910323).toNat : Int))) + (wu64 (((BitVec.ofInt 64 (wu64 ((wu64 (((BitVec.ofInt 64 (Int.fdiv p0 (2 ^ (min (1 : Int).toNat 64))) &&& BitVec.ofInt 64 6148914691236517205).toNat : Int))) + (wu64 (((BitVec.ofInt 64 p0 &&& BitVec.ofInt 64 6148914691236517205).toNat : Int))))) &&& BitVec.ofInt 64 3689348814741910323).toNat : Int))))))) &&& BitVec.ofInt 64 1085102592571150095).toNat : Int))) (2 ^ (min (8 : Int).toNat 64))))) (2 ^ (min (16 : Int).toNat 64))))) + (Int.fdiv (wu64 ((wu64 ((wu64 (((BitVec.ofInt 64 (wu64 ((Int.fdiv (wu64 ((wu64 (((BitVec.ofInt 64 (Int.fdiv (wu64 ((wu64 (((BitVec.ofInt 64 (Int.fdiv p0 (2 ^ (min (1 : Int).toNat 64))) &&& BitVec.ofInt 64 6148914691236517205).toNat : Int))) + (wu64 (((BitVec.ofInt 64 p0 &&& BitVec.ofInt 64 6148914691236517205).toNat : Int))))) (2 ^ (min (2 : Int).toNat 64))) &&& BitVec.ofInt 64 3689348814741910323).toNat : Int))) + (wu64 (((BitVec.ofInt 64 (wu64 ((wu64 (((BitVec.ofInt 64 (Int.fdiv p0 (2 ^ (min (1 : Int).toNat 64))) &&& BitVec.ofInt 64 6148914691236517205).toNat : Int))) + (wu64 (((BitVec.ofInt 64 p0 &&& BitVec.ofInt 64 6148914691236517205).toNat : Int))))) &&& BitVec.ofInt 64 3689348814741910323).toNat : Int))))) (2 ^ (min (4 : Int).toNat 64))) + (wu64 ((wu64 (((BitVec.ofInt 64 (Int.fdiv (wu64 ((wu64 (((BitVec.ofInt 64 (Int.fdiv p0 (2 ^ (min (1 : Int).toNat 64))) &&& BitVec.ofInt 64 6148914691236517205).toNat : Int))) + (wu64 (((BitVec.ofInt 64 p0 &&& BitVec.ofInt 64 6148914691236517205).toNat : Int))))) (2 ^ (min (2 : Int).toNat 64))) &&& BitVec.ofInt 64 3689348814741910323).toNat : Int))) + (wu64 (((BitVec.ofInt 64 (wu64 ((wu64 (((BitVec.ofInt 64 (Int.fdiv p0 (2 ^ (min (1 : Int).toNat 64))) &&& BitVec.ofInt 64 6148914691236517205).toNat : Int))) + (wu64 (((BitVec.ofInt 64 p0 &&& BitVec.ofInt 64 6148914691236517205).toNat : Int))))) &&& BitVec.ofInt 64 3689348814741910323).toNat : Int))))))) &&& BitVec.ofInt 64 1085102592571150095).toNat : Int))) + (Int.fdiv (wu64 (((BitVec.ofInt 64 (wu64 ((Int.fdiv (wu64 ((wu64 (((BitVec.ofInt 64 (Int.fdiv (wu64 ((wu64 (((BitVec.ofInt 64 (Int.fdiv p0 (2 ^ (min (1 : Int).toNat 64))) &&& BitVec.ofInt 64 6148914691236517205).toNat : Int))) + (wu64 (((BitVec.ofInt 64 p0 &&& BitVec.ofInt 64 6148914691236517205).toNat : Int))))) (2 ^ (min (2 : Int).toNat 64))) &&& BitVec.ofInt 64 3689348814741910323).toNat : Int))) + (wu64 (((BitVec.ofInt 64 (wu64 ((wu64 (((BitVec.ofInt 64 (Int.fdiv p0 (2 ^ (min (1 : Int).toNat 64))) &&& BitVec.ofInt 64 6148914691236517205).toNat : Int))) + (wu64 (((BitVec.ofInt 64 p0 &&& BitVec.ofInt 64 6148914691236517205).toNat : Int))))) &&& BitVec.ofInt 64 3689348814741910323).toNat : Int))))) (2 ^ (min (4 : Int).toNat 64))) + (wu64 ((wu64 (((BitVec.ofInt 64 (Int.fdiv (wu64 ((wu64 (((BitVec.ofInt 64 (Int.fdiv p0 (2 ^ (min (1 : Int).toNat 64))) &&& BitVec.ofInt 64 6148914691236517205).toNat : Int))) + (wu64 (((BitVec.ofInt 64 p0 &&& BitVec.ofInt 64 6148914691236517205).toNat : Int))))) (2 ^ (min (2 : Int).toNat 64))) &&& BitVec.ofInt 64 3689348814741910323).toNat : Int))) + (wu64 (((BitVec.ofInt 64 (wu64 ((wu64 (((BitVec.ofInt 64 (Int.fdiv p0 (2 ^ (min (1 : Int).toNat 64))) &&& BitVec.ofInt 64 6148914691236517205).toNat : Int))) + (wu64 (((BitVec.ofInt 64 p0 &&& BitVec.ofInt 64 6148914691236517205).toNat : Int))))) &&& BitVec.ofInt 64 3689348814741910323).toNat : Int))))))) &&& BitVec.ofInt 64 1085102592571150095).toNat : Int))) (2 ^ (min (8 : Int).toNat 64))))) + (Int.fdiv (wu64 ((wu64 (((BitVec.ofInt 64 (wu64 ((Int.fdiv (wu64 ((wu64 (((BitVec.ofInt 64 (Int.fdiv (wu64 ((wu64 (((BitVec.ofInt 64 (Int.fdiv p0 (2 ^ (min (1 : Int).toNat 64))) &&& BitVec.ofInt 64 6148914691236517205).toNat : Int))) + (wu64 (((BitVec.ofInt 64 p0 &&& BitVec.ofInt 64 6148914691236517205).toNat : Int))))) (2 ^ (min (2 : Int).toNat 64))) &&& BitVec.ofInt 64 3689348814741910323).toNat : Int))) + (wu64 (((BitVec.ofInt 64 (wu64 ((wu64 (((BitVec.ofInt 64 (Int.fdiv p0 (2 ^ (min (1 : Int).toNat 64))) &&& BitVec.ofInt 64 6148914691236517205).toNat : Int))) + (wu64 (((BitVec.ofInt 64 p0 &&& BitVec.ofInt 64 6148914691236517205).toNat : Int))))) &&& BitVec.ofInt 64 3689348814741910323).toNat : Int))))) (2 ^ (min (4 : Int).toNat 64))) + (wu64 ((wu64 (((BitVec.ofInt 64 (Int.fdiv (wu64 ((wu64 (((BitVec.ofInt 64 (Int.fdiv p0 (2 ^ (min (1 : Int).toNat 64))) &&& BitVec.ofInt 64 6148914691236517205).toNat : Int))) + (wu64 (((BitVec.ofInt 64 p0 &&& BitVec.ofInt 64 6148914691236517205).toNat : Int))))) (2 ^ (min (2 : Int).toNat 64))) &&& BitVec.ofInt 64 3689348814741910323).toNat : Int))) + (wu64 (((BitVec.ofInt 64 (wu64 ((wu64 (((BitVec.ofInt 64 (Int.fdiv p0 (2 ^ (min (1 : Int).toNat 64))) &&& BitVec.ofInt 64 6148914691236517205).toNat : Int))) + (wu64 (((BitVec.ofInt 64 p0 &&& BitVec.ofInt 64 6148914691236517205).toNat : Int))))) &&& BitVec.ofInt 64 3689348814741910323).toNat : Int))))))) &&& BitVec.ofInt 64 1085102592571150095).toNat : Int))) + (Int.fdiv (wu64 (((BitVec.ofInt 64 (wu64 ((Int.fdiv (wu64 ((wu64 (((BitVec.ofInt 64 (Int.fdiv (wu64 ((wu64 (((BitVec.ofInt 64 (Int.fdiv p0 (2 ^ (min (1 : Int).toNat 64))) &&& BitVec.ofInt 64 6148914691236517205).toNat : Int))) + (wu64 (((BitVec.ofInt 64 p0 &&& BitVec.ofInt 64 6148914691236517205).toNat : Int))))) (2 ^ (min (2 : Int).toNat 64))) &&& BitVec.ofInt 64 3689348814741910323).toNat : Int))) + (wu64 (((BitVec.ofInt 64 (wu64 ((wu64 (((BitVec.ofInt 64 (Int.fdiv p0 (2 ^ (min (1 : Int).toNat 64))) &&& BitVec.ofInt 64 6148914691236517205).toNat : Int))) + (wu64 (((BitVec.ofInt 64 p0 &&& BitVec.ofInt 64 6148914691236517205).toNat : Int))))) &&& BitVec.ofInt 64 3689348814741910323).toNat : Int))))) (2 ^ (min (4 : Int).toNat 64))) + (wu64 ((wu64 (((BitVec.ofInt 64 (Int.fdiv (wu64 ((wu64 (((BitVec.ofInt 64 (Int.fdiv p0 (2 ^ (min (1 : Int).toNat 64))) &&& BitVec.ofInt 64 6148914691236517205).toNat : Int))) + (wu64 (((BitVec.ofInt 64 p0 &&& BitVec.ofInt 64 6148914691236517205).toNat : Int))))) (2 ^ (min (2 : Int).toNat 64))) &&& BitVec.ofInt 64 3689348814741910323).toNat : Int))) + (wu64 (((BitVec.ofInt 64 (wu64 ((wu64 (((BitVec.ofInt 64 (Int.fdiv p0 (2 ^ (min (1 : Int).toNat 64))) &&& BitVec.ofInt 64 6148914691236517205).toNat : Int))) + (wu64 (((BitVec.ofInt 64 p0 &&& BitVec.ofInt 64 6148914691236517205).toNat : Int))))) &&& BitVec.ofInt 64 3689348814741910323).toNat : Int))))))) &&& BitVec.ofInt 64 1085102592571150095).toNat : Int))) (2 ^ (min (8 : Int).toNat 64))))) (2 ^ (min (16 : Int).toNat 64))))) (2 ^ (min (32 : Int).toNat 64)))))), (2, .int .i64 0)] rfl ⟨rfl, rfl, trivial⟩ ?_
  refine WO_end ?_
  refine WK_seq ?_
  refine WK_region ?_
  refine WO_pure tbok 4 [(2, .int .i64 (w64 (((BitVec.ofInt 64 (w64 (wu64 ((wu64 ((wu64 ((wu64 (((BitVec.ofInt 64 (wu64 ((Int.fdiv (wu64 ((wu64 (((BitVec.ofInt 64 (Int.fdiv (wu64 ((wu64 (((BitVec.ofInt 64 (Int.fdiv p0 (2 ^ (min (1 : Int).toNat 64))) &&& BitVec.ofInt 64 6148914691236517205).toNat : Int))) + (wu64 (((BitVec.ofInt 64 p0 &&& BitVec.ofInt 64 6148914691236517205).toNat : Int))))) (2 ^ (min (2 : Int).toNat 64))) &&& BitVec.ofInt 64 3689348814741910323).toNat : Int))) + (wu64 (((BitVec.ofInt 64 (wu64 ((wu64 (((BitVec.ofInt 64 (Int.fdiv p0 (2 ^ (min (1 : Int).toNat 64))) &&& BitVec.ofInt 64 6148914691236517205).toNat : Int))) + (wu64 (((BitVec.ofInt 64 p0 &&& BitVec.ofInt 64 6148914691236517205).toNat : Int))))) &&& BitVec.ofInt 64 3689348814741910323).toNat : Int))))) (2 ^ (min (4 : Int).toNat 64))) + (wu64 ((wu64 (((BitVec.ofInt 64 (Int.fdiv (wu64 ((wu64 (((BitVec.ofInt 64 (Int.fdiv p0 (2 ^ (min (1 : Int).toNat 64))) &&& BitVec.ofInt 64 6148914691236517205).toNat : Int))) + (wu64 (((BitVec.ofInt 64 p0 &&& BitVec.ofInt 64 6148914691236517205).toNat : Int))))) (2 ^ (min (2 : Int).toNat 64))) &&& BitVec.ofInt 64 3689348814741910323).toNat : Int))) + (wu64 (((BitVec.ofInt 64 (wu64 ((wu64 (((BitVec.ofInt 64 (Int.fdiv p0 (2 ^ (min (1 : Int).toNat 64))) &&& BitVec.ofInt 64 6148914691236517205).toNat : Int))) + (wu64 (((BitVec.ofInt 64 p0 &&& BitVec.ofInt 64 6148914691236517205).toNat : Int))))) &&& BitVec.ofInt 64 3689348814741910323).toNat : Int))))))) &&& BitVec.ofInt 64 1085102592571150095).toNat : Int))) + (Int.fdiv (wu64 (((BitVec.ofInt 64 (wu64 ((Int.fdiv (wu64 ((wu64 (((BitVec.ofInt 64 (Int.fdiv (wu64 ((wu64 (((BitVec.ofInt 64 (Int.fdiv p0 (2 ^ (min (1 : Int).toNat 64))) &&& BitVec.ofInt 64 6148914691236517205).toNat : Int))) + (wu64 (((BitVec.ofInt 64 p0 &&& BitVec.ofInt 64 6148914691236517205).toNat : Int))))) (2 ^ (min (2 : Int).toNat 64))) &&& BitVec.ofInt 64 3689348814741910323).toNat : Int))) + (wu64 (((BitVec.ofInt 64 (wu64 ((wu64 (((BitVec.ofInt 64 (Int.fdiv p0 (2 ^ (min (1 : Int).toNat 64))) &&& BitVec.ofInt 64 6148914691236517205).toNat : Int))) + (wu64 (((BitVec.ofInt 64 p0 &&& BitVec.ofInt 64 6148914691236517205).toNat : Int))))) &&& BitVec.ofInt 64 3689348814741910323).toNat : Int))))) (2 ^ (min (4 : Int).toNat 64))) + (wu64 ((wu64 (((BitVec.ofInt 64 (Int.fdiv (wu64 ((wu64 (((BitVec.ofInt 64 (Int.fdiv p0 (2 ^ (min (1 : Int).toNat 64))) &&& BitVec.ofInt 64 6148914691236517205).toNat : Int))) + (wu64 (((BitVec.ofInt 64 p0 &&& BitVec.ofInt 64 6148914691236517205).toNat : Int))))) (2 ^ (min (2 : Int).toNat 64))) &&& BitVec.ofInt 64 3689348814741910323).toNat : Int))) + (wu64 (((BitVec.ofInt 64 (wu64 ((wu64 (((BitVec.ofInt 64 (Int.fdiv p0 (2 ^ (min (1 : Int).toNat 64))) &&& BitVec.ofInt 64 6148914691236517205).toNat : Int))) + (wu64 (((BitVec.ofInt 64 p0 &&& BitVec.ofInt 64 6148914691236517205).toNat : Int))))) &&& BitVec.ofInt 64 3689348814741910323).toNat : Int))))))) &&& BitVec.ofInt 64 1085102592571150095).toNat : Int))) (2 ^ (min (8 : Int).toNat 64))))) + (Int.fdiv (wu64 ((wu64 (((BitVec.ofInt 64 (wu64 ((Int.fdiv (wu64 ((wu64 (((BitVec.ofInt 64 (Int.fdiv (wu64 ((wu64 (((BitVec.ofInt 64 (Int.fdiv p0 (2 ^ (min (1 : Int).toNat 64))) &&& BitVec.ofInt 64 6148914691236517205).toNat : Int))) + (wu64 (((BitVec.ofInt 64 p0 &&& BitVec.ofInt 64 6148914691236517205).toNat : Int))))) (2 ^ (min (2 : Int).toNat 64))) &&& BitVec.ofInt 64 3689348814741910323).toNat : Int))) + (wu64 (((BitVec.ofInt 64 (wu64 ((wu64 (((BitVec.ofInt 64 (Int.fdiv p0 (2 ^ (min (1 : Int).toNat 64))) &&& BitVec.ofInt 64 6148914691236517205).toNat : Int))) + (wu64 (((BitVec.ofInt 64 p0 &&& BitVec.ofInt 64 6148914691236517205).toNat : Int))))) &&& BitVec.ofInt 64 3689348814741910323).toNat : Int))))) (2 ^ (min (4 : Int).toNat 64))) + (wu64 ((wu64 (((BitVec.ofInt 64 (Int.fdiv (wu64 ((wu64 (((BitVec.ofInt 64 (Int.fdiv p0 (2 ^ (min (1 : Int).toNat 64))) &&& BitVec.ofInt 64 6148914691236517205).toNat : Int))) + (wu64 (((BitVec.ofInt 64 p0 &&& BitVec.ofInt 64 6148914691236517205).toNat : Int))))) (2 ^ (min (2 : Int).toNat 64))) &&& BitVec.ofInt 64 3689348814741910323).toNat : Int))) + (wu64 (((BitVec.ofInt 64 (wu64 ((wu64 (((BitVec.ofInt 64 (Int.fdiv p0 (2 ^ (min (1 : Int).toNat 64))) &&& BitVec.ofInt 64 6148914691236517205).toNat : Int))) + (wu64 (((BitVec.ofInt 64 p0 &&& BitVec.ofInt 64 6148914691236517205).toNat : Int))))) &&& BitVec.ofInt 64 3689348814741910323).toNat : Int))))))) &&& BitVec.ofInt 64 1085102592571150095).toNat : Int))) + (Int.fdiv (wu64 (((BitVec.ofInt 64 (wu64 ((Int.fdiv (wu64 ((wu64 (((BitVec.ofInt 64 (Int.fdiv (wu64 ((wu64 (((BitVec.ofInt 64 (Int.fdiv p0 (2 ^ (min (1 : Int).toNat 64))) &&& BitVec.ofInt 64 6148914691236517205).toNat : Int))) + (wu64 (((BitVec.ofInt 64 p0 &&& BitVec.ofInt 64 6148914691236517205).toNat : Int))))) (2 ^ (min (2 : Int).toNat 64))) &&& BitVec.ofInt 64 3689348814741910323).toNat : Int))) + (wu64 (((BitVec.ofInt 64 (wu64 ((wu64 (((BitVec.ofInt 64 (Int.fdiv p0 (2 ^ (min (1 : Int).toNat 64))) &&& BitVec.ofInt 64 6148914691236517205).toNat : Int))) + (wu64 (((BitVec.ofInt 64 p0 &&& BitVec.ofInt 64 6148914691236517205).toNat : Int))))) &&& BitVec.ofInt 64 3689348814741910323).toNat : Int))))) (2 ^ (min (4 : Int).toNat 64))) + (wu64 ((wu64 (((BitVec.ofInt 64 (Int.fdiv (wu64 ((wu64 (((BitVec.ofInt 64 (Int.fdiv p0 (2 ^ (min (1 : Int).toNat 64))) &&& BitVec.ofInt 64 6148914691236517205).toNat : Int))) + (wu64 (((BitVec.ofInt 64 p0 &&& BitVec.ofInt 64 6148914691236517205).toNat : Int))))) (2 ^ (min (2 : Int).toNat 64))) &&& BitVec.ofInt 64 3689348814741910323).toNat : Int))) + (wu64 (((BitVec.ofInt 64 (wu64 ((wu64 (((BitVec.ofInt 64 (Int.fdiv p0 (2 ^ (min (1 : Int).toNat 64))) &&& BitVec.ofInt 64 6148914691236517205).toNat : Int))) + (wu64 (((BitVec.ofInt 64 p0 &&& BitVec.ofInt 64 6148914691236517205).toNat : Int))))) &&& BitVec.ofInt 64 3689348814741910323).toNat : Int))))))) &&& BitVec.ofInt 64 1085102592571150095).toNat : Int))) (2 ^ (min (8 : Int).toNat 64))))) (2 ^ (min (16 : Int).toNat 64))))) + (Int.fdiv (wu64 ((wu64 ((wu64 (((BitVec.ofInt 64 (wu64 ((Int.fdiv (wu64 ((wu64 (((BitVec.ofInt 64 (Int.fdiv (wu64 ((wu64 (((BitVec.ofInt 64 (Int.fdiv p0 (2 ^ (min (1 : Int).toNat 64))) &&& BitVec.ofInt 64 6148914691236517205).toNat : Int))) + (wu64 (((BitVec.ofInt 64 p0 &&& BitVec.ofInt 64 6148914691236517205).toNat : Int))))) (2 ^ (min (2 : Int).toNat 64))) &&& BitVec.ofInt 64 3689348814741910323).toNat : Int))) + (wu64 (((BitVec.ofInt 64 (wu64 ((wu64 (((BitVec.ofInt 64 (Int.fdiv p0 (2 ^ (min (1 : Int).toNat 64))) &&& BitVec.ofInt 64 6148914691236517205).toNat : Int))) + (wu64 (((BitVec.ofInt 64 p0 &&& BitVec.ofInt 64 6148914691236517205).toNat : Int))))) &&& BitVec.ofInt 64 3689348814741910323).toNat : Int))))) (2 ^ (min (4 : Int).toNat 64))) + (wu64 ((wu64 (((BitVec.ofInt 64 (Int.fdiv (wu64 ((wu64 (((BitVec.ofInt 64 (Int.fdiv p0 (2 ^ (min (1 : Int).toNat 64))) &&& BitVec.ofInt 64 6148914691236517205).toNat : Int))) + (wu64 (((BitVec.ofInt 64 p0 &&& BitVec.ofInt 64 6148914691236517205).toNat : Int))))) (2 ^ (min (2 : Int).toNat 64))) &&& BitVec.ofInt 64 3689348814741910323).toNat : Int))) + (wu64 (((BitVec.ofInt 64 (wu64 ((wu64 (((BitVec.ofInt 64 (Int.fdiv p0 (2 ^ (min (1 : Int).toNat 64))) &&& BitVec.ofInt 64 6148914691236517205).toNat : Int))) + (wu64 (((BitVec.ofInt 64 p0 &&& BitVec.ofInt 64 6148914691236517205).toNat : Int))))) &&& BitVec.ofInt 64 3689348814741910323).toNat : Int))))))) &&& BitVec.ofInt 64 1085102592571150095).toNat : Int))) + (Int.fdiv (wu64 (((BitVec.ofInt 64 (wu64 ((Int.fdiv (wu64 ((wu64 (((BitVec.ofInt 64 (Int.fdiv (wu64 ((wu64 (((BitVec.ofInt 64 (Int.fdiv p0 (2 ^ (min (1 : Int).toNat 64))) &&& BitVec.ofInt 64 6148914691236517205).toNat : Int))) + (wu64 (((BitVec.ofInt 64 p0 &&& BitVec.ofInt 64 6148914691236517205).toNat : Int))))) (2 ^ (min (2 : Int).toNat 64))) &&& BitVec.ofInt 64 3689348814741910323).toNat : Int))) + (wu64 (((BitVec.ofInt 64 (wu64 ((wu64 (((BitVec.ofInt 64 (Int.fdiv p0 (2 ^ (min (1 : Int).toNat 64))) &&& BitVec.ofInt 64 6148914691236517205).toNat : Int))) + (wu64 (((BitVec.ofInt 64 p0 &&& BitVec.ofInt 64 6148914691236517205).toNat : Int))))) &&& BitVec.ofInt 64 3689348814741910323).toNat : Int))))) (2 ^ (min (4 : Int).toNat 64))) + (wu64 ((wu64 (((BitVec.ofInt 64 (Int.fdiv (wu64 ((wu64 (((BitVec.ofInt 64 (Int.fdiv p0 (2 ^ (min (1 : Int).toNat 64))) &&& BitVec.ofInt 64 6148914691236517205).toNat : Int))) + (wu64 (((BitVec.ofInt 64 p0 &&& BitVec.ofInt 64 6148914691236517205).toNat : Int))))) (2 ^ (min (2 : Int).toNat 64))) &&& BitVec.ofInt 64 3689348814741910323).toNat : Int))) + (wu64 (((BitVec.ofInt 64 (wu64 ((wu64 (((BitVec.ofInt 64 (Int.fdiv p0 (2 ^ (min (1 : Int).toNat 64))) &&& BitVec.ofInt 64 6148914691236517205).toNat : Int))) + (wu64 (((BitVec.ofInt 64 p0 &&& BitVec.ofInt 64 6148914691236517205).toNat : Int))))) &&& BitVec.ofInt 64 3689348814741910323).toNat : Int))))))) &&& BitVec.ofInt 64 1085102592571150095).toNat : Int))) (2 ^ (min (8 : Int).toNat 64))))) + (Int.fdiv (wu64 ((wu64 (((BitVec.ofInt 64 (wu64 ((Int.fdiv (wu64 ((wu64 (((BitVec.ofInt 64 (Int.fdiv (wu64 ((wu64 (((BitVec.ofInt 64 (Int.fdiv p0 (2 ^ (min (1 : Int).toNat 64))) &&& BitVec.ofInt 64 6148914691236517205).toNat : Int))) + (wu64 (((BitVec.ofInt 64 p0 &&& BitVec.ofInt 64 6148914691236517205).toNat : Int))))) (2 ^ (min (2 : Int).toNat 64))) &&& BitVec.ofInt 64 3689348814741910323).toNat : Int))) + (wu64 (((BitVec.ofInt 64 (wu64 ((wu64 (((BitVec.ofInt 64 (Int.fdiv p0 (2 ^ (min (1 : Int).toNat 64))) &&& BitVec.ofInt 64 6148914691236517205).toNat : Int))) + (wu64 (((BitVec.ofInt 64 p0 &&& BitVec.ofInt 64 6148914691236517205).toNat : Int))))) &&& BitVec.ofInt 64 3689348814741910323).toNat : Int))))) (2 ^ (min (4 : Int).toNat 64))) + (wu64 ((wu64 (((BitVec.ofInt 64 (Int.fdiv (wu64 ((wu64 (((BitVec.ofInt 64 (Int.fdiv p0 (2 ^ (min (1 : Int).toNat 64))) &&& BitVec.ofInt 64 6148914691236517205).toNat : Int))) + (wu64 (((BitVec.ofInt 64 p0 &&& BitVec.ofInt 64 6148914691236517205).toNat : Int))))) (2 ^ (min (2 : Int).toNat 64))) &&& BitVec.ofInt 64 3689348814741910323).toNat : Int))) + (wu64 (((BitVec.ofInt 64 (wu64 ((wu64 (((BitVec.ofInt 64 (Int.fdiv p0 (2 ^ (min (1 : Int).toNat 64))) &&& BitVec.ofInt 64 6148914691236517205).toNat : Int))) + (wu64 (((BitVec.ofInt 64 p0 &&& BitVec.ofInt 64 6148914691236517205).toNat : Int))))) &&& BitVec.ofInt 64 3689348814741910323).toNat : Int))))))) &&& BitVec.ofInt 64 1085102592571150095).toNat : Int))) + (Int.fdiv (wu64 (((BitVec.ofInt 64 (wu64 ((Int.fdiv (wu64 ((wu64 (((BitVec.ofInt 64 (Int.fdiv (wu64 ((wu64 (((BitVec.ofInt 64 (Int.fdiv p0 (2 ^ (min (1 : Int).toNat 64))) &&& BitVec.ofInt 64 6148914691236517205).toNat : Int))) + (wu64 (((BitVec.ofInt 64 p0 &&& BitVec.ofInt 64 6148914691236517205).toNat : Int))))) (2 ^ (min (2 : Int).toNat 64))) &&& BitVec.ofInt 64 3689348814741910323).toNat : Int))) + (wu64 (((BitVec.ofInt 64 (wu64 ((wu64 (((BitVec.ofInt 64 (Int.fdiv p0 (2 ^ (min (1 : Int).toNat 64))) &&& BitVec.ofInt 64 6148914691236517205).toNat : Int))) + (wu64 (((BitVec.ofInt 64 p0 &&& BitVec.ofInt 64 6148914691236517205).toNat : Int))))) &&& BitVec.ofInt 64 3689348814741910323).toNat : Int))))) (2 ^ (min (4 : Int).toNat 64))) + (wu64 ((wu64 (((BitVec.ofInt 64 (Int.fdiv (wu64 ((wu64 (((BitVec.ofInt 64 (Int.fdiv p0 (2 ^ (min (1 : Int).toNat 64))) &&& BitVec.ofInt 64 6148914691236517205).toNat : Int))) + (wu64 (((BitVec.ofInt 64 p0 &&& BitVec.ofInt 64 6148914691236517205).toNat : Int))))) (2 ^ (min (2 : Int).toNat 64))) &&& BitVec.ofInt 64 3689348814741910323).toNat : Int))) + (wu64 (((BitVec.ofInt 64 (wu64 ((wu64 (((BitVec.ofInt 64 (Int.fdiv p0 (2 ^ (min (1 : Int).toNat 64))) &&& BitVec.ofInt 64 6148914691236517205).toNat : Int))) + (wu64 (((BitVec.ofInt 64 p0 &&& BitVec.ofInt 64 6148914691236517205).toNat : Int))))) &&& BitVec.ofInt 64 3689348814741910323).toNat : Int))))))) &&& BitVec.ofInt 64 1085102592571150095).toNat : Int))) (2 ^ (min (8 : Int).toNat 64))))) (2 ^ (min (16 : Int).toNat 64))))) (2 ^ (min (32 : Int).toNat 64)))))) &&& BitVec.ofInt 64 127).toNat : Int))))] rfl ⟨rfl, trivial⟩ ?_
  refine WO_end ?_
  cases hm
  exact WK_ret (ret_out (L := []) (RLc_tmp rfl RLc_nil) (List.nil_sublist _) rfl)
theorem census_Hamming_walk {m : Mu} {p0 : Int} {p1 : Int}   {r : Int} (hm : census_Hamming p0 p1 = some r) :
    Go.E.Spec Try.prog 16 [.int .i64 p0, .int .i64 p1] m (fun v _ _ => v = .int .i64 r) := by
  refine Spec_enter Try.func16 rfl rfl rfl (fun w0 => ?_)
  refine WK.sub (e' := [(0, .int .i64 p0), (1, .int .i64 p1)]) ⟨rfl, rfl, trivial⟩ ?_
  refine WK.sub (e' := [(0, .int .i64 p0), (1, .int .i64 p1)]) ⟨rfl, rfl, trivial⟩ ?_
  unfold census_Hamming at hm
  refine WK_seq ?_
  refine WK_region ?_
  refine WO_pure tbok 1 [(0, .int .i64 p0), (1, .int .i64 p1), (4, .int .i64 0)] rfl ⟨rfl, rfl, rfl, trivial⟩ ?_
  refine WO_end ?_
  refine WK_seq ?_
  refine WK_region ?_
  refine WO_pure tbok 5 [(4, .int .i64 0), (9, .int .u64 (wu64 (((BitVec.ofInt 64 (wu64 (p0)) ^^^ BitVec.ofInt 64 (wu64 (p1))).toNat : Int))))] rfl ⟨rfl, rfl, trivial⟩ ?_
  obtain ⟨y_1, hc1, hm⟩ := bind_some hm
  refine WO_call0 (.int .i64 y_1) rfl rfl trivial rfl rfl rfl rfl St_closed ⟨17, #[], #[], rfl, callable_17, fun w hw => ⟨_, hw.sat, bits_OnesCount64_walk hc1⟩⟩ ?_
  refine WO_pure tbok 1 [(4, .int .i64 y_1)] rfl ⟨rfl, trivial⟩ ?_
  refine WO_end ?_
  cases hm
  exact WK_ret (ret_out (L := []) (RLc_tmp rfl RLc_nil) (List.nil_sublist _) rfl)
theorem fiduciallaw44_known_walk {m : Mu}    {r : Bool} (hm : fiduciallaw44_known = some r) :
    Go.E.Spec Try.prog 11 [] m (fun v _ _ => v = .bool r) := by
  refine Spec_enter Try.func11 rfl rfl rfl (fun w0 => ?_)
  refine WK.sub (e' := []) trivial ?_
  refine WK.sub (e' := []) trivial ?_
  unfold fiduciallaw44_known at hm
  refine WK_seq ?_
  refine WK_region ?_
  refine WO_pure tbok 1 [(0, .bool false)] rfl ⟨rfl, trivial⟩ ?_
  refine WO_end ?_
  refine WK_seq ?_
  refine WK_region ?_
  refine WO_bslice (E := (I1 .i64)) tbok (fun _ => rfl) (by decide) [.int .i64 5, .int .i64 1, .int .i64 9, .int .i64 2, .int .i64 4, .int .i64 4, .int .i64 7, .int .i64 3, .int .i64 8] ([5, 1, 9, 2, 4, 4, 7, 3, 8] : List Int) rfl rfl trivial rfl rfl rfl rfl rfl rfl rfl rfl rfl rfl rfl rfl (fun b1 hb1 => ?_)
  refine WO.cls (C' := St w0 m m [[⟨b1, 3, ([5, 1, 9, 2, 4, 4, 7, 3, 8] : List Int).flatMap (I1 .i64)⟩]]) (fun _ h => h) ?_
  refine WO_pure tbok 1 [(0, .bool false), (9, .agg #[.int .i64 3, .int .i64 3, .int .i64 9, .slice (some ⟨b1, 0, none⟩) 9 9])] rfl ⟨rfl, rfl, trivial⟩ ?_
  obtain ⟨⟨y_1, y_2⟩, hc3, hm⟩ := bind_some hm
  refine WO_call1 (census_Transform_Q (y_1, y_2)) rfl rfl trivial rfl rfl rfl rfl ⟨13, #[], #[], rfl, callable_13, fun w hw => ⟨_, hw.satV, census_Transform_walk (OwnE.rd (E := (I1 .i64)) (k := 1) (fun _ => rfl) hb1 (fun _ hx => hw.memV (i := 0) rfl hx)) hc3⟩⟩ (fun v8 L7 hq => ?_)
  obtain ⟨a4, qa4, c5, rfl, hL7⟩ := hq
  obtain rfl := OwnE.qlen hL7
  refine WO.cls (C' := St w0 m m [[⟨b1, 3, ([5, 1, 9, 2, 4, 4, 7, 3, 8] : List Int).flatMap (I1 .i64)⟩], L7]) (fun _ h => h) ?_
  refine WO_pure tbok 5 [(0, .bool false), (1, .slice a4 ((y_1).length) c5), (2, .int .i64 y_2)] rfl ⟨rfl, rfl, rfl, trivial⟩ ?_
  refine WO_end ?_
  refine WK_seq ?_
  refine WK_region ?_
  refine WO_bslice (E := (I1 .i64)) tbok (fun _ => rfl) (by decide) [.int .i64 1, .int .i64 5, .int .i64 9] ([1, 5, 9] : List Int) rfl rfl trivial rfl rfl rfl rfl rfl rfl rfl rfl rfl rfl rfl rfl (fun b9 hb9 => ?_)
  refine WO.cls (C' := St w0 m m [[⟨b1, 3, ([5, 1, 9, 2, 4, 4, 7, 3, 8] : List Int).flatMap (I1 .i64)⟩], L7, [⟨b9, 3, ([1, 5, 9] : List Int).flatMap (I1 .i64)⟩]]) (fun _ h => h) ?_
  refine WO_pure tbok 1 [(0, .bool false), (1, .slice a4 ((y_1).length) c5), (2, .int .i64 y_2), (15, .agg #[.int .i64 3, .int .i64 1, .int .i64 9, .slice (some ⟨b9, 0, none⟩) 3 3])] rfl ⟨rfl, rfl, rfl, rfl, trivial⟩ ?_
  refine WO_bslice (E := (I1 .i64)) tbok (fun _ => rfl) (by decide) [.int .i64 5, .int .i64 9, .int .i64 9] ([5, 9, 9] : List Int) rfl rfl trivial rfl rfl rfl rfl rfl rfl rfl rfl rfl rfl rfl rfl (fun b11 hb11 => ?_)
  refine WO.cls (C' := St w0 m m [[⟨b1, 3, ([5, 1, 9, 2, 4, 4, 7, 3, 8] : List Int).flatMap (I1 .i64)⟩], L7, [⟨b9, 3, ([1, 5, 9] : List Int).flatMap (I1 .i64)⟩], [⟨b11, 3, ([5, 9, 9] : List Int).flatMap (I1 .i64)⟩]]) (fun _ h => h) ?_
  refine WO_pure tbok 1 [(0, .bool false), (1, .slice a4 ((y_1).length) c5), (2, .int .i64 y_2), (15, .agg #[.int .i64 3, .int .i64 1, .int .i64 9, .slice (some ⟨b9, 0, none⟩) 3 3]), (17, .agg #[.int .i64 3, .int .i64 1, .int .i64 9, .slice (some ⟨b11, 0, none⟩) 3 3])] rfl ⟨rfl, rfl, rfl, rfl, rfl, trivial⟩ ?_
  obtain ⟨⟨y_3, y_4, y_5, y_6, y_7⟩, hc13, hm⟩ := bind_some hm
  refine WO_call1 (census_Plain_Q (y_3, y_4, y_5, y_6, y_7)) rfl rfl trivial rfl rfl rfl rfl ⟨18, #[], #[], rfl, callable_18, fun w hw => ⟨_, hw.satV, census_Plain_walk (OwnE.rd (E := (I1 .i64)) (k := 1) (fun _ => rfl) hb9 (fun _ hx => hw.memV (i := 2) rfl hx)) (OwnE.rd (E := (I1 .i64)) (k := 1) (fun _ => rfl) hb11 (fun _ hx => hw.memV (i := 3) rfl hx)) hc13⟩⟩ (fun v18 L17 hq => ?_)
  obtain ⟨a14, qa14, c15, rfl, hL17⟩ := hq
  obtain rfl := OwnE.qlen hL17
  refine WO.cls (C' := St w0 m m [[⟨b1, 3, ([5, 1, 9, 2, 4, 4, 7, 3, 8] : List Int).flatMap (I1 .i64)⟩], L7, [⟨b9, 3, ([1, 5, 9] : List Int).flatMap (I1 .i64)⟩], [⟨b11, 3, ([5, 9, 9] : List Int).flatMap (I1 .i64)⟩], L17]) (fun _ h => h) ?_
  refine WO_pure tbok 3 [(0, .bool false), (1, .slice a4 ((y_1).length) c5), (2, .int .i64 y_2), (19, .agg #[.int .i64 y_3, .int .i64 y_4, .int .i64 y_5, .slice a14 ((y_6).length) c15]), (20, .int .i64 y_7)] rfl ⟨rfl, rfl, rfl, rfl, rfl, trivial⟩ ?_
  refine WO_alloc tbok [.int .i64 0, .int .i64 0, .int .i64 0, .slice none 0 0] rfl rfl trivial rfl rfl rfl rfl (fun b19 => ?_)
  refine WO.cls (C' := St w0 m m [[⟨b1, 3, ([5, 1, 9, 2, 4, 4, 7, 3, 8] : List Int).flatMap (I1 .i64)⟩], L7, [⟨b9, 3, ([1, 5, 9] : List Int).flatMap (I1 .i64)⟩], [⟨b11, 3, ([5, 9, 9] : List Int).flatMap (I1 .i64)⟩], L17, [⟨b19, 39, [.int .i64 0, .int .i64 0, .int .i64 0, .slice none 0 0]⟩]]) (fun _ h => h) ?_
  refine WO_storeB tbok 5 [.int .i64 y_3, .int .i64 y_4, .int .i64 y_5, .slice a14 ((y_6).length) c15] rfl rfl rfl rfl rfl rfl rfl ?_
  refine WO.cls (C' := St w0 m m [[⟨b1, 3, ([5, 1, 9, 2, 4, 4, 7, 3, 8] : List Int).flatMap (I1 .i64)⟩], L7, [⟨b9, 3, ([1, 5, 9] : List Int).flatMap (I1 .i64)⟩], [⟨b11, 3, ([5, 9, 9] : List Int).flatMap (I1 .i64)⟩], L17, [⟨b19, 39, [.int .i64 y_3, .int .i64 y_4, .int .i64 y_5, .slice a14 ((y_6).length) c15]⟩]]) (fun _ h => h) ?_
  refine WO_pure tbok 1 [(0, .bool false), (1, .slice a4 ((y_1).length) c5), (2, .int .i64 y_2), (3, .pointer (some ⟨b19, 0, none⟩)), (4, .int .i64 y_7)] rfl ⟨rfl, rfl, rfl, rfl, rfl, trivial⟩ ?_
  refine WO_end ?_
  refine WK_seq ?_
  refine WK_region ?_
  refine WO_loadB tbok 5 rfl rfl rfl rfl (fun _ h => h) rfl rfl ?_
  obtain ⟨⟨y_8, y_9⟩, hc20, hm⟩ := bind_some hm
  refine WO_call1 (census_Best_Q (y_8, y_9)) rfl rfl trivial rfl rfl rfl rfl ⟨27, #[], #[], rfl, callable_27, fun w hw => ⟨_, hw.satV, census_Best_walk (OwnE.rd (E := (I1 .i64)) (k := 1) (fun _ => rfl) hL17 (fun _ hx => hw.memV (i := 4) rfl hx)) hc20⟩⟩ (fun v25 L24 hq => ?_)
  obtain ⟨a21, qa21, c22, rfl, hL24⟩ := hq
  obtain rfl := OwnE.qlen hL24
  refine WO.cls (C' := St w0 m m [[⟨b1, 3, ([5, 1, 9, 2, 4, 4, 7, 3, 8] : List Int).flatMap (I1 .i64)⟩], L7, [⟨b9, 3, ([1, 5, 9] : List Int).flatMap (I1 .i64)⟩], [⟨b11, 3, ([5, 9, 9] : List Int).flatMap (I1 .i64)⟩], L17, [⟨b19, 39, [.int .i64 y_3, .int .i64 y_4, .int .i64 y_5, .slice a14 ((y_6).length) c15]⟩], L24]) (fun _ h => h) ?_
  refine WO_pure tbok 5 [(0, .bool false), (1, .slice a4 ((y_1).length) c5), (2, .int .i64 y_2), (3, .pointer (some ⟨b19, 0, none⟩)), (4, .int .i64 y_7), (5, .slice a21 ((y_8).length) c22), (6, .int .i64 y_9)] rfl ⟨rfl, rfl, rfl, rfl, rfl, rfl, rfl, trivial⟩ ?_
  refine WO_end ?_
  refine WK_seq ?_
  refine WK_region ?_
  refine WO_pure tbok 7 [(0, .bool false), (1, .slice a4 ((y_1).length) c5), (3, .pointer (some ⟨b19, 0, none⟩)), (5, .slice a21 ((y_8).length) c22), (32, .bool ((w64 ((w64 (y_2 + y_7)) + y_9)) == 0))] rfl ⟨rfl, rfl, rfl, rfl, rfl, trivial⟩ ?_
  refine WO_split (d := 32) (b := (w64 ((w64 (y_2 + y_7)) + y_9)) == 0) rfl (fun hb26 => ?_) (fun hb26 => ?_)
  · have hm := ifT hb26 hm
    refine WO_pure tbok 5 [(0, .bool false), (1, .slice a4 ((y_1).length) c5), (3, .pointer (some ⟨b19, 0, none⟩)), (5, .slice a21 ((y_8).length) c22), (37, .bool (((y_1).length : Int) == 9))] rfl ⟨rfl, rfl, rfl, rfl, rfl, trivial⟩ ?_
    refine WO_split (d := 37) (b := ((y_1).length : Int) == 9) rfl (fun hb27 => ?_) (fun hb27 => ?_)
    · have hm := ifT hb27 hm
      refine WO_pure tbok 1 [(0, .bool false), (1, .slice a4 ((y_1).length) c5), (3, .pointer (some ⟨b19, 0, none⟩)), (5, .slice a21 ((y_8).length) c22), (37, .bool true), (38, .slice a4 ((y_1).length) c5)] rfl ⟨rfl, rfl, rfl, rfl, rfl, rfl, trivial⟩ ?_
      obtain ⟨v_10, hy28, hm⟩ := bind_some hm
      obtain ⟨hc29, hy28⟩ := ix_some hy28
      refine WO_index tbok rfl rfl rfl rfl rfl rfl rfl rfl (OwnE.addr hL7) (by simpa using hc29) ?_
      refine WO_loadO (E := (I1 .i64)) tbok (fun _ => rfl) 1 rfl rfl rfl rfl (fun _ h => h) hL7 rfl hy28 rfl ?_
      refine WO_pure tbok 3 [(0, .bool false), (1, .slice a4 ((y_1).length) c5), (3, .pointer (some ⟨b19, 0, none⟩)), (5, .slice a21 ((y_8).length) c22), (43, .bool (v_10 == 74))] rfl ⟨rfl, rfl, rfl, rfl, rfl, trivial⟩ ?_
      refine WO_split (d := 43) (b := v_10 == 74) rfl (fun hb30 => ?_) (fun hb30 => ?_)
      · have hm := ifT hb30 hm
        refine WO_pure tbok 1 [(0, .bool false), (3, .pointer (some ⟨b19, 0, none⟩)), (5, .slice a21 ((y_8).length) c22), (43, .bool true), (44, .slice a4 ((y_1).length) c5)] rfl ⟨rfl, rfl, rfl, rfl, rfl, trivial⟩ ?_
        obtain ⟨v_11, hy31, hm⟩ := bind_some hm
        obtain ⟨hc32, hy31⟩ := ix_some hy31
        refine WO_index tbok rfl rfl rfl rfl rfl rfl rfl rfl (OwnE.addr hL7) (by simpa using hc32) ?_
        refine WO_loadO (E := (I1 .i64)) tbok (fun _ => rfl) 1 rfl rfl rfl rfl (fun _ h => h) hL7 rfl hy31 rfl ?_
        refine WO_pure tbok 3 [(0, .bool false), (3, .pointer (some ⟨b19, 0, none⟩)), (5, .slice a21 ((y_8).length) c22), (49, .bool (v_11 == 208))] rfl ⟨rfl, rfl, rfl, rfl, trivial⟩ ?_
        refine WO_split (d := 49) (b := v_11 == 208) rfl (fun hb33 => ?_) (fun hb33 => ?_)
        · have hm := ifT hb33 hm
          refine WO_pure tbok 1 [(0, .bool false), (5, .slice a21 ((y_8).length) c22), (49, .bool true), (50, .pointer (some ⟨b19, 3, none⟩))] rfl ⟨rfl, rfl, rfl, rfl, trivial⟩ ?_
          refine WO_loadB tbok 5 rfl rfl rfl rfl (fun _ h => h) rfl rfl ?_
          refine WO_bslice (E := (I1 .i64)) tbok (fun _ => rfl) (by decide) [.int .i64 4, .int .i64 10, .int .i64 4, .int .i64 0, .int .i64 0, .int .i64 0] ([4, 10, 4, 0, 0, 0] : List Int) rfl rfl trivial rfl rfl rfl rfl rfl rfl rfl rfl rfl rfl rfl rfl (fun b34 hb34 => ?_)
          refine WO.cls (C' := St w0 m m [[⟨b1, 3, ([5, 1, 9, 2, 4, 4, 7, 3, 8] : List Int).flatMap (I1 .i64)⟩], L7, [⟨b9, 3, ([1, 5, 9] : List Int).flatMap (I1 .i64)⟩], [⟨b11, 3, ([5, 9, 9] : List Int).flatMap (I1 .i64)⟩], L17, [⟨b19, 39, [.int .i64 y_3, .int .i64 y_4, .int .i64 y_5, .slice a14 ((y_6).length) c15]⟩], L24, [⟨b34, 3, ([4, 10, 4, 0, 0, 0] : List Int).flatMap (I1 .i64)⟩]]) (fun _ h => h) ?_
          obtain ⟨y_12, hc36, hm⟩ := bind_some hm
          refine WO_call0 (.bool y_12) rfl rfl trivial rfl rfl rfl rfl St_closed ⟨15, #[], #[], rfl, callable_15, fun w hw => ⟨_, hw.satV, slices_Equal_sint_walk (OwnE.rd (E := (I1 .i64)) (k := 1) (fun _ => rfl) hL17 (fun _ hx => hw.memV (i := 4) rfl hx)) (OwnE.rd (E := (I1 .i64)) (k := 1) (fun _ => rfl) hb34 (fun _ hx => hw.memV (i := 7) rfl hx)) hc36⟩⟩ ?_
          refine WO_pure tbok 2 [(0, .bool false), (5, .slice a21 ((y_8).length) c22), (55, .bool y_12)] rfl ⟨rfl, rfl, rfl, trivial⟩ ?_
          refine WO_split (d := 55) (b := y_12) rfl (fun hb37 => ?_) (fun hb37 => ?_)
          · have hm := ifT hb37 hm
            refine WO_pure tbok 1 [(0, .bool false), (55, .bool true), (56, .slice a21 ((y_8).length) c22)] rfl ⟨rfl, rfl, rfl, trivial⟩ ?_
            refine WO_bslice (E := (I1 .i64)) tbok (fun _ => rfl) (by decide) [.int .i64 0, .int .i64 1, .int .i64 0] ([0, 1, 0] : List Int) rfl rfl trivial rfl rfl rfl rfl rfl rfl rfl rfl rfl rfl rfl rfl (fun b38 hb38 => ?_)
            refine WO.cls (C' := St w0 m m [[⟨b1, 3, ([5, 1, 9, 2, 4, 4, 7, 3, 8] : List Int).flatMap (I1 .i64)⟩], L7, [⟨b9, 3, ([1, 5, 9] : List Int).flatMap (I1 .i64)⟩], [⟨b11, 3, ([5, 9, 9] : List Int).flatMap (I1 .i64)⟩], L17, [⟨b19, 39, [.int .i64 y_3, .int .i64 y_4, .int .i64 y_5, .slice a14 ((y_6).length) c15]⟩], L24, [⟨b34, 3, ([4, 10, 4, 0, 0, 0] : List Int).flatMap (I1 .i64)⟩], [⟨b38, 3, ([0, 1, 0] : List Int).flatMap (I1 .i64)⟩]]) (fun _ h => h) ?_
            obtain ⟨y_13, hc40, hm⟩ := bind_some hm
            refine WO_call0 (.bool y_13) rfl rfl trivial rfl rfl rfl rfl St_closed ⟨15, #[], #[], rfl, callable_15, fun w hw => ⟨_, hw.satV, slices_Equal_sint_walk (OwnE.rd (E := (I1 .i64)) (k := 1) (fun _ => rfl) hL24 (fun _ hx => hw.memV (i := 6) rfl hx)) (OwnE.rd (E := (I1 .i64)) (k := 1) (fun _ => rfl) hb38 (fun _ hx => hw.memV (i := 8) rfl hx)) hc40⟩⟩ ?_
            refine WO_pure tbok 2 [(0, .bool false), (60, .bool y_13)] rfl ⟨rfl, rfl, trivial⟩ ?_
            refine WO_split (d := 60) (b := y_13) rfl (fun hb41 => ?_) (fun hb41 => ?_)
            · have hm := ifT hb41 hm
              obtain ⟨y_14, hc42, hm⟩ := bind_some hm
              refine WO_call0 (.int .i64 y_14) rfl rfl trivial rfl rfl rfl rfl St_closed ⟨16, #[], #[], rfl, callable_16, fun w hw => ⟨_, hw.sat, census_Hamming_walk hc42⟩⟩ ?_
              refine WO_pure tbok 3 [(0, .bool false), (64, .bool (y_14 == 2))] rfl ⟨rfl, rfl, trivial⟩ ?_
              refine WO_split (d := 64) (b := y_14 == 2) rfl (fun hb43 => ?_) (fun hb43 => ?_)
              · have hm := ifT hb43 hm
                refine WO_pure tbok 1 [(0, .bool false), (64, .bool true), (65, .agg #[.int .i64 0, .int .i64 0, .int .i64 0, .slice none 0 0])] rfl ⟨rfl, rfl, rfl, trivial⟩ ?_
                obtain ⟨y_15, hc44, hm⟩ := bind_some hm
                refine WO_call0 (.int .i64 y_15) rfl rfl trivial rfl rfl rfl rfl St_closed ⟨21, #[], #[], rfl, callable_21, fun w hw => ⟨_, hw.sat, census_Check_walk SlR_nil hc44⟩⟩ ?_
                refine WO_pure tbok 3 [(0, .bool (y_15 == 1))] rfl ⟨rfl, trivial⟩ ?_
                refine WO_end ?_
                cases hm
                exact WK_ret (ret_out (L := []) (RLc_tmp rfl RLc_nil) (List.nil_sublist _) rfl)
              · have hm := ifF hb43 hm
                refine WO_pure tbok 1 [(0, .bool false), (64, .bool false)] rfl ⟨rfl, rfl, trivial⟩ ?_
                refine WO_skip rfl rfl ?_
                refine WO_pure tbok 3 [(0, .bool false)] rfl ⟨rfl, trivial⟩ ?_
                refine WO_end ?_
                cases hm
                exact WK_ret (ret_out (L := []) (RLc_tmp rfl RLc_nil) (List.nil_sublist _) rfl)
            · have hm := ifF hb41 hm
              refine WO_skip rfl rfl ?_
              refine WO_pure tbok 4 [(0, .bool false), (64, .bool false)] rfl ⟨rfl, rfl, trivial⟩ ?_
              refine WO_skip rfl rfl ?_
              refine WO_pure tbok 3 [(0, .bool false)] rfl ⟨rfl, trivial⟩ ?_
              refine WO_end ?_
              cases hm
              exact WK_ret (ret_out (L := []) (RLc_tmp rfl RLc_nil) (List.nil_sublist _) rfl)
          · have hm := ifF hb37 hm
            refine WO_pure tbok 1 [(0, .bool false), (55, .bool false)] rfl ⟨rfl, rfl, trivial⟩ ?_
            refine WO_skip rfl rfl ?_
            refine WO_skip rfl rfl ?_
            refine WO_pure tbok 2 [(0, .bool false), (60, .bool false)] rfl ⟨rfl, rfl, trivial⟩ ?_
            refine WO_skip rfl rfl ?_
            refine WO_pure tbok 4 [(0, .bool false), (64, .bool false)] rfl ⟨rfl, rfl, trivial⟩ ?_
            refine WO_skip rfl rfl ?_
            refine WO_pure tbok 3 [(0, .bool false)] rfl ⟨rfl, trivial⟩ ?_
            refine WO_end ?_
            cases hm
            exact WK_ret (ret_out (L := []) (RLc_tmp rfl RLc_nil) (List.nil_sublist _) rfl)
        · have hm := ifF hb33 hm
          refine WO_pure tbok 2 [(0, .bool false), (5, .slice a21 ((y_8).length) c22), (49, .bool false)] rfl ⟨rfl, rfl, rfl, trivial⟩ ?_
          refine WO_skip rfl rfl ?_
          refine WO_skip rfl rfl ?_
          refine WO_pure tbok 3 [(0, .bool false), (55, .bool false)] rfl ⟨rfl, rfl, trivial⟩ ?_
          refine WO_skip rfl rfl ?_
          refine WO_skip rfl rfl ?_
          refine WO_pure tbok 2 [(0, .bool false), (60, .bool false)] rfl ⟨rfl, rfl, trivial⟩ ?_
          refine WO_skip rfl rfl ?_
          refine WO_pure tbok 4 [(0, .bool false), (64, .bool false)] rfl ⟨rfl, rfl, trivial⟩ ?_
          refine WO_skip rfl rfl ?_
          refine WO_pure tbok 3 [(0, .bool false)] rfl ⟨rfl, trivial⟩ ?_
          refine WO_end ?_
          cases hm
          exact WK_ret (ret_out (L := []) (RLc_tmp rfl RLc_nil) (List.nil_sublist _) rfl)
      · have hm := ifF hb30 hm
        refine WO_pure tbok 8 [(0, .bool false), (5, .slice a21 ((y_8).length) c22), (49, .bool false)] rfl ⟨rfl, rfl, rfl, trivial⟩ ?_
        refine WO_skip rfl rfl ?_
        refine WO_skip rfl rfl ?_
        refine WO_pure tbok 3 [(0, .bool false), (55, .bool false)] rfl ⟨rfl, rfl, trivial⟩ ?_
        refine WO_skip rfl rfl ?_
        refine WO_skip rfl rfl ?_
        refine WO_pure tbok 2 [(0, .bool false), (60, .bool false)] rfl ⟨rfl, rfl, trivial⟩ ?_
        refine WO_skip rfl rfl ?_
        refine WO_pure tbok 4 [(0, .bool false), (64, .bool false)] rfl ⟨rfl, rfl, trivial⟩ ?_
        refine WO_skip rfl rfl ?_
        refine WO_pure tbok 3 [(0, .bool false)] rfl ⟨rfl, trivial⟩ ?_
        refine WO_end ?_
        cases hm
        exact WK_ret (ret_out (L := []) (RLc_tmp rfl RLc_nil) (List.nil_sublist _) rfl)
    · have hm := ifF hb27 hm
      refine WO_pure tbok 14 [(0, .bool false), (5, .slice a21 ((y_8).length) c22), (49, .bool false)] rfl ⟨rfl, rfl, rfl, trivial⟩ ?_
      refine WO_skip rfl rfl ?_
      refine WO_skip rfl rfl ?_
      refine WO_pure tbok 3 [(0, .bool false), (55, .bool false)] rfl ⟨rfl, rfl, trivial⟩ ?_
      refine WO_skip rfl rfl ?_
      refine WO_skip rfl rfl ?_
      refine WO_pure tbok 2 [(0, .bool false), (60, .bool false)] rfl ⟨rfl, rfl, trivial⟩ ?_
      refine WO_skip rfl rfl ?_
      refine WO_pure tbok 4 [(0, .bool false), (64, .bool false)] rfl ⟨rfl, rfl, trivial⟩ ?_
      refine WO_skip rfl rfl ?_
      refine WO_pure tbok 3 [(0, .bool false)] rfl ⟨rfl, trivial⟩ ?_
      refine WO_end ?_
      cases hm
      exact WK_ret (ret_out (L := []) (RLc_tmp rfl RLc_nil) (List.nil_sublist _) rfl)
  · have hm := ifF hb26 hm
    refine WO_pure tbok 19 [(0, .bool false), (5, .slice a21 ((y_8).length) c22), (49, .bool false)] rfl ⟨rfl, rfl, rfl, trivial⟩ ?_
    refine WO_skip rfl rfl ?_
    refine WO_skip rfl rfl ?_
    refine WO_pure tbok 3 [(0, .bool false), (55, .bool false)] rfl ⟨rfl, rfl, trivial⟩ ?_
    refine WO_skip rfl rfl ?_
    refine WO_skip rfl rfl ?_
    refine WO_pure tbok 2 [(0, .bool false), (60, .bool false)] rfl ⟨rfl, rfl, trivial⟩ ?_
    refine WO_skip rfl rfl ?_
    refine WO_pure tbok 4 [(0, .bool false), (64, .bool false)] rfl ⟨rfl, rfl, trivial⟩ ?_
    refine WO_skip rfl rfl ?_
    refine WO_pure tbok 3 [(0, .bool false)] rfl ⟨rfl, trivial⟩ ?_
    refine WO_end ?_
    cases hm
    exact WK_ret (ret_out (L := []) (RLc_tmp rfl RLc_nil) (List.nil_sublist _) rfl)
theorem fiduciallaw44_few_walk {m : Mu} {p0_0 : Int} {p0_1 : Int} {p0_2 : Int} {p0_3 : List Int} {a_p0_3 : Option Addr} {q_p0_3 c_p0_3 : Nat} (h_p0_3 : SlR (FE (I1 .i64)) 1 m (.slice a_p0_3 q_p0_3 c_p0_3) p0_3) {r : Bool} (hm : fiduciallaw44_few p0_0 p0_1 p0_2 p0_3 = some r) :
    Go.E.Spec Try.prog 12 [.agg #[.int .i64 p0_0, .int .i64 p0_1, .int .i64 p0_2, .slice a_p0_3 q_p0_3 c_p0_3]] m (fun v _ _ => v = .bool r) := by
  refine Spec_enter Try.func12 rfl rfl rfl (fun w0 => ?_)
  refine WK.sub (e' := [(0, .agg #[.int .i64 p0_0, .int .i64 p0_1, .int .i64 p0_2, .slice a_p0_3 q_p0_3 c_p0_3])]) ⟨rfl, trivial⟩ ?_
  obtain rfl := SlR.qlen h_p0_3
  refine WK.sub (e' := [(0, .agg #[.int .i64 p0_0, .int .i64 p0_1, .int .i64 p0_2, .slice a_p0_3 p0_3.length c_p0_3])]) ⟨rfl, trivial⟩ ?_
  unfold fiduciallaw44_few at hm
  refine WK_seq ?_
  refine WK_region ?_
  refine WO_box [.int .i64 p0_0, .int .i64 p0_1, .int .i64 p0_2, .slice a_p0_3 p0_3.length c_p0_3] rfl rfl trivial rfl rfl rfl (fun b2 => ?_)
  refine WO.cls (C' := St w0 m m [[⟨b2, 24, [.int .i64 p0_0, .int .i64 p0_1, .int .i64 p0_2, .slice a_p0_3 p0_3.length c_p0_3]⟩]]) (fun _ h => h) ?_
  refine WO_pure tbok 1 [(1, .pointer (some ⟨b2, 0, none⟩)), (2, .bool false)] rfl ⟨rfl, rfl, trivial⟩ ?_
  refine WO_end ?_
  refine WK_seq ?_
  refine WK_region ?_
  refine WO_pure tbok 1 [(2, .bool false), (3, .pointer (some ⟨b2, 3, none⟩))] rfl ⟨rfl, rfl, trivial⟩ ?_
  refine WO_loadB tbok 0 rfl rfl rfl rfl (fun _ h => h) rfl rfl ?_
  refine WO_pure tbok 3 [(2, .bool (decide ((p0_3.length : Int) ≤ 200)))] rfl ⟨rfl, trivial⟩ ?_
  refine WO_end ?_
  cases hm
  exact WK_ret (ret_out (L := []) (RLc_tmp rfl RLc_nil) (List.nil_sublist _) rfl)
theorem fiducialref13_Check_walk {m : Mu} {p0_0 : Int} {p0_1 : Int} {p0_2 : Int} {p0_3 : List Int} {a_p0_3 : Option Addr} {q_p0_3 c_p0_3 : Nat} (h_p0_3 : SlR (FE (I1 .i64)) 1 m (.slice a_p0_3 q_p0_3 c_p0_3) p0_3) {r : Int} (hm : fiducialref13_Check p0_0 p0_1 p0_2 p0_3 = some r) :
    Go.E.Spec Try.prog 26 [.agg #[.int .i64 p0_0, .int .i64 p0_1, .int .i64 p0_2, .slice a_p0_3 q_p0_3 c_p0_3]] m (fun v _ _ => v = .int .i64 r) := by
  refine Spec_enter Try.func26 rfl rfl rfl (fun w0 => ?_)
  refine WK.sub (e' := [(0, .agg #[.int .i64 p0_0, .int .i64 p0_1, .int .i64 p0_2, .slice a_p0_3 q_p0_3 c_p0_3])]) ⟨rfl, trivial⟩ ?_
  obtain rfl := SlR.qlen h_p0_3
  refine WK.sub (e' := [(0, .agg #[.int .i64 p0_0, .int .i64 p0_1, .int .i64 p0_2, .slice a_p0_3 p0_3.length c_p0_3])]) ⟨rfl, trivial⟩ ?_
  unfold fiducialref13_Check at hm
  refine WK_seq ?_
  refine WK_region ?_
  refine WO_box [.int .i64 p0_0, .int .i64 p0_1, .int .i64 p0_2, .slice a_p0_3 p0_3.length c_p0_3] rfl rfl trivial rfl rfl rfl (fun b2 => ?_)
  refine WO.cls (C' := St w0 m m [[⟨b2, 24, [.int .i64 p0_0, .int .i64 p0_1, .int .i64 p0_2, .slice a_p0_3 p0_3.length c_p0_3]⟩]]) (fun _ h => h) ?_
  refine WO_pure tbok 1 [(1, .pointer (some ⟨b2, 0, none⟩)), (2, .int .i64 0)] rfl ⟨rfl, rfl, trivial⟩ ?_
  refine WO_end ?_
  refine WK_seq ?_
  refine WK_seq ?_
  obtain ⟨s_1, hx3, hm⟩ := bind_some hm
  refine WK_meet [(1, .pointer (some ⟨b2, 0, none⟩)), (2, .int .i64 0), (42, .bool s_1)] (St w0 m m [[⟨b2, 24, [.int .i64 p0_0, .int .i64 p0_1, .int .i64 p0_2, .slice a_p0_3 p0_3.length c_p0_3]⟩]]) ?_ (fun hk4 => ?_)
  · refine WK_cond (b := s_1) rfl (fun hb5 => ?_) (fun hb5 => ?_)
    · have hm := ifT hb5 hm
      refine WK_seq ?_
      refine WK_region ?_
      refine WO_pure tbok 1 [(1, .pointer (some ⟨b2, 0, none⟩)), (2, .int .i64 1)] rfl ⟨rfl, rfl, trivial⟩ ?_
      refine WO_end ?_
      cases hm
      exact WK_ret (ret_out (L := []) (RLc_tmp rfl RLc_nil) (List.nil_sublist _) rfl)
    · have hm := ifF hb5 hm
      refine WK_skip ?_
      refine WK_seq ?_
      refine WK_seq ?_
      refine WK_region ?_
      refine WO_pure tbok 1 [(1, .pointer (some ⟨b2, 0, none⟩)), (2, .int .i64 0), (3, .int .i64 0)] rfl ⟨rfl, rfl, rfl, trivial⟩ ?_
      refine WO_end ?_
      obtain ⟨x6, hx7, hm⟩ := bind_some hm
      refine WK_join (β := Unit × Unit) (fun p => Sum.inr p.1 = x6) (fun p => [(2, .int .i64 0)]) (fun p => St w0 m m [[⟨b2, 24, [.int .i64 p0_0, .int .i64 p0_1, .int .i64 p0_2, .slice a_p0_3 p0_3.length c_p0_3]⟩]]) ?_ (fun hk8 => ?_)
      · rintro ⟨⟨⟩, ⟨⟩⟩ hq14
        subst hq14
        refine WK.sub (e' := [(2, .int .i64 0)]) ⟨rfl, trivial⟩ (WK.cls (C' := St w0 m m [[⟨b2, 24, [.int .i64 p0_0, .int .i64 p0_1, .int .i64 p0_2, .slice a_p0_3 p0_3.length c_p0_3]⟩]]) (fun _ h => h) ?_)
        refine WK_seq ?_
        refine WK_region ?_
        refine WO_pure tbok 1 [(2, .int .i64 0)] rfl ⟨rfl, trivial⟩ ?_
        refine WO_end ?_
        cases hm
        exact WK_ret (ret_out (L := []) (RLc_tmp rfl RLc_nil) (List.nil_sublist _) rfl)
      · refine WK_block ?_
        refine WK_loop (S := Int) (G := Unit) (fun s => fiducialref13_Check_s1 p0_2 p0_3 s) (fun s g => [(1, .pointer (some ⟨b2, 0, none⟩)), (2, .int .i64 0), (3, .int .i64 s)]) (fun s g => St w0 m m [[⟨b2, 24, [.int .i64 p0_0, .int .i64 p0_1, .int .i64 p0_2, .slice a_p0_3 p0_3.length c_p0_3]⟩]]) (fun s g => True) FUEL 0 () x6 hx7 trivial ⟨rfl, rfl, rfl, trivial⟩ (fun _ h => h) ?_
        rintro s_2 ⟨⟩ o10 fl11 hm9 - hn12 hd13
        have hm9 : fiducialref13_Check_s1 p0_2 p0_3 s_2 = some o10 := hm9
        unfold fiducialref13_Check_s1 at hm9
        refine WK.sub (e' := [(1, .pointer (some ⟨b2, 0, none⟩)), (2, .int .i64 0), (3, .int .i64 s_2)]) ⟨rfl, rfl, rfl, trivial⟩ (WK.cls (C' := St w0 m m [[⟨b2, 24, [.int .i64 p0_0, .int .i64 p0_1, .int .i64 p0_2, .slice a_p0_3 p0_3.length c_p0_3]⟩]]) (fun _ h => h) ?_)
        refine WK_seq ?_
        refine WK_seq ?_
        refine WK_region ?_
        refine WO_pure tbok 2 [(1, .pointer (some ⟨b2, 0, none⟩)), (2, .int .i64 0), (3, .int .i64 s_2), (43, .int .i64 s_2), (44, .pointer (some ⟨b2, 3, none⟩))] rfl ⟨rfl, rfl, rfl, rfl, rfl, trivial⟩ ?_
        refine WO_loadB tbok 0 rfl rfl rfl rfl (fun _ h => h) rfl rfl ?_
        refine WO_pure tbok 2 [(1, .pointer (some ⟨b2, 0, none⟩)), (2, .int .i64 0), (3, .int .i64 s_2), (47, .bool (decide (s_2 < (p0_3.length : Int))))] rfl ⟨rfl, rfl, rfl, rfl, trivial⟩ ?_
        refine WO_end ?_
        refine WK_cond (b := decide (s_2 < (p0_3.length : Int))) rfl (fun hb15 => ?_) (fun hb15 => ?_)
        · have hm9 := ifT hb15 hm9
          refine WK_skip ?_
          refine WK_seq ?_
          refine WK_block ?_
          refine WK_seq ?_
          obtain ⟨s_3, hx16, hm9⟩ := bind_some hm9
          refine WK_meet [(1, .pointer (some ⟨b2, 0, none⟩)), (2, .int .i64 0), (3, .int .i64 s_2), (65, .bool s_3)] (St w0 m m [[⟨b2, 24, [.int .i64 p0_0, .int .i64 p0_1, .int .i64 p0_2, .slice a_p0_3 p0_3.length c_p0_3]⟩]]) ?_ (fun hk17 => ?_)
          · refine WK_cond (b := s_3) rfl (fun hb18 => ?_) (fun hb18 => ?_)
            · have hm9 := ifT hb18 hm9
              refine WK_seq ?_
              refine WK_region ?_
              refine WO_pure tbok 1 [(1, .pointer (some ⟨b2, 0, none⟩)), (2, .int .i64 1), (3, .int .i64 s_2)] rfl ⟨rfl, rfl, rfl, trivial⟩ ?_
              refine WO_end ?_
              cases hm9
              have hq := hd13 _ rfl
              subst hq
              have hm : some _ = some _ := hm
              cases hm
              exact WK_ret (ret_out (L := []) (RLc_tmp rfl RLc_nil) (List.nil_sublist _) rfl)
            · have hm9 := ifF hb18 hm9
              refine WK_skip ?_
              refine WK_blk ?_
              refine WK_region ?_
              refine WO_pure tbok 3 [(1, .pointer (some ⟨b2, 0, none⟩)), (2, .int .i64 0), (3, .int .i64 (w64 (s_2 + 1)))] rfl ⟨rfl, rfl, rfl, trivial⟩ ?_
              refine WO_end ?_
              cases hm9
              refine WK.sub ?_ (WK.cls (fun _ h => h) (hn12 _ () rfl trivial))
              exact ⟨rfl, rfl, rfl, trivial⟩
          · refine WK_draw 16 [0, 1, 2, 3, 4, 5, 6, 7, 8, 9, 10, 11, 12, 13, 14, 15] follows_ok (by kernel_rfl) St_closed ?_
            refine WO_pure tbok 1 [(1, .pointer (some ⟨b2, 0, none⟩)), (2, .int .i64 0), (3, .int .i64 s_2), (50, .pointer (some ⟨b2, 3, none⟩))] rfl ⟨rfl, rfl, rfl, rfl, trivial⟩ ?_
            refine WO_loadB tbok 0 rfl rfl rfl rfl (fun _ h => h) rfl rfl ?_
            refine WO_pure tbok 1 [(1, .pointer (some ⟨b2, 0, none⟩)), (2, .int .i64 0), (3, .int .i64 s_2), (51, .slice a_p0_3 p0_3.length c_p0_3), (52, .int .i64 s_2)] rfl ⟨rfl, rfl, rfl, rfl, rfl, trivial⟩ ?_
            obtain ⟨v_4, hy19, hx16⟩ := bind_some hx16
            obtain ⟨hc20, hy19⟩ := ix_some hy19
            refine WO_index tbok rfl rfl rfl rfl rfl rfl rfl rfl (SlR.addr h_p0_3) hc20 ?_
            refine WO_loadE tbok rfl rfl rfl rfl (fun _ h => St.sat h) h_p0_3 hy19 rfl ?_
            refine WO_pure tbok 2 [(1, .pointer (some ⟨b2, 0, none⟩)), (2, .int .i64 0), (3, .int .i64 s_2), (56, .bool (decide (v_4 < 0)))] rfl ⟨rfl, rfl, rfl, rfl, trivial⟩ ?_
            refine WO_split (d := 56) (b := decide (v_4 < 0)) rfl (fun hb21 => ?_) (fun hb21 => ?_)
            · have hx16 := ifT hb21 hx16
              refine WO_pure tbok 9 [(1, .pointer (some ⟨b2, 0, none⟩)), (2, .int .i64 0), (3, .int .i64 s_2), (65, .bool true)] rfl ⟨rfl, rfl, rfl, rfl, trivial⟩ ?_
              refine WO_tail ?_
              refine WO_end ?_
              cases hx16
              refine WK.sub ?_ (WK.cls (fun _ h => h) hk17)
              exact ⟨rfl, rfl, rfl, rfl, trivial⟩
            · have hx16 := ifF hb21 hx16
              refine WO_pure tbok 1 [(1, .pointer (some ⟨b2, 0, none⟩)), (2, .int .i64 0), (3, .int .i64 s_2), (56, .bool false), (57, .pointer (some ⟨b2, 3, none⟩))] rfl ⟨rfl, rfl, rfl, rfl, rfl, trivial⟩ ?_
              refine WO_loadB tbok 0 rfl rfl rfl rfl (fun _ h => h) rfl rfl ?_
              refine WO_pure tbok 1 [(1, .pointer (some ⟨b2, 0, none⟩)), (2, .int .i64 0), (3, .int .i64 s_2), (56, .bool false), (58, .slice a_p0_3 p0_3.length c_p0_3), (59, .int .i64 s_2)] rfl ⟨rfl, rfl, rfl, rfl, rfl, rfl, trivial⟩ ?_
              obtain ⟨v_5, hy22, hx16⟩ := bind_some hx16
              obtain ⟨hc23, hy22⟩ := ix_some hy22
              refine WO_index tbok rfl rfl rfl rfl rfl rfl rfl rfl (SlR.addr h_p0_3) hc23 ?_
              refine WO_loadE tbok rfl rfl rfl rfl (fun _ h => St.sat h) h_p0_3 hy22 rfl ?_
              refine WO_pure tbok 1 [(1, .pointer (some ⟨b2, 0, none⟩)), (2, .int .i64 0), (3, .int .i64 s_2), (56, .bool false), (61, .int .i64 v_5), (62, .pointer (some ⟨b2, 2, none⟩))] rfl ⟨rfl, rfl, rfl, rfl, rfl, rfl, trivial⟩ ?_
              refine WO_loadB tbok 0 rfl rfl rfl rfl (fun _ h => h) rfl rfl ?_
              refine WO_pure tbok 2 [(1, .pointer (some ⟨b2, 0, none⟩)), (2, .int .i64 0), (3, .int .i64 s_2), (65, .bool (decide (p0_2 < v_5)))] rfl ⟨rfl, rfl, rfl, rfl, trivial⟩ ?_
              refine WO_tail ?_
              refine WO_end ?_
              cases hx16
              refine WK.sub ?_ (WK.cls (fun _ h => h) hk17)
              exact ⟨rfl, rfl, rfl, rfl, trivial⟩
        · have hm9 := ifF hb15 hm9
          refine WK_exit rfl ?_
          cases hm9
          refine WK.sub ?_ (WK.cls (fun _ h => h) (hk8 ((), ()) (hd13 _ rfl)))
          exact ⟨rfl, trivial⟩
  · refine WK_region ?_
    refine WO_pure tbok 1 [(1, .pointer (some ⟨b2, 0, none⟩)), (2, .int .i64 0), (4, .pointer (some ⟨b2, 0, none⟩))] rfl ⟨rfl, rfl, rfl, trivial⟩ ?_
    refine WO_loadB tbok 0 rfl rfl rfl rfl (fun _ h => h) rfl rfl ?_
    refine WO_pure tbok 2 [(1, .pointer (some ⟨b2, 0, none⟩)), (2, .int .i64 0), (7, .bool (decide (p0_0 < 1)))] rfl ⟨rfl, rfl, rfl, trivial⟩ ?_
    refine WO_split (d := 7) (b := decide (p0_0 < 1)) rfl (fun hb24 => ?_) (fun hb24 => ?_)
    · have hx3 := ifT hb24 hx3
      refine WO_pure tbok 35 [(1, .pointer (some ⟨b2, 0, none⟩)), (2, .int .i64 0), (42, .bool true)] rfl ⟨rfl, rfl, rfl, trivial⟩ ?_
      refine WO_end ?_
      cases hx3
      refine WK.sub ?_ (WK.cls (fun _ h => h) hk4)
      exact ⟨rfl, rfl, rfl, trivial⟩
    · have hx3 := ifF hb24 hx3
      refine WO_pure tbok 1 [(1, .pointer (some ⟨b2, 0, none⟩)), (2, .int .i64 0), (7, .bool false), (8, .pointer (some ⟨b2, 0, none⟩))] rfl ⟨rfl, rfl, rfl, rfl, trivial⟩ ?_
      refine WO_loadB tbok 0 rfl rfl rfl rfl (fun _ h => h) rfl rfl ?_
      refine WO_pure tbok 3 [(1, .pointer (some ⟨b2, 0, none⟩)), (2, .int .i64 0), (12, .bool (decide (64 < p0_0)))] rfl ⟨rfl, rfl, rfl, trivial⟩ ?_
      refine WO_split (d := 12) (b := decide (64 < p0_0)) rfl (fun hb25 => ?_) (fun hb25 => ?_)
      · have hx3 := ifT hb25 hx3
        refine WO_pure tbok 30 [(1, .pointer (some ⟨b2, 0, none⟩)), (2, .int .i64 0), (42, .bool true)] rfl ⟨rfl, rfl, rfl, trivial⟩ ?_
        refine WO_end ?_
        cases hx3
        refine WK.sub ?_ (WK.cls (fun _ h => h) hk4)
        exact ⟨rfl, rfl, rfl, trivial⟩
      · have hx3 := ifF hb25 hx3
        refine WO_pure tbok 1 [(1, .pointer (some ⟨b2, 0, none⟩)), (2, .int .i64 0), (12, .bool false), (13, .pointer (some ⟨b2, 1, none⟩))] rfl ⟨rfl, rfl, rfl, rfl, trivial⟩ ?_
        refine WO_loadB tbok 0 rfl rfl rfl rfl (fun _ h => h) rfl rfl ?_
        refine WO_pure tbok 3 [(1, .pointer (some ⟨b2, 0, none⟩)), (2, .int .i64 0), (17, .bool (decide (p0_1 < 1)))] rfl ⟨rfl, rfl, rfl, trivial⟩ ?_
        refine WO_split (d := 17) (b := decide (p0_1 < 1)) rfl (fun hb26 => ?_) (fun hb26 => ?_)
        · have hx3 := ifT hb26 hx3
          refine WO_pure tbok 25 [(1, .pointer (some ⟨b2, 0, none⟩)), (2, .int .i64 0), (42, .bool true)] rfl ⟨rfl, rfl, rfl, trivial⟩ ?_
          refine WO_end ?_
          cases hx3
          refine WK.sub ?_ (WK.cls (fun _ h => h) hk4)
          exact ⟨rfl, rfl, rfl, trivial⟩
        · have hx3 := ifF hb26 hx3
          refine WO_pure tbok 1 [(1, .pointer (some ⟨b2, 0, none⟩)), (2, .int .i64 0), (17, .bool false), (18, .pointer (some ⟨b2, 1, none⟩))] rfl ⟨rfl, rfl, rfl, rfl, trivial⟩ ?_
          refine WO_loadB tbok 0 rfl rfl rfl rfl (fun _ h => h) rfl rfl ?_
          refine WO_pure tbok 3 [(1, .pointer (some ⟨b2, 0, none⟩)), (2, .int .i64 0), (22, .bool (decide (64 < p0_1)))] rfl ⟨rfl, rfl, rfl, trivial⟩ ?_
          refine WO_split (d := 22) (b := decide (64 < p0_1)) rfl (fun hb27 => ?_) (fun hb27 => ?_)
          · have hx3 := ifT hb27 hx3
            refine WO_pure tbok 20 [(1, .pointer (some ⟨b2, 0, none⟩)), (2, .int .i64 0), (42, .bool true)] rfl ⟨rfl, rfl, rfl, trivial⟩ ?_
            refine WO_end ?_
            cases hx3
            refine WK.sub ?_ (WK.cls (fun _ h => h) hk4)
            exact ⟨rfl, rfl, rfl, trivial⟩
          · have hx3 := ifF hb27 hx3
            refine WO_pure tbok 1 [(1, .pointer (some ⟨b2, 0, none⟩)), (2, .int .i64 0), (22, .bool false), (23, .pointer (some ⟨b2, 2, none⟩))] rfl ⟨rfl, rfl, rfl, rfl, trivial⟩ ?_
            refine WO_loadB tbok 0 rfl rfl rfl rfl (fun _ h => h) rfl rfl ?_
            refine WO_pure tbok 3 [(1, .pointer (some ⟨b2, 0, none⟩)), (2, .int .i64 0), (27, .bool (decide (p0_2 < 1)))] rfl ⟨rfl, rfl, rfl, trivial⟩ ?_
            refine WO_split (d := 27) (b := decide (p0_2 < 1)) rfl (fun hb28 => ?_) (fun hb28 => ?_)
            · have hx3 := ifT hb28 hx3
              refine WO_pure tbok 15 [(1, .pointer (some ⟨b2, 0, none⟩)), (2, .int .i64 0), (42, .bool true)] rfl ⟨rfl, rfl, rfl, trivial⟩ ?_
              refine WO_end ?_
              cases hx3
              refine WK.sub ?_ (WK.cls (fun _ h => h) hk4)
              exact ⟨rfl, rfl, rfl, trivial⟩
            · have hx3 := ifF hb28 hx3
              refine WO_pure tbok 1 [(1, .pointer (some ⟨b2, 0, none⟩)), (2, .int .i64 0), (27, .bool false), (28, .pointer (some ⟨b2, 2, none⟩))] rfl ⟨rfl, rfl, rfl, rfl, trivial⟩ ?_
              refine WO_loadB tbok 0 rfl rfl rfl rfl (fun _ h => h) rfl rfl ?_
              refine WO_pure tbok 3 [(1, .pointer (some ⟨b2, 0, none⟩)), (2, .int .i64 0), (32, .bool (decide (65535 < p0_2)))] rfl ⟨rfl, rfl, rfl, trivial⟩ ?_
              refine WO_split (d := 32) (b := decide (65535 < p0_2)) rfl (fun hb29 => ?_) (fun hb29 => ?_)
              · have hx3 := ifT hb29 hx3
                refine WO_pure tbok 10 [(1, .pointer (some ⟨b2, 0, none⟩)), (2, .int .i64 0), (42, .bool true)] rfl ⟨rfl, rfl, rfl, trivial⟩ ?_
                refine WO_end ?_
                cases hx3
                refine WK.sub ?_ (WK.cls (fun _ h => h) hk4)
                exact ⟨rfl, rfl, rfl, trivial⟩
              · have hx3 := ifF hb29 hx3
                refine WO_pure tbok 1 [(1, .pointer (some ⟨b2, 0, none⟩)), (2, .int .i64 0), (32, .bool false), (33, .pointer (some ⟨b2, 3, none⟩))] rfl ⟨rfl, rfl, rfl, rfl, trivial⟩ ?_
                refine WO_loadB tbok 0 rfl rfl rfl rfl (fun _ h => h) rfl rfl ?_
                refine WO_pure tbok 2 [(1, .pointer (some ⟨b2, 0, none⟩)), (2, .int .i64 0), (32, .bool false), (35, .int .i64 (p0_3.length : Int)), (36, .pointer (some ⟨b2, 0, none⟩))] rfl ⟨rfl, rfl, rfl, rfl, rfl, trivial⟩ ?_
                refine WO_loadB tbok 0 rfl rfl rfl rfl (fun _ h => h) rfl rfl ?_
                refine WO_pure tbok 1 [(1, .pointer (some ⟨b2, 0, none⟩)), (2, .int .i64 0), (32, .bool false), (35, .int .i64 (p0_3.length : Int)), (37, .int .i64 p0_0), (38, .pointer (some ⟨b2, 1, none⟩))] rfl ⟨rfl, rfl, rfl, rfl, rfl, rfl, trivial⟩ ?_
                refine WO_loadB tbok 0 rfl rfl rfl rfl (fun _ h => h) rfl rfl ?_
                refine WO_pure tbok 3 [(1, .pointer (some ⟨b2, 0, none⟩)), (2, .int .i64 0), (42, .bool ((p0_3.length : Int) != (w64 (p0_0 * p0_1))))] rfl ⟨rfl, rfl, rfl, trivial⟩ ?_
                refine WO_end ?_
                cases hx3
                refine WK.sub ?_ (WK.cls (fun _ h => h) hk4)
                exact ⟨rfl, rfl, rfl, trivial⟩
theorem fiduciallaw44_inside_walk {m : Mu} {p0_0 : Int} {p0_1 : Int} {p0_2 : Int} {p0_3 : List Int} {p1 : Int} {p2 : Int} {a_p0_3 : Option Addr} {q_p0_3 c_p0_3 : Nat} (h_p0_3 : SlR (FE (I1 .i64)) 1 m (.slice a_p0_3 q_p0_3 c_p0_3) p0_3) {r : Bool} (hm : fiduciallaw44_inside p0_0 p0_1 p0_2 p0_3 p1 p2 = some r) :
    Go.E.Spec Try.prog 50 [.agg #[.int .i64 p0_0, .int .i64 p0_1, .int .i64 p0_2, .slice a_p0_3 q_p0_3 c_p0_3], .int .i64 p1, .int .i64 p2] m (fun v _ _ => v = .bool r) := by
  refine Spec_enter Try.func50 rfl rfl rfl (fun w0 => ?_)
  refine WK.sub (e' := [(0, .agg #[.int .i64 p0_0, .int .i64 p0_1, .int .i64 p0_2, .slice a_p0_3 q_p0_3 c_p0_3]), (1, .int .i64 p1), (2, .int .i64 p2)]) ⟨rfl, rfl, rfl, trivial⟩ ?_
  obtain rfl := SlR.qlen h_p0_3
  refine WK.sub (e' := [(0, .agg #[.int .i64 p0_0, .int .i64 p0_1, .int .i64 p0_2, .slice a_p0_3 p0_3.length c_p0_3]), (1, .int .i64 p1), (2, .int .i64 p2)]) ⟨rfl, rfl, rfl, trivial⟩ ?_
  unfold fiduciallaw44_inside at hm
  refine WK_seq ?_
  refine WK_region ?_
  refine WO_box [.int .i64 p0_0, .int .i64 p0_1, .int .i64 p0_2, .slice a_p0_3 p0_3.length c_p0_3] rfl rfl trivial rfl rfl rfl (fun b2 => ?_)
  refine WO.cls (C' := St w0 m m [[⟨b2, 24, [.int .i64 p0_0, .int .i64 p0_1, .int .i64 p0_2, .slice a_p0_3 p0_3.length c_p0_3]⟩]]) (fun _ h => h) ?_
  refine WO_pure tbok 1 [(1, .int .i64 p1), (2, .int .i64 p2), (3, .pointer (some ⟨b2, 0, none⟩)), (6, .bool false)] rfl ⟨rfl, rfl, rfl, rfl, trivial⟩ ?_
  refine WO_end ?_
  refine WK_seq ?_
  refine WK_region ?_
  refine WO_pure tbok 3 [(1, .int .i64 p1), (2, .int .i64 p2), (3, .pointer (some ⟨b2, 0, none⟩)), (6, .bool false), (9, .bool (decide (0 ≤ p1)))] rfl ⟨rfl, rfl, rfl, rfl, rfl, trivial⟩ ?_
  refine WO_split (d := 9) (b := decide (0 ≤ p1)) rfl (fun hb3 => ?_) (fun hb3 => ?_)
  · have hm := ifT hb3 hm
    refine WO_pure tbok 4 [(1, .int .i64 p1), (2, .int .i64 p2), (3, .pointer (some ⟨b2, 0, none⟩)), (6, .bool false), (13, .bool (decide (0 ≤ p2)))] rfl ⟨rfl, rfl, rfl, rfl, rfl, trivial⟩ ?_
    refine WO_split (d := 13) (b := decide (0 ≤ p2)) rfl (fun hb4 => ?_) (fun hb4 => ?_)
    · have hm := ifT hb4 hm
      refine WO_pure tbok 2 [(2, .int .i64 p2), (3, .pointer (some ⟨b2, 0, none⟩)), (6, .bool false), (13, .bool true), (14, .int .i64 p1), (15, .pointer (some ⟨b2, 0, none⟩))] rfl ⟨rfl, rfl, rfl, rfl, rfl, rfl, trivial⟩ ?_
      refine WO_loadB tbok 0 rfl rfl rfl rfl (fun _ h => h) rfl rfl ?_
      refine WO_pure tbok 3 [(2, .int .i64 p2), (3, .pointer (some ⟨b2, 0, none⟩)), (6, .bool false), (19, .bool (decide (p1 < p0_0)))] rfl ⟨rfl, rfl, rfl, rfl, trivial⟩ ?_
      refine WO_split (d := 19) (b := decide (p1 < p0_0)) rfl (fun hb5 => ?_) (fun hb5 => ?_)
      · have hm := ifT hb5 hm
        refine WO_pure tbok 2 [(6, .bool false), (19, .bool true), (20, .int .i64 p2), (21, .pointer (some ⟨b2, 1, none⟩))] rfl ⟨rfl, rfl, rfl, rfl, trivial⟩ ?_
        refine WO_loadB tbok 0 rfl rfl rfl rfl (fun _ h => h) rfl rfl ?_
        refine WO_pure tbok 3 [(6, .bool (decide (p2 < p0_1)))] rfl ⟨rfl, trivial⟩ ?_
        refine WO_end ?_
        cases hm
        exact WK_ret (ret_out (L := []) (RLc_tmp rfl RLc_nil) (List.nil_sublist _) rfl)
      · have hm := ifF hb5 hm
        refine WO_pure tbok 6 [(6, .bool false)] rfl ⟨rfl, trivial⟩ ?_
        refine WO_end ?_
        cases hm
        exact WK_ret (ret_out (L := []) (RLc_tmp rfl RLc_nil) (List.nil_sublist _) rfl)
    · have hm := ifF hb4 hm
      refine WO_pure tbok 12 [(6, .bool false)] rfl ⟨rfl, trivial⟩ ?_
      refine WO_end ?_
      cases hm
      exact WK_ret (ret_out (L := []) (RLc_tmp rfl RLc_nil) (List.nil_sublist _) rfl)
  · have hm := ifF hb3 hm
    refine WO_pure tbok 16 [(6, .bool false)] rfl ⟨rfl, trivial⟩ ?_
    refine WO_end ?_
    cases hm
    exact WK_ret (ret_out (L := []) (RLc_tmp rfl RLc_nil) (List.nil_sublist _) rfl)
theorem fiduciallaw44_bitsOf_walk {m : Mu} {p0_0 : Int} {p0_1 : Int} {p0_2 : Int} {p0_3 : List Int} {p1 : Int} {p2 : Int} {p3 : Int} {a_p0_3 : Option Addr} {q_p0_3 c_p0_3 : Nat} (h_p0_3 : SlR (FE (I1 .i64)) 1 m (.slice a_p0_3 q_p0_3 c_p0_3) p0_3) {r : Int} (hm : fiduciallaw44_bitsOf p0_0 p0_1 p0_2 p0_3 p1 p2 p3 = some r) :
    Go.E.Spec Try.prog 35 [.agg #[.int .i64 p0_0, .int .i64 p0_1, .int .i64 p0_2, .slice a_p0_3 q_p0_3 c_p0_3], .int .i64 p1, .int .i64 p2, .int .i64 p3] m (fun v _ _ => v = .int .i64 r) := by
  refine Spec_enter Try.func35 rfl rfl rfl (fun w0 => ?_)
  refine WK.sub (e' := [(0, .agg #[.int .i64 p0_0, .int .i64 p0_1, .int .i64 p0_2, .slice a_p0_3 q_p0_3 c_p0_3]), (1, .int .i64 p1), (2, .int .i64 p2), (3, .int .i64 p3)]) ⟨rfl, rfl, rfl, rfl, trivial⟩ ?_
  obtain rfl := SlR.qlen h_p0_3
  refine WK.sub (e' := [(0, .agg #[.int .i64 p0_0, .int .i64 p0_1, .int .i64 p0_2, .slice a_p0_3 p0_3.length c_p0_3]), (1, .int .i64 p1), (2, .int .i64 p2), (3, .int .i64 p3)]) ⟨rfl, rfl, rfl, rfl, trivial⟩ ?_
  unfold fiduciallaw44_bitsOf at hm
  refine WK_seq ?_
  refine WK_region ?_
  refine WO_box [.int .i64 p0_0, .int .i64 p0_1, .int .i64 p0_2, .slice a_p0_3 p0_3.length c_p0_3] rfl rfl trivial rfl rfl rfl (fun b2 => ?_)
  refine WO.cls (C' := St w0 m m [[⟨b2, 24, [.int .i64 p0_0, .int .i64 p0_1, .int .i64 p0_2, .slice a_p0_3 p0_3.length c_p0_3]⟩]]) (fun _ h => h) ?_
  refine WO_pure tbok 1 [(1, .int .i64 p1), (2, .int .i64 p2), (3, .int .i64 p3), (4, .pointer (some ⟨b2, 0, none⟩)), (8, .int .i64 0)] rfl ⟨rfl, rfl, rfl, rfl, rfl, trivial⟩ ?_
  refine WO_end ?_
  refine WK_seq ?_
  refine WK_region ?_
  refine WO_pure tbok 2 [(1, .int .i64 p1), (2, .int .i64 p2), (3, .int .i64 p3), (4, .pointer (some ⟨b2, 0, none⟩)), (8, .int .i64 0), (9, .int .i64 0), (10, .int .i64 1)] rfl ⟨rfl, rfl, rfl, rfl, rfl, rfl, rfl, trivial⟩ ?_
  refine WO_end ?_
  refine WK_seq ?_
  refine WK_seq ?_
  refine WK_region ?_
  refine WO_pure tbok 3 [(1, .int .i64 p1), (2, .int .i64 p2), (3, .int .i64 p3), (4, .pointer (some ⟨b2, 0, none⟩)), (8, .int .i64 0), (9, .int .i64 0), (10, .int .i64 1), (11, .int .i64 (w64 (0 - p1)))] rfl ⟨rfl, rfl, rfl, rfl, rfl, rfl, rfl, rfl, trivial⟩ ?_
  refine WO_end ?_
  obtain ⟨x3, hx4, hm⟩ := bind_some hm
  refine WK_join (β := Int × Unit) (fun p => p.1 = x3) (fun p => [(8, .int .i64 0), (9, .int .i64 p.1)]) (fun p => St w0 m m [[⟨b2, 24, [.int .i64 p0_0, .int .i64 p0_1, .int .i64 p0_2, .slice a_p0_3 p0_3.length c_p0_3]⟩]]) ?_ (fun hk5 => ?_)
  · rintro ⟨s_4, ⟨⟩⟩ hq11
    subst hq11
    refine WK.sub (e' := [(8, .int .i64 0), (9, .int .i64 s_4)]) ⟨rfl, rfl, trivial⟩ (WK.cls (C' := St w0 m m [[⟨b2, 24, [.int .i64 p0_0, .int .i64 p0_1, .int .i64 p0_2, .slice a_p0_3 p0_3.length c_p0_3]⟩]]) (fun _ h => h) ?_)
    refine WK_seq ?_
    refine WK_region ?_
    refine WO_pure tbok 2 [(8, .int .i64 s_4)] rfl ⟨rfl, trivial⟩ ?_
    refine WO_end ?_
    cases hm
    exact WK_ret (ret_out (L := []) (RLc_tmp rfl RLc_nil) (List.nil_sublist _) rfl)
  · refine WK_block ?_
    refine WK_loop (S := Int × Int × Int) (G := Unit) (fun s => fiduciallaw44_bitsOf_s1 p0_0 p0_1 p0_2 p0_3 p1 p2 p3 s.1 s.2.1 s.2.2) (fun s g => [(1, .int .i64 p1), (2, .int .i64 p2), (3, .int .i64 p3), (4, .pointer (some ⟨b2, 0, none⟩)), (8, .int .i64 0), (9, .int .i64 s.1), (10, .int .i64 s.2.1), (11, .int .i64 s.2.2)]) (fun s g => St w0 m m [[⟨b2, 24, [.int .i64 p0_0, .int .i64 p0_1, .int .i64 p0_2, .slice a_p0_3 p0_3.length c_p0_3]⟩]]) (fun s g => True) FUEL (0, 1, w64 (0 - p1)) () x3 hx4 trivial ⟨rfl, rfl, rfl, rfl, rfl, rfl, rfl, rfl, trivial⟩ (fun _ h => h) ?_
    rintro ⟨s_1, s_2, s_3⟩ ⟨⟩ o7 fl8 hm6 - hn9 hd10
    have hm6 : fiduciallaw44_bitsOf_s1 p0_0 p0_1 p0_2 p0_3 p1 p2 p3 s_1 s_2 s_3 = some o7 := hm6
    unfold fiduciallaw44_bitsOf_s1 at hm6
    refine WK.sub (e' := [(1, .int .i64 p1), (2, .int .i64 p2), (3, .int .i64 p3), (4, .pointer (some ⟨b2, 0, none⟩)), (8, .int .i64 0), (9, .int .i64 s_1), (10, .int .i64 s_2), (11, .int .i64 s_3)]) ⟨rfl, rfl, rfl, rfl, rfl, rfl, rfl, rfl, trivial⟩ (WK.cls (C' := St w0 m m [[⟨b2, 24, [.int .i64 p0_0, .int .i64 p0_1, .int .i64 p0_2, .slice a_p0_3 p0_3.length c_p0_3]⟩]]) (fun _ h => h) ?_)
    refine WK_seq ?_
    refine WK_seq ?_
    refine WK_region ?_
    refine WO_pure tbok 3 [(1, .int .i64 p1), (2, .int .i64 p2), (3, .int .i64 p3), (4, .pointer (some ⟨b2, 0, none⟩)), (8, .int .i64 0), (9, .int .i64 s_1), (10, .int .i64 s_2), (11, .int .i64 s_3), (17, .bool (decide (s_3 ≤ p1)))] rfl ⟨rfl, rfl, rfl, rfl, rfl, rfl, rfl, rfl, rfl, trivial⟩ ?_
    refine WO_end ?_
    refine WK_cond (b := decide (s_3 ≤ p1)) rfl (fun hb12 => ?_) (fun hb12 => ?_)
    · have hm6 := ifT hb12 hm6
      refine WK_skip ?_
      refine WK_seq ?_
      refine WK_block ?_
      refine WK_seq ?_
      refine WK_region ?_
      refine WO_pure tbok 3 [(1, .int .i64 p1), (2, .int .i64 p2), (3, .int .i64 p3), (4, .pointer (some ⟨b2, 0, none⟩)), (8, .int .i64 0), (9, .int .i64 s_1), (10, .int .i64 s_2), (11, .int .i64 s_3), (12, .int .i64 (w64 (0 - p1)))] rfl ⟨rfl, rfl, rfl, rfl, rfl, rfl, rfl, rfl, rfl, trivial⟩ ?_
      refine WO_end ?_
      obtain ⟨x13, hx14, hm6⟩ := bind_some hm6
      refine WK_join (β := (Int × Int) × Unit) (fun p => p.1 = x13) (fun p => [(1, .int .i64 p1), (2, .int .i64 p2), (3, .int .i64 p3), (4, .pointer (some ⟨b2, 0, none⟩)), (8, .int .i64 0), (9, .int .i64 p.1.1), (10, .int .i64 p.1.2), (11, .int .i64 s_3)]) (fun p => St w0 m m [[⟨b2, 24, [.int .i64 p0_0, .int .i64 p0_1, .int .i64 p0_2, .slice a_p0_3 p0_3.length c_p0_3]⟩]]) ?_ (fun hk15 => ?_)
      · rintro ⟨⟨s_8, s_9⟩, ⟨⟩⟩ hq21
        subst hq21
        refine WK.sub (e' := [(1, .int .i64 p1), (2, .int .i64 p2), (3, .int .i64 p3), (4, .pointer (some ⟨b2, 0, none⟩)), (8, .int .i64 0), (9, .int .i64 s_8), (10, .int .i64 s_9), (11, .int .i64 s_3)]) ⟨rfl, rfl, rfl, rfl, rfl, rfl, rfl, rfl, trivial⟩ (WK.cls (C' := St w0 m m [[⟨b2, 24, [.int .i64 p0_0, .int .i64 p0_1, .int .i64 p0_2, .slice a_p0_3 p0_3.length c_p0_3]⟩]]) (fun _ h => h) ?_)
        refine WK_blk ?_
        refine WK_region ?_
        refine WO_pure tbok 3 [(1, .int .i64 p1), (2, .int .i64 p2), (3, .int .i64 p3), (4, .pointer (some ⟨b2, 0, none⟩)), (8, .int .i64 0), (9, .int .i64 s_8), (10, .int .i64 s_9), (11, .int .i64 (w64 (s_3 + 1)))] rfl ⟨rfl, rfl, rfl, rfl, rfl, rfl, rfl, rfl, trivial⟩ ?_
        refine WO_end ?_
        cases hm6
        refine WK.sub ?_ (WK.cls (fun _ h => h) (hn9 _ () rfl trivial))
        exact ⟨rfl, rfl, rfl, rfl, rfl, rfl, rfl, rfl, trivial⟩
      · refine WK_block ?_
        refine WK_loop (S := Int × Int × Int) (G := Unit) (fun s => fiduciallaw44_bitsOf_s2 p0_0 p0_1 p0_2 p0_3 p1 p2 p3 s_3 s.1 s.2.1 s.2.2) (fun s g => [(1, .int .i64 p1), (2, .int .i64 p2), (3, .int .i64 p3), (4, .pointer (some ⟨b2, 0, none⟩)), (8, .int .i64 0), (9, .int .i64 s.1), (10, .int .i64 s.2.1), (11, .int .i64 s_3), (12, .int .i64 s.2.2)]) (fun s g => St w0 m m [[⟨b2, 24, [.int .i64 p0_0, .int .i64 p0_1, .int .i64 p0_2, .slice a_p0_3 p0_3.length c_p0_3]⟩]]) (fun s g => True) FUEL (s_1, s_2, w64 (0 - p1)) () x13 hx14 trivial ⟨rfl, rfl, rfl, rfl, rfl, rfl, rfl, rfl, rfl, trivial⟩ (fun _ h => h) ?_
        rintro ⟨s_5, s_6, s_7⟩ ⟨⟩ o17 fl18 hm16 - hn19 hd20
        have hm16 : fiduciallaw44_bitsOf_s2 p0_0 p0_1 p0_2 p0_3 p1 p2 p3 s_3 s_5 s_6 s_7 = some o17 := hm16
        unfold fiduciallaw44_bitsOf_s2 at hm16
        refine WK.sub (e' := [(1, .int .i64 p1), (2, .int .i64 p2), (3, .int .i64 p3), (4, .pointer (some ⟨b2, 0, none⟩)), (8, .int .i64 0), (9, .int .i64 s_5), (10, .int .i64 s_6), (11, .int .i64 s_3), (12, .int .i64 s_7)]) ⟨rfl, rfl, rfl, rfl, rfl, rfl, rfl, rfl, rfl, trivial⟩ (WK.cls (C' := St w0 m m [[⟨b2, 24, [.int .i64 p0_0, .int .i64 p0_1, .int .i64 p0_2, .slice a_p0_3 p0_3.length c_p0_3]⟩]]) (fun _ h => h) ?_)
        refine WK_seq ?_
        refine WK_seq ?_
        refine WK_region ?_
        refine WO_pure tbok 3 [(1, .int .i64 p1), (2, .int .i64 p2), (3, .int .i64 p3), (4, .pointer (some ⟨b2, 0, none⟩)), (8, .int .i64 0), (9, .int .i64 s_5), (10, .int .i64 s_6), (11, .int .i64 s_3), (12, .int .i64 s_7), (24, .bool (decide (s_7 ≤ p1)))] rfl ⟨rfl, rfl, rfl, rfl, rfl, rfl, rfl, rfl, rfl, rfl, trivial⟩ ?_
        refine WO_end ?_
        refine WK_cond (b := decide (s_7 ≤ p1)) rfl (fun hb22 => ?_) (fun hb22 => ?_)
        · have hm16 := ifT hb22 hm16
          refine WK_skip ?_
          refine WK_seq ?_
          refine WK_block ?_
          refine WK_seq ?_
          refine WK_seq ?_
          obtain ⟨s_10, hx23, hm16⟩ := bind_some hm16
          refine WK_meet [(1, .int .i64 p1), (2, .int .i64 p2), (3, .int .i64 p3), (4, .pointer (some ⟨b2, 0, none⟩)), (8, .int .i64 0), (9, .int .i64 s_5), (10, .int .i64 s_6), (11, .int .i64 s_3), (12, .int .i64 s_7), (32, .bool s_10)] (St w0 m m [[⟨b2, 24, [.int .i64 p0_0, .int .i64 p0_1, .int .i64 p0_2, .slice a_p0_3 p0_3.length c_p0_3]⟩]]) ?_ (fun hk24 => ?_)
          · refine WK_cond (b := s_10) rfl (fun hb25 => ?_) (fun hb25 => ?_)
            · have hm16 := ifT hb25 hm16
              refine WK_exit rfl ?_
              refine WK_region ?_
              refine WO_pure tbok 3 [(1, .int .i64 p1), (2, .int .i64 p2), (3, .int .i64 p3), (4, .pointer (some ⟨b2, 0, none⟩)), (8, .int .i64 0), (9, .int .i64 s_5), (10, .int .i64 s_6), (11, .int .i64 s_3), (12, .int .i64 (w64 (s_7 + 1)))] rfl ⟨rfl, rfl, rfl, rfl, rfl, rfl, rfl, rfl, rfl, trivial⟩ ?_
              refine WO_end ?_
              cases hm16
              refine WK.sub ?_ (WK.cls (fun _ h => h) (hn19 _ () rfl trivial))
              exact ⟨rfl, rfl, rfl, rfl, rfl, rfl, rfl, rfl, rfl, trivial⟩
            · have hm16 := ifF hb25 hm16
              refine WK_skip ?_
              refine WK_seq ?_
              refine WK_seq ?_
              obtain ⟨s_11, hx26, hm16⟩ := bind_some hm16
              refine WK_meet [(1, .int .i64 p1), (2, .int .i64 p2), (3, .int .i64 p3), (4, .pointer (some ⟨b2, 0, none⟩)), (8, .int .i64 0), (9, .int .i64 s_5), (10, .int .i64 s_6), (11, .int .i64 s_3), (12, .int .i64 s_7), (67, .bool s_11)] (St w0 m m [[⟨b2, 24, [.int .i64 p0_0, .int .i64 p0_1, .int .i64 p0_2, .slice a_p0_3 p0_3.length c_p0_3]⟩]]) ?_ (fun hk27 => ?_)
              · obtain ⟨s_12, hx28, hm16⟩ := bind_some hm16
                refine WK_meet [(1, .int .i64 p1), (2, .int .i64 p2), (3, .int .i64 p3), (4, .pointer (some ⟨b2, 0, none⟩)), (8, .int .i64 0), (9, .int .i64 s_12), (10, .int .i64 s_6), (11, .int .i64 s_3), (12, .int .i64 s_7)] (St w0 m m [[⟨b2, 24, [.int .i64 p0_0, .int .i64 p0_1, .int .i64 p0_2, .slice a_p0_3 p0_3.length c_p0_3]⟩]]) ?_ (fun hk29 => ?_)
                · refine WK_region ?_
                  refine WO_pure tbok 3 [(1, .int .i64 p1), (2, .int .i64 p2), (3, .int .i64 p3), (4, .pointer (some ⟨b2, 0, none⟩)), (8, .int .i64 0), (9, .int .i64 s_12), (10, .int .i64 (w64 (s_6 * 2))), (11, .int .i64 s_3), (12, .int .i64 s_7)] rfl ⟨rfl, rfl, rfl, rfl, rfl, rfl, rfl, rfl, rfl, trivial⟩ ?_
                  refine WO_end ?_
                  refine WK_blk ?_
                  refine WK_region ?_
                  refine WO_pure tbok 3 [(1, .int .i64 p1), (2, .int .i64 p2), (3, .int .i64 p3), (4, .pointer (some ⟨b2, 0, none⟩)), (8, .int .i64 0), (9, .int .i64 s_12), (10, .int .i64 (w64 (s_6 * 2))), (11, .int .i64 s_3), (12, .int .i64 (w64 (s_7 + 1)))] rfl ⟨rfl, rfl, rfl, rfl, rfl, rfl, rfl, rfl, rfl, trivial⟩ ?_
                  refine WO_end ?_
                  cases hm16
                  refine WK.sub ?_ (WK.cls (fun _ h => h) (hn19 _ () rfl trivial))
                  exact ⟨rfl, rfl, rfl, rfl, rfl, rfl, rfl, rfl, rfl, trivial⟩
                · refine WK_cond (b := s_11) rfl (fun hb30 => ?_) (fun hb30 => ?_)
                  · have hx28 := ifT hb30 hx28
                    refine WK_region ?_
                    refine WO_pure tbok 4 [(1, .int .i64 p1), (2, .int .i64 p2), (3, .int .i64 p3), (4, .pointer (some ⟨b2, 0, none⟩)), (8, .int .i64 0), (9, .int .i64 (w64 (s_5 + s_6))), (10, .int .i64 s_6), (11, .int .i64 s_3), (12, .int .i64 s_7)] rfl ⟨rfl, rfl, rfl, rfl, rfl, rfl, rfl, rfl, rfl, trivial⟩ ?_
                    refine WO_end ?_
                    cases hx28
                    refine WK.sub ?_ (WK.cls (fun _ h => h) hk29)
                    exact ⟨rfl, rfl, rfl, rfl, rfl, rfl, rfl, rfl, rfl, trivial⟩
                  · have hx28 := ifF hb30 hx28
                    refine WK_skip ?_
                    cases hx28
                    refine WK.sub ?_ (WK.cls (fun _ h => h) hk29)
                    exact ⟨rfl, rfl, rfl, rfl, rfl, rfl, rfl, rfl, rfl, trivial⟩
              · refine WK_draw 35 [0, 1, 2, 3, 4, 5, 6, 7, 8, 9, 10, 11, 12, 13, 14, 15, 16, 17, 18, 19, 20, 21, 22, 23, 24, 25, 26, 27, 28, 29, 30, 31, 32, 33, 34] follows_ok (by kernel_rfl) St_closed ?_
                refine WO_loadB tbok 0 rfl rfl rfl rfl (fun _ h => h) rfl rfl ?_
                refine WO_pure tbok 6 [(1, .int .i64 p1), (2, .int .i64 p2), (3, .int .i64 p3), (4, .pointer (some ⟨b2, 0, none⟩)), (8, .int .i64 0), (9, .int .i64 s_5), (10, .int .i64 s_6), (11, .int .i64 s_3), (12, .int .i64 s_7), (33, .agg #[.int .i64 p0_0, .int .i64 p0_1, .int .i64 p0_2, .slice a_p0_3 p0_3.length c_p0_3]), (36, .int .i64 (w64 (p2 + s_7))), (39, .int .i64 (w64 (p3 + s_3)))] rfl ⟨rfl, rfl, rfl, rfl, rfl, rfl, rfl, rfl, rfl, rfl, rfl, rfl, trivial⟩ ?_
                obtain ⟨y_13, hc31, hx26⟩ := bind_some hx26
                refine WO_call0 (.bool y_13) rfl rfl St_closed rfl rfl rfl rfl St_closed ⟨50, #[], #[], rfl, callable_50, fun w hw => ⟨_, hw.sat, fiduciallaw44_inside_walk h_p0_3 hc31⟩⟩ ?_
                refine WO_pure tbok 1 [(1, .int .i64 p1), (2, .int .i64 p2), (3, .int .i64 p3), (4, .pointer (some ⟨b2, 0, none⟩)), (8, .int .i64 0), (9, .int .i64 s_5), (10, .int .i64 s_6), (11, .int .i64 s_3), (12, .int .i64 s_7), (41, .bool y_13)] rfl ⟨rfl, rfl, rfl, rfl, rfl, rfl, rfl, rfl, rfl, rfl, trivial⟩ ?_
                refine WO_split (d := 41) (b := y_13) rfl (fun hb32 => ?_) (fun hb32 => ?_)
                · have hx26 := ifT hb32 hx26
                  refine WO_pure tbok 1 [(1, .int .i64 p1), (2, .int .i64 p2), (3, .int .i64 p3), (4, .pointer (some ⟨b2, 0, none⟩)), (8, .int .i64 0), (9, .int .i64 s_5), (10, .int .i64 s_6), (11, .int .i64 s_3), (12, .int .i64 s_7), (41, .bool true), (42, .pointer (some ⟨b2, 3, none⟩))] rfl ⟨rfl, rfl, rfl, rfl, rfl, rfl, rfl, rfl, rfl, rfl, rfl, trivial⟩ ?_
                  refine WO_loadB tbok 0 rfl rfl rfl rfl (fun _ h => h) rfl rfl ?_
                  refine WO_pure tbok 4 [(1, .int .i64 p1), (2, .int .i64 p2), (3, .int .i64 p3), (4, .pointer (some ⟨b2, 0, none⟩)), (8, .int .i64 0), (9, .int .i64 s_5), (10, .int .i64 s_6), (11, .int .i64 s_3), (12, .int .i64 s_7), (41, .bool true), (43, .slice a_p0_3 p0_3.length c_p0_3), (46, .int .i64 (w64 (p3 + s_3))), (47, .pointer (some ⟨b2, 0, none⟩))] rfl ⟨rfl, rfl, rfl, rfl, rfl, rfl, rfl, rfl, rfl, rfl, rfl, rfl, rfl, trivial⟩ ?_
                  refine WO_loadB tbok 0 rfl rfl rfl rfl (fun _ h => h) rfl rfl ?_
                  refine WO_pure tbok 5 [(1, .int .i64 p1), (2, .int .i64 p2), (3, .int .i64 p3), (4, .pointer (some ⟨b2, 0, none⟩)), (8, .int .i64 0), (9, .int .i64 s_5), (10, .int .i64 s_6), (11, .int .i64 s_3), (12, .int .i64 s_7), (41, .bool true), (43, .slice a_p0_3 p0_3.length c_p0_3), (53, .int .i64 (w64 ((w64 ((w64 ((w64 (p3 + s_3)) * p0_0)) + p2)) + s_7)))] rfl ⟨rfl, rfl, rfl, rfl, rfl, rfl, rfl, rfl, rfl, rfl, rfl, rfl, trivial⟩ ?_
                  obtain ⟨v_14, hy33, hx26⟩ := bind_some hx26
                  obtain ⟨hc34, hy33⟩ := ix_some hy33
                  refine WO_index tbok rfl rfl rfl rfl rfl rfl rfl rfl (SlR.addr h_p0_3) hc34 ?_
                  refine WO_loadE tbok rfl rfl rfl rfl (fun _ h => St.sat h) h_p0_3 hy33 rfl ?_
                  refine WO_pure tbok 1 [(1, .int .i64 p1), (2, .int .i64 p2), (3, .int .i64 p3), (4, .pointer (some ⟨b2, 0, none⟩)), (8, .int .i64 0), (9, .int .i64 s_5), (10, .int .i64 s_6), (11, .int .i64 s_3), (12, .int .i64 s_7), (41, .bool true), (55, .int .i64 v_14), (56, .pointer (some ⟨b2, 3, none⟩))] rfl ⟨rfl, rfl, rfl, rfl, rfl, rfl, rfl, rfl, rfl, rfl, rfl, rfl, trivial⟩ ?_
                  refine WO_loadB tbok 0 rfl rfl rfl rfl (fun _ h => h) rfl rfl ?_
                  refine WO_pure tbok 2 [(1, .int .i64 p1), (2, .int .i64 p2), (3, .int .i64 p3), (4, .pointer (some ⟨b2, 0, none⟩)), (8, .int .i64 0), (9, .int .i64 s_5), (10, .int .i64 s_6), (11, .int .i64 s_3), (12, .int .i64 s_7), (41, .bool true), (55, .int .i64 v_14), (57, .slice a_p0_3 p0_3.length c_p0_3), (58, .int .i64 p3), (59, .pointer (some ⟨b2, 0, none⟩))] rfl ⟨rfl, rfl, rfl, rfl, rfl, rfl, rfl, rfl, rfl, rfl, rfl, rfl, rfl, rfl, trivial⟩ ?_
                  refine WO_loadB tbok 0 rfl rfl rfl rfl (fun _ h => h) rfl rfl ?_
                  refine WO_pure tbok 3 [(1, .int .i64 p1), (2, .int .i64 p2), (3, .int .i64 p3), (4, .pointer (some ⟨b2, 0, none⟩)), (8, .int .i64 0), (9, .int .i64 s_5), (10, .int .i64 s_6), (11, .int .i64 s_3), (12, .int .i64 s_7), (41, .bool true), (55, .int .i64 v_14), (57, .slice a_p0_3 p0_3.length c_p0_3), (63, .int .i64 (w64 ((w64 (p3 * p0_0)) + p2)))] rfl ⟨rfl, rfl, rfl, rfl, rfl, rfl, rfl, rfl, rfl, rfl, rfl, rfl, rfl, trivial⟩ ?_
                  obtain ⟨v_15, hy35, hx26⟩ := bind_some hx26
                  obtain ⟨hc36, hy35⟩ := ix_some hy35
                  refine WO_index tbok rfl rfl rfl rfl rfl rfl rfl rfl (SlR.addr h_p0_3) hc36 ?_
                  refine WO_loadE tbok rfl rfl rfl rfl (fun _ h => St.sat h) h_p0_3 hy35 rfl ?_
                  refine WO_pure tbok 2 [(1, .int .i64 p1), (2, .int .i64 p2), (3, .int .i64 p3), (4, .pointer (some ⟨b2, 0, none⟩)), (8, .int .i64 0), (9, .int .i64 s_5), (10, .int .i64 s_6), (11, .int .i64 s_3), (12, .int .i64 s_7), (67, .bool (decide (v_14 < v_15)))] rfl ⟨rfl, rfl, rfl, rfl, rfl, rfl, rfl, rfl, rfl, rfl, trivial⟩ ?_
                  refine WO_tail ?_
                  refine WO_end ?_
                  cases hx26
                  refine WK.sub ?_ (WK.cls (fun _ h => h) hk27)
                  exact ⟨rfl, rfl, rfl, rfl, rfl, rfl, rfl, rfl, rfl, rfl, trivial⟩
                · have hx26 := ifF hb32 hx26
                  refine WO_pure tbok 26 [(1, .int .i64 p1), (2, .int .i64 p2), (3, .int .i64 p3), (4, .pointer (some ⟨b2, 0, none⟩)), (8, .int .i64 0), (9, .int .i64 s_5), (10, .int .i64 s_6), (11, .int .i64 s_3), (12, .int .i64 s_7), (67, .bool false)] rfl ⟨rfl, rfl, rfl, rfl, rfl, rfl, rfl, rfl, rfl, rfl, trivial⟩ ?_
                  refine WO_tail ?_
                  refine WO_end ?_
                  cases hx26
                  refine WK.sub ?_ (WK.cls (fun _ h => h) hk27)
                  exact ⟨rfl, rfl, rfl, rfl, rfl, rfl, rfl, rfl, rfl, rfl, trivial⟩
          · refine WK_region ?_
            refine WO_pure tbok 3 [(1, .int .i64 p1), (2, .int .i64 p2), (3, .int .i64 p3), (4, .pointer (some ⟨b2, 0, none⟩)), (8, .int .i64 0), (9, .int .i64 s_5), (10, .int .i64 s_6), (11, .int .i64 s_3), (12, .int .i64 s_7), (29, .bool (s_7 == 0))] rfl ⟨rfl, rfl, rfl, rfl, rfl, rfl, rfl, rfl, rfl, rfl, trivial⟩ ?_
            refine WO_split (d := 29) (b := s_7 == 0) rfl (fun hb37 => ?_) (fun hb37 => ?_)
            · have hx23 := ifT hb37 hx23
              refine WO_pure tbok 3 [(1, .int .i64 p1), (2, .int .i64 p2), (3, .int .i64 p3), (4, .pointer (some ⟨b2, 0, none⟩)), (8, .int .i64 0), (9, .int .i64 s_5), (10, .int .i64 s_6), (11, .int .i64 s_3), (12, .int .i64 s_7), (32, .bool (s_3 == 0))] rfl ⟨rfl, rfl, rfl, rfl, rfl, rfl, rfl, rfl, rfl, rfl, trivial⟩ ?_
              refine WO_end ?_
              cases hx23
              refine WK.sub ?_ (WK.cls (fun _ h => h) hk24)
              exact ⟨rfl, rfl, rfl, rfl, rfl, rfl, rfl, rfl, rfl, rfl, trivial⟩
            · have hx23 := ifF hb37 hx23
              refine WO_pure tbok 3 [(1, .int .i64 p1), (2, .int .i64 p2), (3, .int .i64 p3), (4, .pointer (some ⟨b2, 0, none⟩)), (8, .int .i64 0), (9, .int .i64 s_5), (10, .int .i64 s_6), (11, .int .i64 s_3), (12, .int .i64 s_7), (32, .bool false)] rfl ⟨rfl, rfl, rfl, rfl, rfl, rfl, rfl, rfl, rfl, rfl, trivial⟩ ?_
              refine WO_end ?_
              cases hx23
              refine WK.sub ?_ (WK.cls (fun _ h => h) hk24)
              exact ⟨rfl, rfl, rfl, rfl, rfl, rfl, rfl, rfl, rfl, rfl, trivial⟩
        · have hm16 := ifF hb22 hm16
          refine WK_exit rfl ?_
          cases hm16
          refine WK.sub ?_ (WK.cls (fun _ h => h) (hk15 ((s_5, s_6), ()) (hd20 _ rfl)))
          exact ⟨rfl, rfl, rfl, rfl, rfl, rfl, rfl, rfl, trivial⟩
    · have hm6 := ifF hb12 hm6
      refine WK_exit rfl ?_
      cases hm6
      refine WK.sub ?_ (WK.cls (fun _ h => h) (hk5 (s_1, ()) (hd10 _ rfl)))
      exact ⟨rfl, rfl, trivial⟩
def fiduciallaw44_transformed_Q (r : List Int × Int) : Value → List Ent → Prop := fun v L => ∃ (a0 : Option Addr) (q0 c0 : Nat), v = .tuple #[.slice a0 q0 c0, .int .i64 r.2] ∧ OwnE 3 1 (I1 .i64) (.slice a0 q0 c0) r.1 L
theorem fiduciallaw44_transformed_walk {m : Mu} {p0_0 : Int} {p0_1 : Int} {p0_2 : Int} {p0_3 : List Int} {p1 : Int} {a_p0_3 : Option Addr} {q_p0_3 c_p0_3 : Nat} (h_p0_3 : SlR (FE (I1 .i64)) 1 m (.slice a_p0_3 q_p0_3 c_p0_3) p0_3) {r : List Int × Int} (hm : fiduciallaw44_transformed p0_0 p0_1 p0_2 p0_3 p1 = some r) :
    Go.E.Spec Try.prog 14 [.agg #[.int .i64 p0_0, .int .i64 p0_1, .int .i64 p0_2, .slice a_p0_3 q_p0_3 c_p0_3], .int .i64 p1] m (fun v _ L => fiduciallaw44_transformed_Q r v L) := by
  refine Spec_enter Try.func14 rfl rfl rfl (fun w0 => ?_)
  refine WK.sub (e' := [(0, .agg #[.int .i64 p0_0, .int .i64 p0_1, .int .i64 p0_2, .slice a_p0_3 q_p0_3 c_p0_3]), (1, .int .i64 p1)]) ⟨rfl, rfl, trivial⟩ ?_
  obtain rfl := SlR.qlen h_p0_3
  refine WK.sub (e' := [(0, .agg #[.int .i64 p0_0, .int .i64 p0_1, .int .i64 p0_2, .slice a_p0_3 p0_3.length c_p0_3]), (1, .int .i64 p1)]) ⟨rfl, rfl, trivial⟩ ?_
  unfold fiduciallaw44_transformed at hm
  refine WK_seq ?_
  refine WK_region ?_
  refine WO_box [.int .i64 p0_0, .int .i64 p0_1, .int .i64 p0_2, .slice a_p0_3 p0_3.length c_p0_3] rfl rfl trivial rfl rfl rfl (fun b2 => ?_)
  refine WO.cls (C' := St w0 m m [[⟨b2, 24, [.int .i64 p0_0, .int .i64 p0_1, .int .i64 p0_2, .slice a_p0_3 p0_3.length c_p0_3]⟩]]) (fun _ h => h) ?_
  refine WO_pure tbok 2 [(1, .int .i64 p1), (2, .pointer (some ⟨b2, 0, none⟩)), (4, .slice none 0 0), (5, .int .i64 0)] rfl ⟨rfl, rfl, rfl, rfl, trivial⟩ ?_
  refine WO_end ?_
  refine WK_seq ?_
  refine WK_seq ?_
  refine WK_region ?_
  refine WO_loadB tbok 0 rfl rfl rfl rfl (fun _ h => h) rfl rfl ?_
  obtain ⟨y_1, hc3, hm⟩ := bind_some hm
  refine WO_call0 (.int .i64 y_1) rfl rfl trivial rfl rfl rfl rfl St_closed ⟨26, #[], #[], rfl, callable_26, fun w hw => ⟨_, hw.sat, fiducialref13_Check_walk h_p0_3 hc3⟩⟩ ?_
  refine WO_pure tbok 1 [(1, .int .i64 p1), (2, .pointer (some ⟨b2, 0, none⟩)), (4, .slice none 0 0), (5, .int .i64 0), (6, .int .i64 y_1)] rfl ⟨rfl, rfl, rfl, rfl, rfl, trivial⟩ ?_
  refine WO_end ?_
  refine WK_seq ?_
  refine WK_region ?_
  refine WO_pure tbok 2 [(1, .int .i64 p1), (2, .pointer (some ⟨b2, 0, none⟩)), (4, .slice none 0 0), (5, .int .i64 0), (6, .int .i64 y_1), (13, .bool (y_1 != 0))] rfl ⟨rfl, rfl, rfl, rfl, rfl, rfl, trivial⟩ ?_
  refine WO_end ?_
  refine WK_cond (b := y_1 != 0) rfl (fun hb4 => ?_) (fun hb4 => ?_)
  · have hm := ifT hb4 hm
    refine WK_seq ?_
    refine WK_region ?_
    refine WO_pure tbok 3 [(1, .int .i64 p1), (2, .pointer (some ⟨b2, 0, none⟩)), (4, .slice none 0 0), (5, .int .i64 y_1)] rfl ⟨rfl, rfl, rfl, rfl, trivial⟩ ?_
    refine WO_end ?_
    cases hm
    exact WK_ret (ret_out (L := []) (RLc_tmp rfl (RLc_tmp rfl RLc_nil)) (List.nil_sublist _) ⟨none, 0, 0, rfl, (OwnE.nil none)⟩)
  · have hm := ifF hb4 hm
    refine WK_skip ?_
    refine WK_seq ?_
    refine WK_seq ?_
    obtain ⟨s_2, hx5, hm⟩ := bind_some hm
    refine WK_meet [(1, .int .i64 p1), (2, .pointer (some ⟨b2, 0, none⟩)), (4, .slice none 0 0), (5, .int .i64 0), (20, .bool s_2)] (St w0 m m [[⟨b2, 24, [.int .i64 p0_0, .int .i64 p0_1, .int .i64 p0_2, .slice a_p0_3 p0_3.length c_p0_3]⟩]]) ?_ (fun hk6 => ?_)
    · refine WK_cond (b := s_2) rfl (fun hb7 => ?_) (fun hb7 => ?_)
      · have hm := ifT hb7 hm
        refine WK_seq ?_
        refine WK_region ?_
        refine WO_pure tbok 2 [(1, .int .i64 p1), (2, .pointer (some ⟨b2, 0, none⟩)), (4, .slice none 0 0), (5, .int .i64 2)] rfl ⟨rfl, rfl, rfl, rfl, trivial⟩ ?_
        refine WO_end ?_
        cases hm
        exact WK_ret (ret_out (L := []) (RLc_tmp rfl (RLc_tmp rfl RLc_nil)) (List.nil_sublist _) ⟨none, 0, 0, rfl, (OwnE.nil none)⟩)
      · have hm := ifF hb7 hm
        refine WK_skip ?_
        refine WK_seq ?_
        refine WK_region ?_
        refine WO_pure tbok 1 [(1, .int .i64 p1), (2, .pointer (some ⟨b2, 0, none⟩)), (4, .slice none 0 0), (5, .int .i64 0), (7, .slice none 0 0)] rfl ⟨rfl, rfl, rfl, rfl, rfl, trivial⟩ ?_
        refine WO_end ?_
        refine WK_seq ?_
        refine WK_seq ?_
        refine WK_region ?_
        refine WO_pure tbok 1 [(1, .int .i64 p1), (2, .pointer (some ⟨b2, 0, none⟩)), (4, .slice none 0 0), (5, .int .i64 0), (7, .slice none 0 0), (21, .pointer (some ⟨b2, 1, none⟩))] rfl ⟨rfl, rfl, rfl, rfl, rfl, rfl, trivial⟩ ?_
        refine WO_loadB tbok 0 rfl rfl rfl rfl (fun _ h => h) rfl rfl ?_
        refine WO_pure tbok 1 [(1, .int .i64 p1), (2, .pointer (some ⟨b2, 0, none⟩)), (4, .slice none 0 0), (5, .int .i64 0), (7, .slice none 0 0), (22, .int .i64 p0_1), (23, .int .i64 0)] rfl ⟨rfl, rfl, rfl, rfl, rfl, rfl, rfl, trivial⟩ ?_
        refine WO_end ?_
        refine WK_pad ?_
        obtain ⟨x19, hx20, hm⟩ := bind_some hm
        refine WK_join (β := (List Int) × (Option Addr × Nat × Nat × List Ent)) (fun p => p.1 = x19 ∧ OwnE 3 1 (I1 .i64) (.slice p.2.1 p.2.2.1 p.2.2.2.1) p.1 p.2.2.2.2) (fun p => [(4, .slice none 0 0), (5, .int .i64 0), (7, .slice p.2.1 p.2.2.1 p.2.2.2.1)]) (fun p => St w0 m m [[⟨b2, 24, [.int .i64 p0_0, .int .i64 p0_1, .int .i64 p0_2, .slice a_p0_3 p0_3.length c_p0_3]⟩], p.2.2.2.2]) ?_ (fun hk21 => ?_)
        · rintro ⟨l_5, ⟨a16, q17, c18, L15⟩⟩ ⟨hq27, hL15⟩
          subst hq27
          have hqq : q17 = l_5.length := OwnE.qlen hL15
          subst hqq
          refine WK.sub (e' := [(4, .slice none 0 0), (5, .int .i64 0), (7, .slice a16 ((l_5).length) c18)]) ⟨rfl, rfl, rfl, trivial⟩ (WK.cls (C' := St w0 m m [[⟨b2, 24, [.int .i64 p0_0, .int .i64 p0_1, .int .i64 p0_2, .slice a_p0_3 p0_3.length c_p0_3]⟩], L15]) (fun _ h => h) ?_)
          refine WK_seq ?_
          refine WK_region ?_
          refine WO_pure tbok 3 [(4, .slice a16 ((l_5).length) c18), (5, .int .i64 0)] rfl ⟨rfl, rfl, trivial⟩ ?_
          refine WO_end ?_
          cases hm
          exact WK_ret (ret_out (L := L15) (RLc_tmp rfl (RLc_tmp rfl RLc_nil)) (seg_sub 1 rfl) ⟨a16, _, c18, rfl, hL15⟩)
        · refine WK_block ?_
          refine WK_loop (S := List Int × Int) (G := Option Addr × Nat × Nat × List Ent) (fun s => fiduciallaw44_transformed_s1 p0_0 p0_1 p0_2 p0_3 p1 s.1 s.2) (fun s g => [(1, .int .i64 p1), (2, .pointer (some ⟨b2, 0, none⟩)), (4, .slice none 0 0), (5, .int .i64 0), (7, .slice g.1 g.2.1 g.2.2.1), (22, .int .i64 p0_1), (23, .int .i64 s.2)]) (fun s g => St w0 m m [[⟨b2, 24, [.int .i64 p0_0, .int .i64 p0_1, .int .i64 p0_2, .slice a_p0_3 p0_3.length c_p0_3]⟩], g.2.2.2]) (fun s g => OwnE 3 1 (I1 .i64) (.slice g.1 g.2.1 g.2.2.1) s.1 g.2.2.2) FUEL (([] : List Int), 0) (none, 0, 0, []) x19 hx20 (OwnE.nil (T := 3) (k := 1) (E := (I1 .i64)) none) ⟨rfl, rfl, rfl, rfl, rfl, rfl, rfl, trivial⟩ (fun _ h => h) ?_
          rintro ⟨l_3, s_4⟩ ⟨a11, q12, c13, L10⟩ o23 fl24 hm22 hL10 hn25 hd26
          have hm22 : fiduciallaw44_transformed_s1 p0_0 p0_1 p0_2 p0_3 p1 l_3 s_4 = some o23 := hm22
          unfold fiduciallaw44_transformed_s1 at hm22
          have hqq : q12 = l_3.length := OwnE.qlen hL10
          subst hqq
          refine WK.sub (e' := [(1, .int .i64 p1), (2, .pointer (some ⟨b2, 0, none⟩)), (4, .slice none 0 0), (5, .int .i64 0), (7, .slice a11 ((l_3).length) c13), (22, .int .i64 p0_1), (23, .int .i64 s_4)]) ⟨rfl, rfl, rfl, rfl, rfl, rfl, rfl, trivial⟩ (WK.cls (C' := St w0 m m [[⟨b2, 24, [.int .i64 p0_0, .int .i64 p0_1, .int .i64 p0_2, .slice a_p0_3 p0_3.length c_p0_3]⟩], L10]) (fun _ h => h) ?_)
          refine WK_seq ?_
          refine WK_region ?_
          refine WO_pure tbok 1 [(1, .int .i64 p1), (2, .pointer (some ⟨b2, 0, none⟩)), (4, .slice none 0 0), (5, .int .i64 0), (7, .slice a11 ((l_3).length) c13), (22, .int .i64 p0_1), (23, .int .i64 s_4), (24, .bool (decide (s_4 < p0_1)))] rfl ⟨rfl, rfl, rfl, rfl, rfl, rfl, rfl, rfl, trivial⟩ ?_
          refine WO_end ?_
          refine WK_seq ?_
          refine WK_cond (b := decide (s_4 < p0_1)) rfl (fun hb28 => ?_) (fun hb28 => ?_)
          · have hm22 := ifT hb28 hm22
            refine WK_skip ?_
            refine WK_seq ?_
            refine WK_block ?_
            refine WK_seq ?_
            refine WK_region ?_
            refine WO_pure tbok 2 [(1, .int .i64 p1), (2, .pointer (some ⟨b2, 0, none⟩)), (4, .slice none 0 0), (5, .int .i64 0), (7, .slice a11 ((l_3).length) c13), (8, .int .i64 s_4), (22, .int .i64 p0_1), (23, .int .i64 s_4)] rfl ⟨rfl, rfl, rfl, rfl, rfl, rfl, rfl, rfl, trivial⟩ ?_
            refine WO_end ?_
            refine WK_seq ?_
            refine WK_region ?_
            refine WO_pure tbok 1 [(1, .int .i64 p1), (2, .pointer (some ⟨b2, 0, none⟩)), (4, .slice none 0 0), (5, .int .i64 0), (7, .slice a11 ((l_3).length) c13), (8, .int .i64 s_4), (22, .int .i64 p0_1), (23, .int .i64 s_4), (26, .pointer (some ⟨b2, 0, none⟩))] rfl ⟨rfl, rfl, rfl, rfl, rfl, rfl, rfl, rfl, rfl, trivial⟩ ?_
            refine WO_loadB tbok 0 rfl rfl rfl rfl (fun _ h => h) rfl rfl ?_
            refine WO_pure tbok 1 [(1, .int .i64 p1), (2, .pointer (some ⟨b2, 0, none⟩)), (4, .slice none 0 0), (5, .int .i64 0), (7, .slice a11 ((l_3).length) c13), (8, .int .i64 s_4), (22, .int .i64 p0_1), (23, .int .i64 s_4), (27, .int .i64 p0_0), (28, .int .i64 0)] rfl ⟨rfl, rfl, rfl, rfl, rfl, rfl, rfl, rfl, rfl, rfl, trivial⟩ ?_
            refine WO_end ?_
            obtain ⟨x39, hx40, hm22⟩ := bind_some hm22
            refine WK_join (β := (List Int) × (Option Addr × Nat × Nat × List Ent)) (fun p => p.1 = x39 ∧ OwnE 3 1 (I1 .i64) (.slice p.2.1 p.2.2.1 p.2.2.2.1) p.1 p.2.2.2.2) (fun p => [(1, .int .i64 p1), (2, .pointer (some ⟨b2, 0, none⟩)), (4, .slice none 0 0), (5, .int .i64 0), (7, .slice p.2.1 p.2.2.1 p.2.2.2.1), (22, .int .i64 p0_1), (23, .int .i64 s_4)]) (fun p => St w0 m m [[⟨b2, 24, [.int .i64 p0_0, .int .i64 p0_1, .int .i64 p0_2, .slice a_p0_3 p0_3.length c_p0_3]⟩], p.2.2.2.2]) ?_ (fun hk41 => ?_)
            · rintro ⟨l_8, ⟨a36, q37, c38, L35⟩⟩ ⟨hq47, hL35⟩
              subst hq47
              have hqq : q37 = l_8.length := OwnE.qlen hL35
              subst hqq
              refine WK.sub (e' := [(1, .int .i64 p1), (2, .pointer (some ⟨b2, 0, none⟩)), (4, .slice none 0 0), (5, .int .i64 0), (7, .slice a36 ((l_8).length) c38), (22, .int .i64 p0_1), (23, .int .i64 s_4)]) ⟨rfl, rfl, rfl, rfl, rfl, rfl, rfl, trivial⟩ (WK.cls (C' := St w0 m m [[⟨b2, 24, [.int .i64 p0_0, .int .i64 p0_1, .int .i64 p0_2, .slice a_p0_3 p0_3.length c_p0_3]⟩], L35]) (fun _ h => h) ?_)
              refine WK_blk ?_
              refine WK_region ?_
              refine WO_pure tbok 2 [(1, .int .i64 p1), (2, .pointer (some ⟨b2, 0, none⟩)), (4, .slice none 0 0), (5, .int .i64 0), (7, .slice a36 ((l_8).length) c38), (22, .int .i64 p0_1), (23, .int .i64 (w64 (s_4 + 1)))] rfl ⟨rfl, rfl, rfl, rfl, rfl, rfl, rfl, trivial⟩ ?_
              refine WO_end ?_
              cases hm22
              refine WK.sub ?_ (WK.cls (fun _ h => h) (hn25 _ (a36, _, c38, L35) rfl hL35))
              exact ⟨rfl, rfl, rfl, rfl, rfl, rfl, rfl, trivial⟩
            · refine WK_block ?_
              refine WK_loop (S := List Int × Int) (G := Option Addr × Nat × Nat × List Ent) (fun s => fiduciallaw44_transformed_s2 p0_0 p0_1 p0_2 p0_3 p1 s_4 s.1 s.2) (fun s g => [(1, .int .i64 p1), (2, .pointer (some ⟨b2, 0, none⟩)), (4, .slice none 0 0), (5, .int .i64 0), (7, .slice g.1 g.2.1 g.2.2.1), (8, .int .i64 s_4), (22, .int .i64 p0_1), (23, .int .i64 s_4), (27, .int .i64 p0_0), (28, .int .i64 s.2)]) (fun s g => St w0 m m [[⟨b2, 24, [.int .i64 p0_0, .int .i64 p0_1, .int .i64 p0_2, .slice a_p0_3 p0_3.length c_p0_3]⟩], g.2.2.2]) (fun s g => OwnE 3 1 (I1 .i64) (.slice g.1 g.2.1 g.2.2.1) s.1 g.2.2.2) FUEL (l_3, 0) (a11, _, c13, L10) x39 hx40 hL10 ⟨rfl, rfl, rfl, rfl, rfl, rfl, rfl, rfl, rfl, rfl, trivial⟩ (fun _ h => h) ?_
              rintro ⟨l_6, s_7⟩ ⟨a31, q32, c33, L30⟩ o43 fl44 hm42 hL30 hn45 hd46
              have hm42 : fiduciallaw44_transformed_s2 p0_0 p0_1 p0_2 p0_3 p1 s_4 l_6 s_7 = some o43 := hm42
              unfold fiduciallaw44_transformed_s2 at hm42
              have hqq : q32 = l_6.length := OwnE.qlen hL30
              subst hqq
              refine WK.sub (e' := [(1, .int .i64 p1), (2, .pointer (some ⟨b2, 0, none⟩)), (4, .slice none 0 0), (5, .int .i64 0), (7, .slice a31 ((l_6).length) c33), (8, .int .i64 s_4), (22, .int .i64 p0_1), (23, .int .i64 s_4), (27, .int .i64 p0_0), (28, .int .i64 s_7)]) ⟨rfl, rfl, rfl, rfl, rfl, rfl, rfl, rfl, rfl, rfl, trivial⟩ (WK.cls (C' := St w0 m m [[⟨b2, 24, [.int .i64 p0_0, .int .i64 p0_1, .int .i64 p0_2, .slice a_p0_3 p0_3.length c_p0_3]⟩], L30]) (fun _ h => h) ?_)
              refine WK_seq ?_
              refine WK_region ?_
              refine WO_pure tbok 1 [(1, .int .i64 p1), (2, .pointer (some ⟨b2, 0, none⟩)), (4, .slice none 0 0), (5, .int .i64 0), (7, .slice a31 ((l_6).length) c33), (8, .int .i64 s_4), (22, .int .i64 p0_1), (23, .int .i64 s_4), (27, .int .i64 p0_0), (28, .int .i64 s_7), (29, .bool (decide (s_7 < p0_0)))] rfl ⟨rfl, rfl, rfl, rfl, rfl, rfl, rfl, rfl, rfl, rfl, rfl, trivial⟩ ?_
              refine WO_end ?_
              refine WK_seq ?_
              refine WK_cond (b := decide (s_7 < p0_0)) rfl (fun hb48 => ?_) (fun hb48 => ?_)
              · have hm42 := ifT hb48 hm42
                refine WK_skip ?_
                refine WK_seq ?_
                refine WK_block ?_
                refine WK_seq ?_
                refine WK_region ?_
                refine WO_pure tbok 2 [(1, .int .i64 p1), (2, .pointer (some ⟨b2, 0, none⟩)), (4, .slice none 0 0), (5, .int .i64 0), (7, .slice a31 ((l_6).length) c33), (8, .int .i64 s_4), (9, .int .i64 s_7), (22, .int .i64 p0_1), (23, .int .i64 s_4), (27, .int .i64 p0_0), (28, .int .i64 s_7)] rfl ⟨rfl, rfl, rfl, rfl, rfl, rfl, rfl, rfl, rfl, rfl, rfl, trivial⟩ ?_
                refine WO_end ?_
                refine WK_region ?_
                refine WO_pure tbok 1 [(1, .int .i64 p1), (2, .pointer (some ⟨b2, 0, none⟩)), (4, .slice none 0 0), (5, .int .i64 0), (7, .slice a31 ((l_6).length) c33), (8, .int .i64 s_4), (9, .int .i64 s_7), (22, .int .i64 p0_1), (23, .int .i64 s_4), (27, .int .i64 p0_0), (28, .int .i64 s_7), (31, .slice a31 ((l_6).length) c33)] rfl ⟨rfl, rfl, rfl, rfl, rfl, rfl, rfl, rfl, rfl, rfl, rfl, rfl, trivial⟩ ?_
                refine WO_loadB tbok 0 rfl rfl rfl rfl (fun _ h => h) rfl rfl ?_
                refine WO_pure tbok 3 [(1, .int .i64 p1), (2, .pointer (some ⟨b2, 0, none⟩)), (4, .slice none 0 0), (5, .int .i64 0), (7, .slice a31 ((l_6).length) c33), (8, .int .i64 s_4), (22, .int .i64 p0_1), (23, .int .i64 s_4), (27, .int .i64 p0_0), (28, .int .i64 s_7), (31, .slice a31 ((l_6).length) c33), (32, .agg #[.int .i64 p0_0, .int .i64 p0_1, .int .i64 p0_2, .slice a_p0_3 p0_3.length c_p0_3]), (33, .int .i64 p1), (34, .int .i64 s_7), (35, .int .i64 s_4)] rfl ⟨rfl, rfl, rfl, rfl, rfl, rfl, rfl, rfl, rfl, rfl, rfl, rfl, rfl, rfl, rfl, trivial⟩ ?_
                obtain ⟨y_9, hc49, hm42⟩ := bind_some hm42
                refine WO_call0 (.int .i64 y_9) rfl rfl trivial rfl rfl rfl rfl St_closed ⟨35, #[], #[], rfl, callable_35, fun w hw => ⟨_, hw.sat, fiduciallaw44_bitsOf_walk h_p0_3 hc49⟩⟩ ?_
                refine WO_bslice (E := (I1 .i64)) tbok (fun _ => rfl) (by decide) [.int .i64 y_9] ([y_9] : List Int) rfl rfl trivial rfl rfl rfl rfl rfl rfl rfl rfl rfl rfl rfl rfl (fun b50 hb50 => ?_)
                refine WO.cls (C' := St w0 m m [[⟨b2, 24, [.int .i64 p0_0, .int .i64 p0_1, .int .i64 p0_2, .slice a_p0_3 p0_3.length c_p0_3]⟩], L30, [⟨b50, 3, ([y_9] : List Int).flatMap (I1 .i64)⟩]]) (fun _ h => h) ?_
                obtain ⟨hc52, hm42⟩ := chk_some hm42
                refine WO_append (E := (I1 .i64)) tbok (fun _ => rfl) 1 ([y_9] : List Int) (fun _ _ => rfl) rfl rfl rfl rfl rfl rfl rfl rfl rfl rfl rfl rfl hL30 rfl (src_seg (j := 2) rfl) (ap_ok (by decide) hc52) (ap_max hc52) (fun a53 c54 L55 hL55 => ?_)
                refine WO.cls (C' := St w0 m m [[⟨b2, 24, [.int .i64 p0_0, .int .i64 p0_1, .int .i64 p0_2, .slice a_p0_3 p0_3.length c_p0_3]⟩], L55, [⟨b50, 3, ([y_9] : List Int).flatMap (I1 .i64)⟩]]) (fun _ h => h) ?_
                refine WO_pure tbok 1 [(1, .int .i64 p1), (2, .pointer (some ⟨b2, 0, none⟩)), (4, .slice none 0 0), (5, .int .i64 0), (7, .slice a53 ((l_6 ++ ([y_9] : List Int)).length) c54), (8, .int .i64 s_4), (22, .int .i64 p0_1), (23, .int .i64 s_4), (27, .int .i64 p0_0), (28, .int .i64 s_7)] rfl ⟨rfl, rfl, rfl, rfl, rfl, rfl, rfl, rfl, rfl, rfl, trivial⟩ ?_
                refine WO_end ?_
                refine WK_blk ?_
                refine WK_region ?_
                refine WO_pure tbok 2 [(1, .int .i64 p1), (2, .pointer (some ⟨b2, 0, none⟩)), (4, .slice none 0 0), (5, .int .i64 0), (7, .slice a53 ((l_6 ++ ([y_9] : List Int)).length) c54), (8, .int .i64 s_4), (22, .int .i64 p0_1), (23, .int .i64 s_4), (27, .int .i64 p0_0), (28, .int .i64 (w64 (s_7 + 1)))] rfl ⟨rfl, rfl, rfl, rfl, rfl, rfl, rfl, rfl, rfl, rfl, trivial⟩ ?_
                refine WO_end ?_
                cases hm42
                refine WK.sub ?_ (WK.cls (fun _ h => St.take 2 h) (hn45 _ (a53, (l_6 ++ ([y_9] : List Int)).length, c54, L55) rfl hL55))
                exact ⟨rfl, rfl, rfl, rfl, rfl, rfl, rfl, rfl, rfl, rfl, trivial⟩
              · have hm42 := ifF hb48 hm42
                refine WK_exit rfl ?_
                cases hm42
                refine WK.sub ?_ (WK.cls (fun _ h => h) (hk41 (l_6, (a31, _, c33, L30)) ⟨(hd46 _ rfl), hL30⟩))
                exact ⟨rfl, rfl, rfl, rfl, rfl, rfl, rfl, trivial⟩
          · have hm22 := ifF hb28 hm22
            refine WK_exit rfl ?_
            cases hm22
            refine WK.sub ?_ (WK.cls (fun _ h => h) (hk21 (l_3, (a11, _, c13, L10)) ⟨(hd26 _ rfl), hL10⟩))
            exact ⟨rfl, rfl, rfl, trivial⟩
    · refine WK_region ?_
      refine WO_pure tbok 3 [(1, .int .i64 p1), (2, .pointer (some ⟨b2, 0, none⟩)), (4, .slice none 0 0), (5, .int .i64 0), (17, .bool (p1 != 1))] rfl ⟨rfl, rfl, rfl, rfl, rfl, trivial⟩ ?_
      refine WO_split (d := 17) (b := p1 != 1) rfl (fun hb57 => ?_) (fun hb57 => ?_)
      · have hx5 := ifT hb57 hx5
        refine WO_pure tbok 3 [(1, .int .i64 p1), (2, .pointer (some ⟨b2, 0, none⟩)), (4, .slice none 0 0), (5, .int .i64 0), (20, .bool (p1 != 2))] rfl ⟨rfl, rfl, rfl, rfl, rfl, trivial⟩ ?_
        refine WO_end ?_
        cases hx5
        refine WK.sub ?_ (WK.cls (fun _ h => h) hk6)
        exact ⟨rfl, rfl, rfl, rfl, rfl, trivial⟩
      · have hx5 := ifF hb57 hx5
        refine WO_pure tbok 3 [(1, .int .i64 p1), (2, .pointer (some ⟨b2, 0, none⟩)), (4, .slice none 0 0), (5, .int .i64 0), (20, .bool false)] rfl ⟨rfl, rfl, rfl, rfl, rfl, trivial⟩ ?_
        refine WO_end ?_
        cases hx5
        refine WK.sub ?_ (WK.cls (fun _ h => h) hk6)
        exact ⟨rfl, rfl, rfl, rfl, rfl, trivial⟩
theorem fiduciallaw44_CensusTransforms_walk {m : Mu} {p0_0 : Int} {p0_1 : Int} {p0_2 : Int} {p0_3 : List Int} {p1 : Int} {p2_0 : Int} {p2_1 : Int} {a_p0_3 : Option Addr} {q_p0_3 c_p0_3 : Nat} (h_p0_3 : SlR (FE (I1 .i64)) 1 m (.slice a_p0_3 q_p0_3 c_p0_3) p0_3) {r : Bool} (hm : fiduciallaw44_CensusTransforms p0_0 p0_1 p0_2 p0_3 p1 p2_0 p2_1 = some r) :
    Go.E.Spec Try.prog 3 [.agg #[.int .i64 p0_0, .int .i64 p0_1, .int .i64 p0_2, .slice a_p0_3 q_p0_3 c_p0_3], .int .i64 p1, .agg #[.int .i64 p2_0, .int .i64 p2_1]] m (fun v _ _ => v = .bool r) := by
  refine Spec_enter Try.func3 rfl rfl rfl (fun w0 => ?_)
  refine WK.sub (e' := [(0, .agg #[.int .i64 p0_0, .int .i64 p0_1, .int .i64 p0_2, .slice a_p0_3 q_p0_3 c_p0_3]), (1, .int .i64 p1), (2, .agg #[.int .i64 p2_0, .int .i64 p2_1])]) ⟨rfl, rfl, rfl, trivial⟩ ?_
  obtain rfl := SlR.qlen h_p0_3
  refine WK.sub (e' := [(0, .agg #[.int .i64 p0_0, .int .i64 p0_1, .int .i64 p0_2, .slice a_p0_3 p0_3.length c_p0_3]), (1, .int .i64 p1), (2, .agg #[.int .i64 p2_0, .int .i64 p2_1])]) ⟨rfl, rfl, rfl, trivial⟩ ?_
  unfold fiduciallaw44_CensusTransforms at hm
  refine WK_seq ?_
  refine WK_region ?_
  refine WO_box [.int .i64 p0_0, .int .i64 p0_1, .int .i64 p0_2, .slice a_p0_3 p0_3.length c_p0_3] rfl rfl trivial rfl rfl rfl (fun b2 => ?_)
  refine WO.cls (C' := St w0 m m [[⟨b2, 24, [.int .i64 p0_0, .int .i64 p0_1, .int .i64 p0_2, .slice a_p0_3 p0_3.length c_p0_3]⟩]]) (fun _ h => h) ?_
  refine WO_box [.int .i64 p2_0, .int .i64 p2_1] rfl rfl trivial rfl rfl rfl (fun b3 => ?_)
  refine WO.cls (C' := St w0 m m [[⟨b2, 24, [.int .i64 p0_0, .int .i64 p0_1, .int .i64 p0_2, .slice a_p0_3 p0_3.length c_p0_3]⟩], [⟨b3, 25, [.int .i64 p2_0, .int .i64 p2_1]⟩]]) (fun _ h => h) ?_
  refine WO_pure tbok 1 [(1, .int .i64 p1), (3, .pointer (some ⟨b2, 0, none⟩)), (5, .pointer (some ⟨b3, 0, none⟩)), (6, .bool false)] rfl ⟨rfl, rfl, rfl, rfl, trivial⟩ ?_
  refine WO_end ?_
  refine WK_seq ?_
  refine WK_seq ?_
  refine WK_region ?_
  obtain ⟨y_1, hc4, hm⟩ := bind_some hm
  refine WO_call0 (.bool y_1) rfl rfl trivial rfl rfl rfl rfl St_closed ⟨11, #[], #[], rfl, callable_11, fun w hw => ⟨_, hw.sat, fiduciallaw44_known_walk hc4⟩⟩ ?_
  refine WO_pure tbok 1 [(1, .int .i64 p1), (3, .pointer (some ⟨b2, 0, none⟩)), (5, .pointer (some ⟨b3, 0, none⟩)), (6, .bool false), (12, .bool (!y_1))] rfl ⟨rfl, rfl, rfl, rfl, rfl, trivial⟩ ?_
  refine WO_end ?_
  refine WK_cond (b := !y_1) rfl (fun hb5 => ?_) (fun hb5 => ?_)
  · have hm := ifT hb5 hm
    refine WK_seq ?_
    refine WK_region ?_
    refine WO_pure tbok 1 [(1, .int .i64 p1), (3, .pointer (some ⟨b2, 0, none⟩)), (5, .pointer (some ⟨b3, 0, none⟩)), (6, .bool false)] rfl ⟨rfl, rfl, rfl, rfl, trivial⟩ ?_
    refine WO_end ?_
    cases hm
    exact WK_ret (ret_out (L := []) (RLc_tmp rfl RLc_nil) (List.nil_sublist _) rfl)
  · have hm := ifF hb5 hm
    refine WK_skip ?_
    refine WK_seq ?_
    refine WK_seq ?_
    refine WK_region ?_
    refine WO_loadB tbok 0 rfl rfl rfl rfl (fun _ h => h) rfl rfl ?_
    obtain ⟨y_2, hc6, hm⟩ := bind_some hm
    refine WO_call0 (.bool y_2) rfl rfl trivial rfl rfl rfl rfl St_closed ⟨12, #[], #[], rfl, callable_12, fun w hw => ⟨_, hw.sat, fiduciallaw44_few_walk h_p0_3 hc6⟩⟩ ?_
    refine WO_pure tbok 1 [(1, .int .i64 p1), (3, .pointer (some ⟨b2, 0, none⟩)), (5, .pointer (some ⟨b3, 0, none⟩)), (6, .bool false), (15, .bool (!y_2))] rfl ⟨rfl, rfl, rfl, rfl, rfl, trivial⟩ ?_
    refine WO_end ?_
    refine WK_cond (b := !y_2) rfl (fun hb7 => ?_) (fun hb7 => ?_)
    · have hm := ifT hb7 hm
      refine WK_seq ?_
      refine WK_region ?_
      refine WO_pure tbok 1 [(1, .int .i64 p1), (3, .pointer (some ⟨b2, 0, none⟩)), (5, .pointer (some ⟨b3, 0, none⟩)), (6, .bool true)] rfl ⟨rfl, rfl, rfl, rfl, trivial⟩ ?_
      refine WO_end ?_
      cases hm
      exact WK_ret (ret_out (L := []) (RLc_tmp rfl RLc_nil) (List.nil_sublist _) rfl)
    · have hm := ifF hb7 hm
      refine WK_skip ?_
      refine WK_seq ?_
      refine WK_region ?_
      refine WO_loadB tbok 0 rfl rfl rfl rfl (fun _ h => h) rfl rfl ?_
      refine WO_pure tbok 1 [(1, .int .i64 p1), (3, .pointer (some ⟨b2, 0, none⟩)), (5, .pointer (some ⟨b3, 0, none⟩)), (6, .bool false), (17, .agg #[.int .i64 p0_0, .int .i64 p0_1, .int .i64 p0_2, .slice a_p0_3 p0_3.length c_p0_3]), (18, .int .i64 p1)] rfl ⟨rfl, rfl, rfl, rfl, rfl, rfl, trivial⟩ ?_
      obtain ⟨⟨y_3, y_4⟩, hc8, hm⟩ := bind_some hm
      refine WO_call1 (census_Transform_Q (y_3, y_4)) rfl rfl trivial rfl rfl rfl rfl ⟨13, #[], #[], rfl, callable_13, fun w hw => ⟨_, hw.sat, census_Transform_walk h_p0_3 hc8⟩⟩ (fun v13 L12 hq => ?_)
      obtain ⟨a9, qa9, c10, rfl, hL12⟩ := hq
      obtain rfl := OwnE.qlen hL12
      refine WO.cls (C' := St w0 m m [[⟨b2, 24, [.int .i64 p0_0, .int .i64 p0_1, .int .i64 p0_2, .slice a_p0_3 p0_3.length c_p0_3]⟩], [⟨b3, 25, [.int .i64 p2_0, .int .i64 p2_1]⟩], L12]) (fun _ h => h) ?_
      refine WO_pure tbok 5 [(1, .int .i64 p1), (3, .pointer (some ⟨b2, 0, none⟩)), (5, .pointer (some ⟨b3, 0, none⟩)), (6, .bool false), (7, .slice a9 ((y_3).length) c10), (8, .int .i64 y_4)] rfl ⟨rfl, rfl, rfl, rfl, rfl, rfl, trivial⟩ ?_
      refine WO_end ?_
      refine WK_seq ?_
      refine WK_region ?_
      refine WO_loadB tbok 0 rfl rfl rfl rfl (fun _ h => h) rfl rfl ?_
      refine WO_pure tbok 1 [(5, .pointer (some ⟨b3, 0, none⟩)), (6, .bool false), (7, .slice a9 ((y_3).length) c10), (8, .int .i64 y_4), (23, .agg #[.int .i64 p0_0, .int .i64 p0_1, .int .i64 p0_2, .slice a_p0_3 p0_3.length c_p0_3]), (24, .int .i64 p1)] rfl ⟨rfl, rfl, rfl, rfl, rfl, rfl, trivial⟩ ?_
      obtain ⟨⟨y_5, y_6⟩, hc14, hm⟩ := bind_some hm
      refine WO_call1 (fiduciallaw44_transformed_Q (y_5, y_6)) rfl rfl trivial rfl rfl rfl rfl ⟨14, #[], #[], rfl, callable_14, fun w hw => ⟨_, hw.sat, fiduciallaw44_transformed_walk h_p0_3 hc14⟩⟩ (fun v19 L18 hq => ?_)
      obtain ⟨a15, qa15, c16, rfl, hL18⟩ := hq
      obtain rfl := OwnE.qlen hL18
      refine WO.cls (C' := St w0 m m [[⟨b2, 24, [.int .i64 p0_0, .int .i64 p0_1, .int .i64 p0_2, .slice a_p0_3 p0_3.length c_p0_3]⟩], [⟨b3, 25, [.int .i64 p2_0, .int .i64 p2_1]⟩], L12, L18]) (fun _ h => h) ?_
      refine WO_pure tbok 5 [(5, .pointer (some ⟨b3, 0, none⟩)), (6, .bool false), (7, .slice a9 ((y_3).length) c10), (8, .int .i64 y_4), (9, .slice a15 ((y_5).length) c16), (10, .int .i64 y_6)] rfl ⟨rfl, rfl, rfl, rfl, rfl, rfl, trivial⟩ ?_
      refine WO_end ?_
      refine WK_seq ?_
      refine WK_draw 25 [0, 1, 2, 3, 4, 5, 6, 7, 8, 9, 10, 11, 12, 14, 15, 16, 17, 18, 19, 20, 13, 21, 22, 23, 24] follows_ok (by kernel_rfl) St_closed ?_
      refine WO_pure tbok 4 [(5, .pointer (some ⟨b3, 0, none⟩)), (6, .bool false), (7, .slice a9 ((y_3).length) c10), (9, .slice a15 ((y_5).length) c16), (31, .bool (y_4 == y_6))] rfl ⟨rfl, rfl, rfl, rfl, rfl, trivial⟩ ?_
      refine WO_split (d := 31) (b := y_4 == y_6) rfl (fun hb20 => ?_) (fun hb20 => ?_)
      · have hm := ifT hb20 hm
        refine WO_pure tbok 2 [(5, .pointer (some ⟨b3, 0, none⟩)), (6, .bool false), (31, .bool true), (32, .slice a9 ((y_3).length) c10), (33, .slice a15 ((y_5).length) c16)] rfl ⟨rfl, rfl, rfl, rfl, rfl, trivial⟩ ?_
        obtain ⟨y_7, hc21, hm⟩ := bind_some hm
        refine WO_call0 (.bool y_7) rfl rfl St_closed rfl rfl rfl rfl St_closed ⟨15, #[], #[], rfl, callable_15, fun w hw => ⟨_, hw.satV, slices_Equal_sint_walk (OwnE.rd (E := (I1 .i64)) (k := 1) (fun _ => rfl) hL12 (fun _ hx => hw.memV (i := 2) rfl hx)) (OwnE.rd (E := (I1 .i64)) (k := 1) (fun _ => rfl) hL18 (fun _ hx => hw.memV (i := 3) rfl hx)) hc21⟩⟩ ?_
        refine WO_pure tbok 2 [(5, .pointer (some ⟨b3, 0, none⟩)), (6, .bool false), (36, .bool y_7)] rfl ⟨rfl, rfl, rfl, trivial⟩ ?_
        refine WO_split (d := 36) (b := y_7) rfl (fun hb22 => ?_) (fun hb22 => ?_)
        · have hm := ifT hb22 hm
          refine WO_pure tbok 1 [(5, .pointer (some ⟨b3, 0, none⟩)), (6, .bool false), (36, .bool true), (37, .pointer (some ⟨b3, 0, none⟩))] rfl ⟨rfl, rfl, rfl, rfl, trivial⟩ ?_
          refine WO_loadB tbok 1 rfl rfl rfl rfl (fun _ h => h) rfl rfl ?_
          refine WO_pure tbok 1 [(5, .pointer (some ⟨b3, 0, none⟩)), (6, .bool false), (36, .bool true), (38, .int .i64 p2_0), (39, .pointer (some ⟨b3, 1, none⟩))] rfl ⟨rfl, rfl, rfl, rfl, rfl, trivial⟩ ?_
          refine WO_loadB tbok 1 rfl rfl rfl rfl (fun _ h => h) rfl rfl ?_
          refine WO_pure tbok 1 [(5, .pointer (some ⟨b3, 0, none⟩)), (6, .bool false), (36, .bool true), (38, .int .i64 p2_0), (40, .int .i64 p2_1), (42, .pointer (some ⟨b3, 0, none⟩))] rfl ⟨rfl, rfl, rfl, rfl, rfl, rfl, trivial⟩ ?_
          refine WO_loadB tbok 1 rfl rfl rfl rfl (fun _ h => h) rfl rfl ?_
          refine WO_pure tbok 2 [(6, .bool false), (36, .bool true), (38, .int .i64 p2_0), (40, .int .i64 p2_1), (44, .int .u64 (wu64 (p2_0))), (45, .pointer (some ⟨b3, 1, none⟩))] rfl ⟨rfl, rfl, rfl, rfl, rfl, rfl, trivial⟩ ?_
          refine WO_loadB tbok 1 rfl rfl rfl rfl (fun _ h => h) rfl rfl ?_
          refine WO_pure tbok 2 [(6, .bool false), (36, .bool true), (38, .int .i64 p2_0), (40, .int .i64 p2_1), (48, .int .u64 (wu64 (((BitVec.ofInt 64 (wu64 (p2_0)) ^^^ BitVec.ofInt 64 (wu64 (p2_1))).toNat : Int))))] rfl ⟨rfl, rfl, rfl, rfl, rfl, trivial⟩ ?_
          obtain ⟨y_8, hc23, hm⟩ := bind_some hm
          refine WO_call0 (.int .i64 y_8) rfl rfl St_closed rfl rfl rfl rfl St_closed ⟨16, #[], #[], rfl, callable_16, fun w hw => ⟨_, hw.sat, census_Hamming_walk hc23⟩⟩ ?_
          obtain ⟨y_9, hc24, hm⟩ := bind_some hm
          refine WO_call0 (.int .i64 y_9) rfl rfl St_closed rfl rfl rfl rfl St_closed ⟨17, #[], #[], rfl, callable_17, fun w hw => ⟨_, hw.sat, bits_OnesCount64_walk hc24⟩⟩ ?_
          refine WO_pure tbok 3 [(6, .bool (y_8 == y_9))] rfl ⟨rfl, trivial⟩ ?_
          refine WO_tail ?_
          refine WO_end ?_
          cases hm
          exact WK_ret (ret_out (L := []) (RLc_tmp rfl RLc_nil) (List.nil_sublist _) rfl)
        · have hm := ifF hb22 hm
          refine WO_pure tbok 11 [(6, .bool false), (36, .bool false)] rfl ⟨rfl, rfl, trivial⟩ ?_
          refine WO_skip rfl rfl ?_
          refine WO_skip rfl rfl ?_
          refine WO_pure tbok 3 [(6, .bool false)] rfl ⟨rfl, trivial⟩ ?_
          refine WO_tail ?_
          refine WO_end ?_
          cases hm
          exact WK_ret (ret_out (L := []) (RLc_tmp rfl RLc_nil) (List.nil_sublist _) rfl)
      · have hm := ifF hb20 hm
        refine WO_pure tbok 2 [(5, .pointer (some ⟨b3, 0, none⟩)), (6, .bool false), (31, .bool false)] rfl ⟨rfl, rfl, rfl, trivial⟩ ?_
        refine WO_skip rfl rfl ?_
        refine WO_pure tbok 13 [(6, .bool false), (36, .bool false)] rfl ⟨rfl, rfl, trivial⟩ ?_
        refine WO_skip rfl rfl ?_
        refine WO_skip rfl rfl ?_
        refine WO_pure tbok 3 [(6, .bool false)] rfl ⟨rfl, trivial⟩ ?_
        refine WO_tail ?_
        refine WO_end ?_
        cases hm
        exact WK_ret (ret_out (L := []) (RLc_tmp rfl RLc_nil) (List.nil_sublist _) rfl)
theorem fiduciallaw44_both_walk {m : Mu} {p0_0 : Int} {p0_1 : Int} {p0_2 : Int} {p0_3 : List Int} {p1_0 : Int} {p1_1 : Int} {p1_2 : Int} {p1_3 : List Int} {a_p0_3 : Option Addr} {q_p0_3 c_p0_3 : Nat} {a_p1_3 : Option Addr} {q_p1_3 c_p1_3 : Nat} (h_p0_3 : SlR (FE (I1 .i64)) 1 m (.slice a_p0_3 q_p0_3 c_p0_3) p0_3) (h_p1_3 : SlR (FE (I1 .i64)) 1 m (.slice a_p1_3 q_p1_3 c_p1_3) p1_3) {r : Int} (hm : fiduciallaw44_both p0_0 p0_1 p0_2 p0_3 p1_0 p1_1 p1_2 p1_3 = some r) :
    Go.E.Spec Try.prog 24 [.agg #[.int .i64 p0_0, .int .i64 p0_1, .int .i64 p0_2, .slice a_p0_3 q_p0_3 c_p0_3], .agg #[.int .i64 p1_0, .int .i64 p1_1, .int .i64 p1_2, .slice a_p1_3 q_p1_3 c_p1_3]] m (fun v _ _ => v = .int .i64 r) := by
  refine Spec_enter Try.func24 rfl rfl rfl (fun w0 => ?_)
  refine WK.sub (e' := [(0, .agg #[.int .i64 p0_0, .int .i64 p0_1, .int .i64 p0_2, .slice a_p0_3 q_p0_3 c_p0_3]), (1, .agg #[.int .i64 p1_0, .int .i64 p1_1, .int .i64 p1_2, .slice a_p1_3 q_p1_3 c_p1_3])]) ⟨rfl, rfl, trivial⟩ ?_
  obtain rfl := SlR.qlen h_p0_3
  obtain rfl := SlR.qlen h_p1_3
  refine WK.sub (e' := [(0, .agg #[.int .i64 p0_0, .int .i64 p0_1, .int .i64 p0_2, .slice a_p0_3 p0_3.length c_p0_3]), (1, .agg #[.int .i64 p1_0, .int .i64 p1_1, .int .i64 p1_2, .slice a_p1_3 p1_3.length c_p1_3])]) ⟨rfl, rfl, trivial⟩ ?_
  unfold fiduciallaw44_both at hm
  refine WK_seq ?_
  refine WK_region ?_
  refine WO_box [.int .i64 p0_0, .int .i64 p0_1, .int .i64 p0_2, .slice a_p0_3 p0_3.length c_p0_3] rfl rfl trivial rfl rfl rfl (fun b3 => ?_)
  refine WO.cls (C' := St w0 m m [[⟨b3, 24, [.int .i64 p0_0, .int .i64 p0_1, .int .i64 p0_2, .slice a_p0_3 p0_3.length c_p0_3]⟩]]) (fun _ h => h) ?_
  refine WO_box [.int .i64 p1_0, .int .i64 p1_1, .int .i64 p1_2, .slice a_p1_3 p1_3.length c_p1_3] rfl rfl trivial rfl rfl rfl (fun b4 => ?_)
  refine WO.cls (C' := St w0 m m [[⟨b3, 24, [.int .i64 p0_0, .int .i64 p0_1, .int .i64 p0_2, .slice a_p0_3 p0_3.length c_p0_3]⟩], [⟨b4, 24, [.int .i64 p1_0, .int .i64 p1_1, .int .i64 p1_2, .slice a_p1_3 p1_3.length c_p1_3]⟩]]) (fun _ h => h) ?_
  refine WO_pure tbok 1 [(2, .pointer (some ⟨b3, 0, none⟩)), (3, .pointer (some ⟨b4, 0, none⟩)), (4, .int .i64 0)] rfl ⟨rfl, rfl, rfl, trivial⟩ ?_
  refine WO_end ?_
  refine WK_seq ?_
  refine WK_seq ?_
  refine WK_region ?_
  refine WO_loadB tbok 0 rfl rfl rfl rfl (fun _ h => h) rfl rfl ?_
  obtain ⟨y_1, hc5, hm⟩ := bind_some hm
  refine WO_call0 (.int .i64 y_1) rfl rfl trivial rfl rfl rfl rfl St_closed ⟨26, #[], #[], rfl, callable_26, fun w hw => ⟨_, hw.sat, fiducialref13_Check_walk h_p0_3 hc5⟩⟩ ?_
  refine WO_pure tbok 1 [(2, .pointer (some ⟨b3, 0, none⟩)), (3, .pointer (some ⟨b4, 0, none⟩)), (4, .int .i64 0), (5, .int .i64 y_1)] rfl ⟨rfl, rfl, rfl, rfl, trivial⟩ ?_
  refine WO_end ?_
  refine WK_seq ?_
  refine WK_region ?_
  refine WO_pure tbok 2 [(2, .pointer (some ⟨b3, 0, none⟩)), (3, .pointer (some ⟨b4, 0, none⟩)), (4, .int .i64 0), (5, .int .i64 y_1), (10, .bool (y_1 != 0))] rfl ⟨rfl, rfl, rfl, rfl, rfl, trivial⟩ ?_
  refine WO_end ?_
  refine WK_cond (b := y_1 != 0) rfl (fun hb6 => ?_) (fun hb6 => ?_)
  · have hm := ifT hb6 hm
    refine WK_seq ?_
    refine WK_region ?_
    refine WO_pure tbok 2 [(2, .pointer (some ⟨b3, 0, none⟩)), (3, .pointer (some ⟨b4, 0, none⟩)), (4, .int .i64 y_1)] rfl ⟨rfl, rfl, rfl, trivial⟩ ?_
    refine WO_end ?_
    cases hm
    exact WK_ret (ret_out (L := []) (RLc_tmp rfl RLc_nil) (List.nil_sublist _) rfl)
  · have hm := ifF hb6 hm
    refine WK_skip ?_
    refine WK_seq ?_
    refine WK_seq ?_
    refine WK_region ?_
    refine WO_loadB tbok 1 rfl rfl rfl rfl (fun _ h => h) rfl rfl ?_
    obtain ⟨y_2, hc7, hm⟩ := bind_some hm
    refine WO_call0 (.int .i64 y_2) rfl rfl trivial rfl rfl rfl rfl St_closed ⟨26, #[], #[], rfl, callable_26, fun w hw => ⟨_, hw.sat, fiducialref13_Check_walk h_p1_3 hc7⟩⟩ ?_
    refine WO_pure tbok 1 [(2, .pointer (some ⟨b3, 0, none⟩)), (3, .pointer (some ⟨b4, 0, none⟩)), (4, .int .i64 0), (6, .int .i64 y_2)] rfl ⟨rfl, rfl, rfl, rfl, trivial⟩ ?_
    refine WO_end ?_
    refine WK_seq ?_
    refine WK_region ?_
    refine WO_pure tbok 2 [(2, .pointer (some ⟨b3, 0, none⟩)), (3, .pointer (some ⟨b4, 0, none⟩)), (4, .int .i64 0), (6, .int .i64 y_2), (15, .bool (y_2 != 0))] rfl ⟨rfl, rfl, rfl, rfl, rfl, trivial⟩ ?_
    refine WO_end ?_
    refine WK_cond (b := y_2 != 0) rfl (fun hb8 => ?_) (fun hb8 => ?_)
    · have hm := ifT hb8 hm
      refine WK_seq ?_
      refine WK_region ?_
      refine WO_pure tbok 2 [(2, .pointer (some ⟨b3, 0, none⟩)), (3, .pointer (some ⟨b4, 0, none⟩)), (4, .int .i64 y_2)] rfl ⟨rfl, rfl, rfl, trivial⟩ ?_
      refine WO_end ?_
      cases hm
      exact WK_ret (ret_out (L := []) (RLc_tmp rfl RLc_nil) (List.nil_sublist _) rfl)
    · have hm := ifF hb8 hm
      refine WK_skip ?_
      refine WK_seq ?_
      refine WK_seq ?_
      obtain ⟨s_3, hx9, hm⟩ := bind_some hm
      refine WK_meet [(4, .int .i64 0), (35, .bool s_3)] (St w0 m m [[⟨b3, 24, [.int .i64 p0_0, .int .i64 p0_1, .int .i64 p0_2, .slice a_p0_3 p0_3.length c_p0_3]⟩], [⟨b4, 24, [.int .i64 p1_0, .int .i64 p1_1, .int .i64 p1_2, .slice a_p1_3 p1_3.length c_p1_3]⟩]]) ?_ (fun hk10 => ?_)
      · refine WK_cond (b := s_3) rfl (fun hb11 => ?_) (fun hb11 => ?_)
        · have hm := ifT hb11 hm
          refine WK_seq ?_
          refine WK_region ?_
          refine WO_pure tbok 1 [(4, .int .i64 4)] rfl ⟨rfl, trivial⟩ ?_
          refine WO_end ?_
          cases hm
          exact WK_ret (ret_out (L := []) (RLc_tmp rfl RLc_nil) (List.nil_sublist _) rfl)
        · have hm := ifF hb11 hm
          refine WK_skip ?_
          refine WK_seq ?_
          refine WK_region ?_
          refine WO_pure tbok 1 [(4, .int .i64 0)] rfl ⟨rfl, trivial⟩ ?_
          refine WO_end ?_
          cases hm
          exact WK_ret (ret_out (L := []) (RLc_tmp rfl RLc_nil) (List.nil_sublist _) rfl)
      · refine WK_region ?_
        refine WO_pure tbok 1 [(2, .pointer (some ⟨b3, 0, none⟩)), (3, .pointer (some ⟨b4, 0, none⟩)), (4, .int .i64 0), (17, .pointer (some ⟨b3, 0, none⟩))] rfl ⟨rfl, rfl, rfl, rfl, trivial⟩ ?_
        refine WO_loadB tbok 0 rfl rfl rfl rfl (fun _ h => h) rfl rfl ?_
        refine WO_pure tbok 1 [(2, .pointer (some ⟨b3, 0, none⟩)), (3, .pointer (some ⟨b4, 0, none⟩)), (4, .int .i64 0), (18, .int .i64 p0_0), (19, .pointer (some ⟨b4, 0, none⟩))] rfl ⟨rfl, rfl, rfl, rfl, rfl, trivial⟩ ?_
        refine WO_loadB tbok 1 rfl rfl rfl rfl (fun _ h => h) rfl rfl ?_
        refine WO_pure tbok 2 [(2, .pointer (some ⟨b3, 0, none⟩)), (3, .pointer (some ⟨b4, 0, none⟩)), (4, .int .i64 0), (22, .bool (p0_0 != p1_0))] rfl ⟨rfl, rfl, rfl, rfl, trivial⟩ ?_
        refine WO_split (d := 22) (b := p0_0 != p1_0) rfl (fun hb12 => ?_) (fun hb12 => ?_)
        · have hx9 := ifT hb12 hx9
          refine WO_pure tbok 13 [(4, .int .i64 0), (35, .bool true)] rfl ⟨rfl, rfl, trivial⟩ ?_
          refine WO_end ?_
          cases hx9
          refine WK.sub ?_ (WK.cls (fun _ h => h) hk10)
          exact ⟨rfl, rfl, trivial⟩
        · have hx9 := ifF hb12 hx9
          refine WO_pure tbok 1 [(2, .pointer (some ⟨b3, 0, none⟩)), (3, .pointer (some ⟨b4, 0, none⟩)), (4, .int .i64 0), (22, .bool false), (23, .pointer (some ⟨b3, 1, none⟩))] rfl ⟨rfl, rfl, rfl, rfl, rfl, trivial⟩ ?_
          refine WO_loadB tbok 0 rfl rfl rfl rfl (fun _ h => h) rfl rfl ?_
          refine WO_pure tbok 1 [(2, .pointer (some ⟨b3, 0, none⟩)), (3, .pointer (some ⟨b4, 0, none⟩)), (4, .int .i64 0), (22, .bool false), (24, .int .i64 p0_1), (25, .pointer (some ⟨b4, 1, none⟩))] rfl ⟨rfl, rfl, rfl, rfl, rfl, rfl, trivial⟩ ?_
          refine WO_loadB tbok 1 rfl rfl rfl rfl (fun _ h => h) rfl rfl ?_
          refine WO_pure tbok 3 [(2, .pointer (some ⟨b3, 0, none⟩)), (3, .pointer (some ⟨b4, 0, none⟩)), (4, .int .i64 0), (29, .bool (p0_1 != p1_1))] rfl ⟨rfl, rfl, rfl, rfl, trivial⟩ ?_
          refine WO_split (d := 29) (b := p0_1 != p1_1) rfl (fun hb13 => ?_) (fun hb13 => ?_)
          · have hx9 := ifT hb13 hx9
            refine WO_pure tbok 6 [(4, .int .i64 0), (35, .bool true)] rfl ⟨rfl, rfl, trivial⟩ ?_
            refine WO_end ?_
            cases hx9
            refine WK.sub ?_ (WK.cls (fun _ h => h) hk10)
            exact ⟨rfl, rfl, trivial⟩
          · have hx9 := ifF hb13 hx9
            refine WO_pure tbok 1 [(3, .pointer (some ⟨b4, 0, none⟩)), (4, .int .i64 0), (29, .bool false), (30, .pointer (some ⟨b3, 2, none⟩))] rfl ⟨rfl, rfl, rfl, rfl, trivial⟩ ?_
            refine WO_loadB tbok 0 rfl rfl rfl rfl (fun _ h => h) rfl rfl ?_
            refine WO_pure tbok 1 [(4, .int .i64 0), (29, .bool false), (31, .int .i64 p0_2), (32, .pointer (some ⟨b4, 2, none⟩))] rfl ⟨rfl, rfl, rfl, rfl, trivial⟩ ?_
            refine WO_loadB tbok 1 rfl rfl rfl rfl (fun _ h => h) rfl rfl ?_
            refine WO_pure tbok 2 [(4, .int .i64 0), (35, .bool (p0_2 != p1_2))] rfl ⟨rfl, rfl, trivial⟩ ?_
            refine WO_end ?_
            cases hx9
            refine WK.sub ?_ (WK.cls (fun _ h => h) hk10)
            exact ⟨rfl, rfl, trivial⟩
end Go.Proofs.Ytmeopehknkfnbaa
