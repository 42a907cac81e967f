import Derived.Test.YtbolefkhmfbnlaaEng17
import Derived.Test.YtbolefkhmfbnlaaRows
import Derived.KernelRfl
set_option linter.unusedVariables false
namespace Go.Proofs.Ytbolefkhmfbnlaa
open Go.E Go.RowKit

theorem ti3 : TIok Try.prog 3 ⟨.int .i64, 1, 8, some (.int .i64 0), []⟩ := ⟨Try.underlying3, by kernel_rfl, fun fs h => by cases h⟩
theorem ti5 : TIok Try.prog 5 ⟨.int .u8, 1, 1, some (.int .u8 0), []⟩ := ⟨Try.underlying5, by kernel_rfl, fun fs h => by cases h⟩
theorem ti22 : TIok Try.prog 22 ⟨.slice 3, 1, 24, some (.slice none 0 0), []⟩ := ⟨Try.underlying22, by kernel_rfl, fun fs h => by cases h⟩
theorem ti24 : TIok Try.prog 24 ⟨.struct #[⟨ "Width", 3, 0, false,  "",  "", 0⟩, ⟨ "Height", 3, 1, false,  "",  "", 8⟩, ⟨ "Max", 3, 2, false,  "",  "", 16⟩, ⟨ "Pixels", 22, 3, false,  "",  "", 24⟩], 4, 48, some (.agg #[.int .i64 0, .int .i64 0, .int .i64 0, .slice none 0 0]), [(0, 1), (1, 1), (2, 1), (3, 1)]⟩ := ⟨Try.underlying24, by kernel_rfl, fun fs h => by cases h; kernel_rfl⟩
theorem ti39 : TIok Try.prog 39 ⟨.slice 22, 1, 24, some (.slice none 0 0), []⟩ := ⟨Try.underlying39, by kernel_rfl, fun fs h => by cases h⟩
theorem ti52 : TIok Try.prog 52 ⟨.slice 94, 1, 24, some (.slice none 0 0), []⟩ := ⟨Try.underlying52, by kernel_rfl, fun fs h => by cases h⟩
theorem ti54 : TIok Try.prog 54 ⟨.slice 67, 1, 24, some (.slice none 0 0), []⟩ := ⟨Try.underlying54, by kernel_rfl, fun fs h => by cases h⟩
theorem ti55 : TIok Try.prog 55 ⟨.slice 95, 1, 24, some (.slice none 0 0), []⟩ := ⟨Try.underlying55, by kernel_rfl, fun fs h => by cases h⟩
theorem ti61 : TIok Try.prog 61 ⟨.slice 65, 1, 24, some (.slice none 0 0), []⟩ := ⟨Try.underlying61, by kernel_rfl, fun fs h => by cases h⟩
theorem ti65 : TIok Try.prog 65 ⟨.struct #[⟨ "First", 3, 0, false,  "",  "", 0⟩, ⟨ "Second", 3, 1, false,  "",  "", 8⟩, ⟨ "Distance", 3, 2, false,  "",  "", 16⟩], 3, 24, some (.agg #[.int .i64 0, .int .i64 0, .int .i64 0]), [(0, 1), (1, 1), (2, 1)]⟩ := ⟨Try.underlying65, by kernel_rfl, fun fs h => by cases h; kernel_rfl⟩
theorem ti67 : TIok Try.prog 67 ⟨.struct #[⟨ "X", 3, 0, false,  "",  "", 0⟩, ⟨ "Y", 3, 1, false,  "",  "", 8⟩], 2, 16, some (.agg #[.int .i64 0, .int .i64 0]), [(0, 1), (1, 1)]⟩ := ⟨Try.underlying67, by kernel_rfl, fun fs h => by cases h; kernel_rfl⟩
theorem ti92 : TIok Try.prog 92 ⟨.array 4 3, 4, 32, some (.agg #[.int .i64 0, .int .i64 0, .int .i64 0, .int .i64 0]), []⟩ := ⟨Try.underlying92, by kernel_rfl, fun fs h => by cases h⟩
theorem ti94 : TIok Try.prog 94 ⟨.struct #[⟨ "A", 92, 0, false,  "",  "", 0⟩, ⟨ "B", 92, 4, false,  "",  "", 32⟩], 8, 64, some (.agg #[.int .i64 0, .int .i64 0, .int .i64 0, .int .i64 0, .int .i64 0, .int .i64 0, .int .i64 0, .int .i64 0]), [(0, 4), (4, 4)]⟩ := ⟨Try.underlying94, by kernel_rfl, fun fs h => by cases h; kernel_rfl⟩
theorem ti95 : TIok Try.prog 95 ⟨.int .u64, 1, 8, some (.int .u64 0), []⟩ := ⟨Try.underlying95, by kernel_rfl, fun fs h => by cases h⟩
theorem ti101 : TIok Try.prog 101 ⟨.struct #[⟨ "raster", 24, 0, false,  "",  "fiducial/descriptor", 0⟩, ⟨ "table", 39, 4, false,  "",  "fiducial/descriptor", 48⟩], 5, 72, some (.agg #[.int .i64 0, .int .i64 0, .int .i64 0, .slice none 0 0, .slice none 0 0]), [(0, 4), (4, 1)]⟩ := ⟨Try.underlying101, by kernel_rfl, fun fs h => by cases h; kernel_rfl⟩
theorem ti133 : TIok Try.prog 133 ⟨.int .u64, 1, 8, some (.int .u64 0), []⟩ := ⟨Try.underlying133, by kernel_rfl, fun fs h => by cases h⟩
theorem ti147 : TIok Try.prog 147 ⟨.int .u64, 1, 8, some (.int .u64 0), []⟩ := ⟨Try.underlying147, by kernel_rfl, fun fs h => by cases h⟩
def TB : Tab := [(3, ⟨.int .i64, 1, 8, some (.int .i64 0), []⟩),
  (5, ⟨.int .u8, 1, 1, some (.int .u8 0), []⟩),
  (22, ⟨.slice 3, 1, 24, some (.slice none 0 0), []⟩),
  (24, ⟨.struct #[⟨ "Width", 3, 0, false,  "",  "", 0⟩, ⟨ "Height", 3, 1, false,  "",  "", 8⟩, ⟨ "Max", 3, 2, false,  "",  "", 16⟩, ⟨ "Pixels", 22, 3, false,  "",  "", 24⟩], 4, 48, some (.agg #[.int .i64 0, .int .i64 0, .int .i64 0, .slice none 0 0]), [(0, 1), (1, 1), (2, 1), (3, 1)]⟩),
  (39, ⟨.slice 22, 1, 24, some (.slice none 0 0), []⟩),
  (52, ⟨.slice 94, 1, 24, some (.slice none 0 0), []⟩),
  (54, ⟨.slice 67, 1, 24, some (.slice none 0 0), []⟩),
  (55, ⟨.slice 95, 1, 24, some (.slice none 0 0), []⟩),
  (61, ⟨.slice 65, 1, 24, some (.slice none 0 0), []⟩),
  (65, ⟨.struct #[⟨ "First", 3, 0, false,  "",  "", 0⟩, ⟨ "Second", 3, 1, false,  "",  "", 8⟩, ⟨ "Distance", 3, 2, false,  "",  "", 16⟩], 3, 24, some (.agg #[.int .i64 0, .int .i64 0, .int .i64 0]), [(0, 1), (1, 1), (2, 1)]⟩),
  (67, ⟨.struct #[⟨ "X", 3, 0, false,  "",  "", 0⟩, ⟨ "Y", 3, 1, false,  "",  "", 8⟩], 2, 16, some (.agg #[.int .i64 0, .int .i64 0]), [(0, 1), (1, 1)]⟩),
  (92, ⟨.array 4 3, 4, 32, some (.agg #[.int .i64 0, .int .i64 0, .int .i64 0, .int .i64 0]), []⟩),
  (94, ⟨.struct #[⟨ "A", 92, 0, false,  "",  "", 0⟩, ⟨ "B", 92, 4, false,  "",  "", 32⟩], 8, 64, some (.agg #[.int .i64 0, .int .i64 0, .int .i64 0, .int .i64 0, .int .i64 0, .int .i64 0, .int .i64 0, .int .i64 0]), [(0, 4), (4, 4)]⟩),
  (95, ⟨.int .u64, 1, 8, some (.int .u64 0), []⟩),
  (101, ⟨.struct #[⟨ "raster", 24, 0, false,  "",  "fiducial/descriptor", 0⟩, ⟨ "table", 39, 4, false,  "",  "fiducial/descriptor", 48⟩], 5, 72, some (.agg #[.int .i64 0, .int .i64 0, .int .i64 0, .slice none 0 0, .slice none 0 0]), [(0, 4), (4, 1)]⟩),
  (133, ⟨.int .u64, 1, 8, some (.int .u64 0), []⟩),
  (147, ⟨.int .u64, 1, 8, some (.int .u64 0), []⟩)]
theorem tbok : TabOk Try.prog TB := (tabOk_cons ti3 (tabOk_cons ti5 (tabOk_cons ti22 (tabOk_cons ti24 (tabOk_cons ti39 (tabOk_cons ti52 (tabOk_cons ti54 (tabOk_cons ti55 (tabOk_cons ti61 (tabOk_cons ti65 (tabOk_cons ti67 (tabOk_cons ti92 (tabOk_cons ti94 (tabOk_cons ti95 (tabOk_cons ti101 (tabOk_cons ti133 (tabOk_cons ti147 tabOk_nil)))))))))))))))))
theorem follows_ok : Try.prog.follows .mixedOrders = true := by kernel_rfl
theorem callable_2 : Callable Try.prog 2 := callable_of Try.func2 (by kernel_rfl) rfl
theorem callable_3 : Callable Try.prog 3 := callable_of Try.func3 (by kernel_rfl) rfl
theorem callable_4 : Callable Try.prog 4 := callable_of Try.func4 (by kernel_rfl) rfl
theorem callable_5 : Callable Try.prog 5 := callable_of Try.func5 (by kernel_rfl) rfl
theorem callable_6 : Callable Try.prog 6 := callable_of Try.func6 (by kernel_rfl) rfl
theorem callable_7 : Callable Try.prog 7 := callable_of Try.func7 (by kernel_rfl) rfl
theorem callable_8 : Callable Try.prog 8 := callable_of Try.func8 (by kernel_rfl) rfl
theorem callable_9 : Callable Try.prog 9 := callable_of Try.func9 (by kernel_rfl) rfl
theorem callable_10 : Callable Try.prog 10 := callable_of Try.func10 (by kernel_rfl) rfl
theorem callable_11 : Callable Try.prog 11 := callable_of Try.func11 (by kernel_rfl) rfl
theorem callable_12 : Callable Try.prog 12 := callable_of Try.func12 (by kernel_rfl) rfl
theorem callable_13 : Callable Try.prog 13 := callable_of Try.func13 (by kernel_rfl) rfl
theorem callable_14 : Callable Try.prog 14 := callable_of Try.func14 (by kernel_rfl) rfl
theorem callable_15 : Callable Try.prog 15 := callable_of Try.func15 (by kernel_rfl) rfl
theorem callable_16 : Callable Try.prog 16 := callable_of Try.func16 (by kernel_rfl) rfl
theorem callable_17 : Callable Try.prog 17 := callable_of Try.func17 (by kernel_rfl) rfl
theorem callable_18 : Callable Try.prog 18 := callable_of Try.func18 (by kernel_rfl) rfl
theorem callable_19 : Callable Try.prog 19 := callable_of Try.func19 (by kernel_rfl) rfl
theorem callable_20 : Callable Try.prog 20 := callable_of Try.func20 (by kernel_rfl) rfl
theorem callable_21 : Callable Try.prog 21 := callable_of Try.func21 (by kernel_rfl) rfl
theorem callable_22 : Callable Try.prog 22 := callable_of Try.func22 (by kernel_rfl) rfl
theorem callable_23 : Callable Try.prog 23 := callable_of Try.func23 (by kernel_rfl) rfl
theorem callable_24 : Callable Try.prog 24 := callable_of Try.func24 (by kernel_rfl) rfl
theorem callable_25 : Callable Try.prog 25 := callable_of Try.func25 (by kernel_rfl) rfl
theorem callable_26 : Callable Try.prog 26 := callable_of Try.func26 (by kernel_rfl) rfl
theorem callable_27 : Callable Try.prog 27 := callable_of Try.func27 (by kernel_rfl) rfl
theorem callable_28 : Callable Try.prog 28 := callable_of Try.func28 (by kernel_rfl) rfl
theorem callable_29 : Callable Try.prog 29 := callable_of Try.func29 (by kernel_rfl) rfl
theorem callable_30 : Callable Try.prog 30 := callable_of Try.func30 (by kernel_rfl) rfl
theorem callable_31 : Callable Try.prog 31 := callable_of Try.func31 (by kernel_rfl) rfl
theorem callable_32 : Callable Try.prog 32 := callable_of Try.func32 (by kernel_rfl) rfl
theorem callable_33 : Callable Try.prog 33 := callable_of Try.func33 (by kernel_rfl) rfl
theorem callable_34 : Callable Try.prog 34 := callable_of Try.func34 (by kernel_rfl) rfl
theorem callable_35 : Callable Try.prog 35 := callable_of Try.func35 (by kernel_rfl) rfl
theorem callable_36 : Callable Try.prog 36 := callable_of Try.func36 (by kernel_rfl) rfl
theorem callable_37 : Callable Try.prog 37 := callable_of Try.func37 (by kernel_rfl) rfl
theorem callable_38 : Callable Try.prog 38 := callable_of Try.func38 (by kernel_rfl) rfl
theorem callable_39 : Callable Try.prog 39 := callable_of Try.func39 (by kernel_rfl) rfl
theorem callable_40 : Callable Try.prog 40 := callable_of Try.func40 (by kernel_rfl) rfl
theorem callable_41 : Callable Try.prog 41 := callable_of Try.func41 (by kernel_rfl) rfl
theorem callable_42 : Callable Try.prog 42 := callable_of Try.func42 (by kernel_rfl) rfl
theorem callable_43 : Callable Try.prog 43 := callable_of Try.func43 (by kernel_rfl) rfl
theorem callable_44 : Callable Try.prog 44 := callable_of Try.func44 (by kernel_rfl) rfl
theorem callable_45 : Callable Try.prog 45 := callable_of Try.func45 (by kernel_rfl) rfl
theorem callable_46 : Callable Try.prog 46 := callable_of Try.func46 (by kernel_rfl) rfl
theorem callable_47 : Callable Try.prog 47 := callable_of Try.func47 (by kernel_rfl) rfl
theorem callable_48 : Callable Try.prog 48 := callable_of Try.func48 (by kernel_rfl) rfl
theorem callable_49 : Callable Try.prog 49 := callable_of Try.func49 (by kernel_rfl) rfl
theorem callable_50 : Callable Try.prog 50 := callable_of Try.func50 (by kernel_rfl) rfl
theorem callable_51 : Callable Try.prog 51 := callable_of Try.func51 (by kernel_rfl) rfl
theorem callable_52 : Callable Try.prog 52 := callable_of Try.func52 (by kernel_rfl) rfl
theorem callable_53 : Callable Try.prog 53 := callable_of Try.func53 (by kernel_rfl) rfl
theorem callable_54 : Callable Try.prog 54 := callable_of Try.func54 (by kernel_rfl) rfl
theorem callable_55 : Callable Try.prog 55 := callable_of Try.func55 (by kernel_rfl) rfl
theorem callable_56 : Callable Try.prog 56 := callable_of Try.func56 (by kernel_rfl) rfl
theorem callable_57 : Callable Try.prog 57 := callable_of Try.func57 (by kernel_rfl) rfl
theorem callable_58 : Callable Try.prog 58 := callable_of Try.func58 (by kernel_rfl) rfl
theorem callable_59 : Callable Try.prog 59 := callable_of Try.func59 (by kernel_rfl) rfl
theorem callable_60 : Callable Try.prog 60 := callable_of Try.func60 (by kernel_rfl) rfl
theorem callable_61 : Callable Try.prog 61 := callable_of Try.func61 (by kernel_rfl) rfl
theorem callable_62 : Callable Try.prog 62 := callable_of Try.func62 (by kernel_rfl) rfl
theorem callable_63 : Callable Try.prog 63 := callable_of Try.func63 (by kernel_rfl) rfl
theorem callable_64 : Callable Try.prog 64 := callable_of Try.func64 (by kernel_rfl) rfl
theorem callable_65 : Callable Try.prog 65 := callable_of Try.func65 (by kernel_rfl) rfl
theorem callable_66 : Callable Try.prog 66 := callable_of Try.func66 (by kernel_rfl) rfl
theorem callable_67 : Callable Try.prog 67 := callable_of Try.func67 (by kernel_rfl) rfl
theorem callable_68 : Callable Try.prog 68 := callable_of Try.func68 (by kernel_rfl) rfl
theorem callable_69 : Callable Try.prog 69 := callable_of Try.func69 (by kernel_rfl) rfl
theorem callable_70 : Callable Try.prog 70 := callable_of Try.func70 (by kernel_rfl) rfl
theorem callable_71 : Callable Try.prog 71 := callable_of Try.func71 (by kernel_rfl) rfl
theorem callable_72 : Callable Try.prog 72 := callable_of Try.func72 (by kernel_rfl) rfl
theorem callable_73 : Callable Try.prog 73 := callable_of Try.func73 (by kernel_rfl) rfl
theorem callable_74 : Callable Try.prog 74 := callable_of Try.func74 (by kernel_rfl) rfl
theorem callable_75 : Callable Try.prog 75 := callable_of Try.func75 (by kernel_rfl) rfl
theorem callable_76 : Callable Try.prog 76 := callable_of Try.func76 (by kernel_rfl) rfl
theorem callable_77 : Callable Try.prog 77 := callable_of Try.func77 (by kernel_rfl) rfl
theorem callable_78 : Callable Try.prog 78 := callable_of Try.func78 (by kernel_rfl) rfl
theorem callable_79 : Callable Try.prog 79 := callable_of Try.func79 (by kernel_rfl) rfl
theorem callable_80 : Callable Try.prog 80 := callable_of Try.func80 (by kernel_rfl) rfl
theorem callable_81 : Callable Try.prog 81 := callable_of Try.func81 (by kernel_rfl) rfl
theorem callable_82 : Callable Try.prog 82 := callable_of Try.func82 (by kernel_rfl) rfl
theorem callable_83 : Callable Try.prog 83 := callable_of Try.func83 (by kernel_rfl) rfl
theorem callable_84 : Callable Try.prog 84 := callable_of Try.func84 (by kernel_rfl) rfl
theorem callable_85 : Callable Try.prog 85 := callable_of Try.func85 (by kernel_rfl) rfl
theorem callable_86 : Callable Try.prog 86 := callable_of Try.func86 (by kernel_rfl) rfl
theorem callable_87 : Callable Try.prog 87 := callable_of Try.func87 (by kernel_rfl) rfl
theorem callable_88 : Callable Try.prog 88 := callable_of Try.func88 (by kernel_rfl) rfl
theorem callable_89 : Callable Try.prog 89 := callable_of Try.func89 (by kernel_rfl) rfl
theorem callable_90 : Callable Try.prog 90 := callable_of Try.func90 (by kernel_rfl) rfl
theorem callable_91 : Callable Try.prog 91 := callable_of Try.func91 (by kernel_rfl) rfl
theorem callable_92 : Callable Try.prog 92 := callable_of Try.func92 (by kernel_rfl) rfl
theorem callable_93 : Callable Try.prog 93 := callable_of Try.func93 (by kernel_rfl) rfl
theorem callable_94 : Callable Try.prog 94 := callable_of Try.func94 (by kernel_rfl) rfl
theorem callable_95 : Callable Try.prog 95 := callable_of Try.func95 (by kernel_rfl) rfl
theorem callable_96 : Callable Try.prog 96 := callable_of Try.func96 (by kernel_rfl) rfl
theorem callable_97 : Callable Try.prog 97 := callable_of Try.func97 (by kernel_rfl) rfl
theorem callable_98 : Callable Try.prog 98 := callable_of Try.func98 (by kernel_rfl) rfl
theorem callable_99 : Callable Try.prog 99 := callable_of Try.func99 (by kernel_rfl) rfl
theorem callable_100 : Callable Try.prog 100 := callable_of Try.func100 (by kernel_rfl) rfl
theorem callable_101 : Callable Try.prog 101 := callable_of Try.func101 (by kernel_rfl) rfl
theorem callable_102 : Callable Try.prog 102 := callable_of Try.func102 (by kernel_rfl) rfl
theorem callable_103 : Callable Try.prog 103 := callable_of Try.func103 (by kernel_rfl) rfl
theorem callable_104 : Callable Try.prog 104 := callable_of Try.func104 (by kernel_rfl) rfl
theorem callable_105 : Callable Try.prog 105 := callable_of Try.func105 (by kernel_rfl) rfl
theorem str0_und (w : World) : (underlying 9).run Try.prog w = .ok .string w := by
  unfold underlying program
  simp [Sem.run, Try.underlying9]
def str0S : ByteArray := ⟨#[0, 1, 2, 2, 3, 3, 3, 3, 4, 4, 4, 4, 4, 4, 4, 4, 5, 5, 5, 5, 5, 5, 5, 5, 5, 5, 5, 5, 5, 5, 5, 5, 6, 6, 6, 6, 6, 6, 6, 6, 6, 6, 6, 6, 6, 6, 6, 6, 6, 6, 6, 6, 6, 6, 6, 6, 6, 6, 6, 6, 6, 6, 6, 6, 7, 7, 7, 7, 7, 7, 7, 7, 7, 7, 7, 7, 7, 7, 7, 7, 7, 7, 7, 7, 7, 7, 7, 7, 7, 7, 7, 7, 7, 7, 7, 7, 7, 7, 7, 7, 7, 7, 7, 7, 7, 7, 7, 7, 7, 7, 7, 7, 7, 7, 7, 7, 7, 7, 7, 7, 7, 7, 7, 7, 7, 7, 7, 7, 8, 8, 8, 8, 8, 8, 8, 8, 8, 8, 8, 8, 8, 8, 8, 8, 8, 8, 8, 8, 8, 8, 8, 8, 8, 8, 8, 8, 8, 8, 8, 8, 8, 8, 8, 8, 8, 8, 8, 8, 8, 8, 8, 8, 8, 8, 8, 8, 8, 8, 8, 8, 8, 8, 8, 8, 8, 8, 8, 8, 8, 8, 8, 8, 8, 8, 8, 8, 8, 8, 8, 8, 8, 8, 8, 8, 8, 8, 8, 8, 8, 8, 8, 8, 8, 8, 8, 8, 8, 8, 8, 8, 8, 8, 8, 8, 8, 8, 8, 8, 8, 8, 8, 8, 8, 8, 8, 8, 8, 8, 8, 8, 8, 8, 8, 8, 8, 8, 8, 8, 8, 8, 8, 8, 8, 8, 8, 8]⟩
theorem str0_ok (n : Nat) (hn : n < 256) : ∃ b : UInt8, str0S[n]? = some b ∧ ((b.toNat : Nat) : Int) = ([0, 1, 2, 2, 3, 3, 3, 3, 4, 4, 4, 4, 4, 4, 4, 4, 5, 5, 5, 5, 5, 5, 5, 5, 5, 5, 5, 5, 5, 5, 5, 5, 6, 6, 6, 6, 6, 6, 6, 6, 6, 6, 6, 6, 6, 6, 6, 6, 6, 6, 6, 6, 6, 6, 6, 6, 6, 6, 6, 6, 6, 6, 6, 6, 7, 7, 7, 7, 7, 7, 7, 7, 7, 7, 7, 7, 7, 7, 7, 7, 7, 7, 7, 7, 7, 7, 7, 7, 7, 7, 7, 7, 7, 7, 7, 7, 7, 7, 7, 7, 7, 7, 7, 7, 7, 7, 7, 7, 7, 7, 7, 7, 7, 7, 7, 7, 7, 7, 7, 7, 7, 7, 7, 7, 7, 7, 7, 7, 8, 8, 8, 8, 8, 8, 8, 8, 8, 8, 8, 8, 8, 8, 8, 8, 8, 8, 8, 8, 8, 8, 8, 8, 8, 8, 8, 8, 8, 8, 8, 8, 8, 8, 8, 8, 8, 8, 8, 8, 8, 8, 8, 8, 8, 8, 8, 8, 8, 8, 8, 8, 8, 8, 8, 8, 8, 8, 8, 8, 8, 8, 8, 8, 8, 8, 8, 8, 8, 8, 8, 8, 8, 8, 8, 8, 8, 8, 8, 8, 8, 8, 8, 8, 8, 8, 8, 8, 8, 8, 8, 8, 8, 8, 8, 8, 8, 8, 8, 8, 8, 8, 8, 8, 8, 8, 8, 8, 8, 8, 8, 8, 8, 8, 8, 8, 8, 8, 8, 8, 8, 8, 8, 8, 8, 8, 8, 8] : List Int).getD n 0 := by
  have h : (List.range 256).all (fun n => match str0S[n]? with | some b => decide (((b.toNat : Nat) : Int) = ([0, 1, 2, 2, 3, 3, 3, 3, 4, 4, 4, 4, 4, 4, 4, 4, 5, 5, 5, 5, 5, 5, 5, 5, 5, 5, 5, 5, 5, 5, 5, 5, 6, 6, 6, 6, 6, 6, 6, 6, 6, 6, 6, 6, 6, 6, 6, 6, 6, 6, 6, 6, 6, 6, 6, 6, 6, 6, 6, 6, 6, 6, 6, 6, 7, 7, 7, 7, 7, 7, 7, 7, 7, 7, 7, 7, 7, 7, 7, 7, 7, 7, 7, 7, 7, 7, 7, 7, 7, 7, 7, 7, 7, 7, 7, 7, 7, 7, 7, 7, 7, 7, 7, 7, 7, 7, 7, 7, 7, 7, 7, 7, 7, 7, 7, 7, 7, 7, 7, 7, 7, 7, 7, 7, 7, 7, 7, 7, 8, 8, 8, 8, 8, 8, 8, 8, 8, 8, 8, 8, 8, 8, 8, 8, 8, 8, 8, 8, 8, 8, 8, 8, 8, 8, 8, 8, 8, 8, 8, 8, 8, 8, 8, 8, 8, 8, 8, 8, 8, 8, 8, 8, 8, 8, 8, 8, 8, 8, 8, 8, 8, 8, 8, 8, 8, 8, 8, 8, 8, 8, 8, 8, 8, 8, 8, 8, 8, 8, 8, 8, 8, 8, 8, 8, 8, 8, 8, 8, 8, 8, 8, 8, 8, 8, 8, 8, 8, 8, 8, 8, 8, 8, 8, 8, 8, 8, 8, 8, 8, 8, 8, 8, 8, 8, 8, 8, 8, 8, 8, 8, 8, 8, 8, 8, 8, 8, 8, 8, 8, 8, 8, 8, 8, 8, 8, 8] : List Int).getD n 0) | none => false) = true := by kernel_rfl
  have h2 := List.all_eq_true.1 h n (List.mem_range.2 hn)
  split at h2
  · rename_i b hb
    exact ⟨b, hb, of_decide_eq_true h2⟩
  · cases h2
end Go.Proofs.Ytbolefkhmfbnlaa
