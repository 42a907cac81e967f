import Derived.Test.YtgakaghdiodakaaEng15
import Derived.Test.YtgakaghdiodakaaRows
import Derived.KernelRfl
set_option linter.unusedVariables false
namespace Go.Proofs.Ytgakaghdiodakaa
open Go.E Go.RowKit

theorem ti3 : TIok Try.prog 3 ⟨.int .i64, 1, 8, some (.int .i64 0), []⟩ := ⟨Try.underlying3, by kernel_rfl, fun fs h => by cases h⟩
theorem ti4 : TIok Try.prog 4 ⟨.bool, 1, 1, some (.bool false), []⟩ := ⟨Try.underlying4, by kernel_rfl, fun fs h => by cases h⟩
theorem ti5 : TIok Try.prog 5 ⟨.int .u8, 1, 1, some (.int .u8 0), []⟩ := ⟨Try.underlying5, by kernel_rfl, fun fs h => by cases h⟩
theorem ti22 : TIok Try.prog 22 ⟨.slice 24, 1, 24, some (.slice none 0 0), []⟩ := ⟨Try.underlying22, by kernel_rfl, fun fs h => by cases h⟩
theorem ti23 : TIok Try.prog 23 ⟨.array 2 3, 2, 16, some (.agg #[.int .i64 0, .int .i64 0]), []⟩ := ⟨Try.underlying23, by kernel_rfl, fun fs h => by cases h⟩
theorem ti24 : TIok Try.prog 24 ⟨.slice 3, 1, 24, some (.slice none 0 0), []⟩ := ⟨Try.underlying24, by kernel_rfl, fun fs h => by cases h⟩
theorem ti39 : TIok Try.prog 39 ⟨.struct #[⟨ "P1", 3, 0, false,  "",  "", 0⟩, ⟨ "P2", 3, 1, false,  "",  "", 8⟩, ⟨ "Energy", 3, 2, false,  "",  "", 16⟩, ⟨ "Labels", 24, 3, false,  "",  "", 24⟩], 4, 48, some (.agg #[.int .i64 0, .int .i64 0, .int .i64 0, .slice none 0 0]), [(0, 1), (1, 1), (2, 1), (3, 1)]⟩ := ⟨Try.underlying39, by kernel_rfl, fun fs h => by cases h; kernel_rfl⟩
theorem ti41 : TIok Try.prog 41 ⟨.array 4 3, 4, 32, some (.agg #[.int .i64 0, .int .i64 0, .int .i64 0, .int .i64 0]), []⟩ := ⟨Try.underlying41, by kernel_rfl, fun fs h => by cases h⟩
theorem ti42 : TIok Try.prog 42 ⟨.array 2 5, 2, 2, some (.agg #[.int .u8 0, .int .u8 0]), []⟩ := ⟨Try.underlying42, by kernel_rfl, fun fs h => by cases h⟩
theorem ti50 : TIok Try.prog 50 ⟨.struct #[⟨ "Width", 3, 0, false,  "",  "", 0⟩, ⟨ "Height", 3, 1, false,  "",  "", 8⟩, ⟨ "Depth", 3, 2, false,  "",  "", 16⟩, ⟨ "Cost", 24, 3, false,  "",  "", 24⟩], 4, 48, some (.agg #[.int .i64 0, .int .i64 0, .int .i64 0, .slice none 0 0]), [(0, 1), (1, 1), (2, 1), (3, 1)]⟩ := ⟨Try.underlying50, by kernel_rfl, fun fs h => by cases h; kernel_rfl⟩
def TB : Tab := [(3, ⟨.int .i64, 1, 8, some (.int .i64 0), []⟩),
  (4, ⟨.bool, 1, 1, some (.bool false), []⟩),
  (5, ⟨.int .u8, 1, 1, some (.int .u8 0), []⟩),
  (22, ⟨.slice 24, 1, 24, some (.slice none 0 0), []⟩),
  (23, ⟨.array 2 3, 2, 16, some (.agg #[.int .i64 0, .int .i64 0]), []⟩),
  (24, ⟨.slice 3, 1, 24, some (.slice none 0 0), []⟩),
  (39, ⟨.struct #[⟨ "P1", 3, 0, false,  "",  "", 0⟩, ⟨ "P2", 3, 1, false,  "",  "", 8⟩, ⟨ "Energy", 3, 2, false,  "",  "", 16⟩, ⟨ "Labels", 24, 3, false,  "",  "", 24⟩], 4, 48, some (.agg #[.int .i64 0, .int .i64 0, .int .i64 0, .slice none 0 0]), [(0, 1), (1, 1), (2, 1), (3, 1)]⟩),
  (41, ⟨.array 4 3, 4, 32, some (.agg #[.int .i64 0, .int .i64 0, .int .i64 0, .int .i64 0]), []⟩),
  (42, ⟨.array 2 5, 2, 2, some (.agg #[.int .u8 0, .int .u8 0]), []⟩),
  (50, ⟨.struct #[⟨ "Width", 3, 0, false,  "",  "", 0⟩, ⟨ "Height", 3, 1, false,  "",  "", 8⟩, ⟨ "Depth", 3, 2, false,  "",  "", 16⟩, ⟨ "Cost", 24, 3, false,  "",  "", 24⟩], 4, 48, some (.agg #[.int .i64 0, .int .i64 0, .int .i64 0, .slice none 0 0]), [(0, 1), (1, 1), (2, 1), (3, 1)]⟩)]
theorem tbok : TabOk Try.prog TB := (tabOk_cons ti3 (tabOk_cons ti4 (tabOk_cons ti5 (tabOk_cons ti22 (tabOk_cons ti23 (tabOk_cons ti24 (tabOk_cons ti39 (tabOk_cons ti41 (tabOk_cons ti42 (tabOk_cons ti50 tabOk_nil))))))))))
theorem follows_ok : Try.prog.follows .mixedOrders = true := by kernel_rfl
theorem callable_2 : Callable Try.prog 2 := callable_of Try.func2 (by kernel_rfl) rfl
theorem callable_3 : Callable Try.prog 3 := callable_of Try.func3 (by kernel_rfl) rfl
theorem callable_4 : Callable Try.prog 4 := callable_of Try.func4 (by kernel_rfl) rfl
theorem callable_5 : Callable Try.prog 5 := callable_of Try.func5 (by kernel_rfl) rfl
theorem callable_6 : Callable Try.prog 6 := callable_of Try.func6 (by kernel_rfl) rfl
theorem callable_7 : Callable Try.prog 7 := callable_of Try.func7 (by kernel_rfl) rfl
theorem callable_8 : Callable Try.prog 8 := callable_of Try.func8 (by kernel_rfl) rfl
theorem callable_9 : Callable Try.prog 9 := callable_of Try.func9 (by kernel_rfl) rfl
theorem callable_10 : Callable Try.prog 10 := callable_of Try.func10 (by kernel_rfl) rfl
theorem callable_11 : Callable Try.prog 11 := callable_of Try.func11 (by kernel_rfl) rfl
theorem callable_12 : Callable Try.prog 12 := callable_of Try.func12 (by kernel_rfl) rfl
theorem callable_13 : Callable Try.prog 13 := callable_of Try.func13 (by kernel_rfl) rfl
theorem callable_14 : Callable Try.prog 14 := callable_of Try.func14 (by kernel_rfl) rfl
theorem callable_15 : Callable Try.prog 15 := callable_of Try.func15 (by kernel_rfl) rfl
theorem callable_16 : Callable Try.prog 16 := callable_of Try.func16 (by kernel_rfl) rfl
theorem callable_17 : Callable Try.prog 17 := callable_of Try.func17 (by kernel_rfl) rfl
theorem callable_18 : Callable Try.prog 18 := callable_of Try.func18 (by kernel_rfl) rfl
theorem callable_19 : Callable Try.prog 19 := callable_of Try.func19 (by kernel_rfl) rfl
theorem callable_20 : Callable Try.prog 20 := callable_of Try.func20 (by kernel_rfl) rfl
theorem callable_21 : Callable Try.prog 21 := callable_of Try.func21 (by kernel_rfl) rfl
theorem callable_22 : Callable Try.prog 22 := callable_of Try.func22 (by kernel_rfl) rfl
theorem callable_23 : Callable Try.prog 23 := callable_of Try.func23 (by kernel_rfl) rfl
theorem callable_24 : Callable Try.prog 24 := callable_of Try.func24 (by kernel_rfl) rfl
theorem callable_25 : Callable Try.prog 25 := callable_of Try.func25 (by kernel_rfl) rfl
theorem callable_26 : Callable Try.prog 26 := callable_of Try.func26 (by kernel_rfl) rfl
theorem callable_27 : Callable Try.prog 27 := callable_of Try.func27 (by kernel_rfl) rfl
theorem callable_28 : Callable Try.prog 28 := callable_of Try.func28 (by kernel_rfl) rfl
theorem callable_29 : Callable Try.prog 29 := callable_of Try.func29 (by kernel_rfl) rfl
theorem callable_30 : Callable Try.prog 30 := callable_of Try.func30 (by kernel_rfl) rfl
theorem callable_31 : Callable Try.prog 31 := callable_of Try.func31 (by kernel_rfl) rfl
theorem callable_32 : Callable Try.prog 32 := callable_of Try.func32 (by kernel_rfl) rfl
theorem callable_33 : Callable Try.prog 33 := callable_of Try.func33 (by kernel_rfl) rfl
theorem callable_34 : Callable Try.prog 34 := callable_of Try.func34 (by kernel_rfl) rfl
theorem callable_35 : Callable Try.prog 35 := callable_of Try.func35 (by kernel_rfl) rfl
theorem callable_36 : Callable Try.prog 36 := callable_of Try.func36 (by kernel_rfl) rfl
theorem callable_37 : Callable Try.prog 37 := callable_of Try.func37 (by kernel_rfl) rfl
theorem callable_38 : Callable Try.prog 38 := callable_of Try.func38 (by kernel_rfl) rfl
theorem callable_39 : Callable Try.prog 39 := callable_of Try.func39 (by kernel_rfl) rfl
theorem callable_40 : Callable Try.prog 40 := callable_of Try.func40 (by kernel_rfl) rfl
theorem callable_41 : Callable Try.prog 41 := callable_of Try.func41 (by kernel_rfl) rfl
theorem callable_42 : Callable Try.prog 42 := callable_of Try.func42 (by kernel_rfl) rfl
theorem callable_43 : Callable Try.prog 43 := callable_of Try.func43 (by kernel_rfl) rfl
theorem callable_44 : Callable Try.prog 44 := callable_of Try.func44 (by kernel_rfl) rfl
theorem callable_45 : Callable Try.prog 45 := callable_of Try.func45 (by kernel_rfl) rfl
theorem callable_46 : Callable Try.prog 46 := callable_of Try.func46 (by kernel_rfl) rfl
theorem callable_47 : Callable Try.prog 47 := callable_of Try.func47 (by kernel_rfl) rfl
theorem callable_48 : Callable Try.prog 48 := callable_of Try.func48 (by kernel_rfl) rfl
theorem callable_49 : Callable Try.prog 49 := callable_of Try.func49 (by kernel_rfl) rfl
theorem callable_50 : Callable Try.prog 50 := callable_of Try.func50 (by kernel_rfl) rfl
theorem callable_51 : Callable Try.prog 51 := callable_of Try.func51 (by kernel_rfl) rfl
theorem callable_52 : Callable Try.prog 52 := callable_of Try.func52 (by kernel_rfl) rfl
theorem callable_53 : Callable Try.prog 53 := callable_of Try.func53 (by kernel_rfl) rfl
theorem callable_54 : Callable Try.prog 54 := callable_of Try.func54 (by kernel_rfl) rfl
theorem callable_55 : Callable Try.prog 55 := callable_of Try.func55 (by kernel_rfl) rfl
theorem callable_56 : Callable Try.prog 56 := callable_of Try.func56 (by kernel_rfl) rfl
theorem callable_57 : Callable Try.prog 57 := callable_of Try.func57 (by kernel_rfl) rfl
theorem callable_58 : Callable Try.prog 58 := callable_of Try.func58 (by kernel_rfl) rfl
theorem callable_59 : Callable Try.prog 59 := callable_of Try.func59 (by kernel_rfl) rfl
theorem callable_60 : Callable Try.prog 60 := callable_of Try.func60 (by kernel_rfl) rfl
theorem callable_61 : Callable Try.prog 61 := callable_of Try.func61 (by kernel_rfl) rfl
theorem callable_62 : Callable Try.prog 62 := callable_of Try.func62 (by kernel_rfl) rfl
end Go.Proofs.Ytgakaghdiodakaa
