import Derived.Test.YtgakaghdiodakaaDoorEng16
import Derived.Test.YtgakaghdiodakaaDoorRows
import Derived.KernelRfl
set_option linter.unusedVariables false
namespace Go.Proofs.YtgakaghdiodakaaDoor
open Go.E Go.RowKit

theorem ti3 : TIok Tryd.prog 3 ⟨.int .i64, 1, 8, some (.int .i64 0), []⟩ := ⟨Tryd.underlying3, by kernel_rfl, fun fs h => by cases h⟩
theorem ti4 : TIok Tryd.prog 4 ⟨.bool, 1, 1, some (.bool false), []⟩ := ⟨Tryd.underlying4, by kernel_rfl, fun fs h => by cases h⟩
theorem ti22 : TIok Tryd.prog 22 ⟨.slice 3, 1, 24, some (.slice none 0 0), []⟩ := ⟨Tryd.underlying22, by kernel_rfl, fun fs h => by cases h⟩
theorem ti24 : TIok Tryd.prog 24 ⟨.struct #[⟨ "Width", 3, 0, false,  "",  "", 0⟩, ⟨ "Height", 3, 1, false,  "",  "", 8⟩, ⟨ "Depth", 3, 2, false,  "",  "", 16⟩, ⟨ "Cost", 22, 3, false,  "",  "", 24⟩], 4, 48, some (.agg #[.int .i64 0, .int .i64 0, .int .i64 0, .slice none 0 0]), [(0, 1), (1, 1), (2, 1), (3, 1)]⟩ := ⟨Tryd.underlying24, by kernel_rfl, fun fs h => by cases h; kernel_rfl⟩
theorem ti25 : TIok Tryd.prog 25 ⟨.array 2 3, 2, 16, some (.agg #[.int .i64 0, .int .i64 0]), []⟩ := ⟨Tryd.underlying25, by kernel_rfl, fun fs h => by cases h⟩
theorem ti37 : TIok Tryd.prog 37 ⟨.slice 22, 1, 24, some (.slice none 0 0), []⟩ := ⟨Tryd.underlying37, by kernel_rfl, fun fs h => by cases h⟩
theorem ti48 : TIok Tryd.prog 48 ⟨.slice 4, 1, 24, some (.slice none 0 0), []⟩ := ⟨Tryd.underlying48, by kernel_rfl, fun fs h => by cases h⟩
theorem ti49 : TIok Tryd.prog 49 ⟨.func #[3, 3] #[] false, 1, 8, some (.nilFunc), []⟩ := ⟨Tryd.underlying49, by kernel_rfl, fun fs h => by cases h⟩
theorem ti62 : TIok Tryd.prog 62 ⟨.array 8 25, 16, 128, some (.agg #[.int .i64 0, .int .i64 0, .int .i64 0, .int .i64 0, .int .i64 0, .int .i64 0, .int .i64 0, .int .i64 0, .int .i64 0, .int .i64 0, .int .i64 0, .int .i64 0, .int .i64 0, .int .i64 0, .int .i64 0, .int .i64 0]), []⟩ := ⟨Tryd.underlying62, by kernel_rfl, fun fs h => by cases h⟩
theorem ti64 : TIok Tryd.prog 64 ⟨.slice 25, 1, 24, some (.slice none 0 0), []⟩ := ⟨Tryd.underlying64, by kernel_rfl, fun fs h => by cases h⟩
def TB : Tab := [(3, ⟨.int .i64, 1, 8, some (.int .i64 0), []⟩),
  (4, ⟨.bool, 1, 1, some (.bool false), []⟩),
  (22, ⟨.slice 3, 1, 24, some (.slice none 0 0), []⟩),
  (24, ⟨.struct #[⟨ "Width", 3, 0, false,  "",  "", 0⟩, ⟨ "Height", 3, 1, false,  "",  "", 8⟩, ⟨ "Depth", 3, 2, false,  "",  "", 16⟩, ⟨ "Cost", 22, 3, false,  "",  "", 24⟩], 4, 48, some (.agg #[.int .i64 0, .int .i64 0, .int .i64 0, .slice none 0 0]), [(0, 1), (1, 1), (2, 1), (3, 1)]⟩),
  (25, ⟨.array 2 3, 2, 16, some (.agg #[.int .i64 0, .int .i64 0]), []⟩),
  (37, ⟨.slice 22, 1, 24, some (.slice none 0 0), []⟩),
  (48, ⟨.slice 4, 1, 24, some (.slice none 0 0), []⟩),
  (49, ⟨.func #[3, 3] #[] false, 1, 8, some (.nilFunc), []⟩),
  (62, ⟨.array 8 25, 16, 128, some (.agg #[.int .i64 0, .int .i64 0, .int .i64 0, .int .i64 0, .int .i64 0, .int .i64 0, .int .i64 0, .int .i64 0, .int .i64 0, .int .i64 0, .int .i64 0, .int .i64 0, .int .i64 0, .int .i64 0, .int .i64 0, .int .i64 0]), []⟩),
  (64, ⟨.slice 25, 1, 24, some (.slice none 0 0), []⟩)]
theorem tbok : TabOk Tryd.prog TB := (tabOk_cons ti3 (tabOk_cons ti4 (tabOk_cons ti22 (tabOk_cons ti24 (tabOk_cons ti25 (tabOk_cons ti37 (tabOk_cons ti48 (tabOk_cons ti49 (tabOk_cons ti62 (tabOk_cons ti64 tabOk_nil))))))))))
theorem follows_ok : Tryd.prog.follows .mixedOrders = true := by kernel_rfl
theorem callable_2 : Callable Tryd.prog 2 := callable_of Tryd.func2 (by kernel_rfl) rfl
theorem callable_3 : Callable Tryd.prog 3 := callable_of Tryd.func3 (by kernel_rfl) rfl
theorem callable_4 : Callable Tryd.prog 4 := callable_of Tryd.func4 (by kernel_rfl) rfl
theorem callable_5 : Callable Tryd.prog 5 := callable_of Tryd.func5 (by kernel_rfl) rfl
theorem callable_6 : Callable Tryd.prog 6 := callable_of Tryd.func6 (by kernel_rfl) rfl
theorem callable_7 : Callable Tryd.prog 7 := callable_of Tryd.func7 (by kernel_rfl) rfl
theorem callable_8 : Callable Tryd.prog 8 := callable_of Tryd.func8 (by kernel_rfl) rfl
theorem callable_9 : Callable Tryd.prog 9 := callable_of Tryd.func9 (by kernel_rfl) rfl
theorem callable_10 : Callable Tryd.prog 10 := callable_of Tryd.func10 (by kernel_rfl) rfl
theorem callable_11 : Callable Tryd.prog 11 := callable_of Tryd.func11 (by kernel_rfl) rfl
theorem callable_12 : Callable Tryd.prog 12 := callable_of Tryd.func12 (by kernel_rfl) rfl
theorem callable_13 : Callable Tryd.prog 13 := callable_of Tryd.func13 (by kernel_rfl) rfl
theorem callable_14 : Callable Tryd.prog 14 := callable_of Tryd.func14 (by kernel_rfl) rfl
theorem callable_15 : Callable Tryd.prog 15 := callable_of Tryd.func15 (by kernel_rfl) rfl
theorem callable_16 : Callable Tryd.prog 16 := callable_of Tryd.func16 (by kernel_rfl) rfl
theorem callable_17 : Callable Tryd.prog 17 := callable_of Tryd.func17 (by kernel_rfl) rfl
theorem callable_18 : Callable Tryd.prog 18 := callable_of Tryd.func18 (by kernel_rfl) rfl
theorem callable_19 : Callable Tryd.prog 19 := callable_of Tryd.func19 (by kernel_rfl) rfl
theorem callable_20 : Callable Tryd.prog 20 := callable_of Tryd.func20 (by kernel_rfl) rfl
theorem callable_21 : Callable Tryd.prog 21 := callable_of Tryd.func21 (by kernel_rfl) rfl
theorem callable_22 : Callable Tryd.prog 22 := callable_of Tryd.func22 (by kernel_rfl) rfl
theorem callable_23 : Callable Tryd.prog 23 := callable_of Tryd.func23 (by kernel_rfl) rfl
theorem callable_24 : Callable Tryd.prog 24 := callable_of Tryd.func24 (by kernel_rfl) rfl
theorem callable_25 : Callable Tryd.prog 25 := callable_of Tryd.func25 (by kernel_rfl) rfl
theorem callable_26 : Callable Tryd.prog 26 := callable_of Tryd.func26 (by kernel_rfl) rfl
theorem callable_27 : Callable Tryd.prog 27 := callable_of Tryd.func27 (by kernel_rfl) rfl
theorem callable_28 : Callable Tryd.prog 28 := callable_of Tryd.func28 (by kernel_rfl) rfl
theorem callable_29 : Callable Tryd.prog 29 := callable_of Tryd.func29 (by kernel_rfl) rfl
theorem callable_30 : Callable Tryd.prog 30 := callable_of Tryd.func30 (by kernel_rfl) rfl
theorem callable_31 : Callable Tryd.prog 31 := callable_of Tryd.func31 (by kernel_rfl) rfl
theorem callable_32 : Callable Tryd.prog 32 := callable_of Tryd.func32 (by kernel_rfl) rfl
theorem callable_33 : Callable Tryd.prog 33 := callable_of Tryd.func33 (by kernel_rfl) rfl
theorem callable_34 : Callable Tryd.prog 34 := callable_of Tryd.func34 (by kernel_rfl) rfl
theorem callable_35 : Callable Tryd.prog 35 := callable_of Tryd.func35 (by kernel_rfl) rfl
theorem callable_36 : Callable Tryd.prog 36 := callable_of Tryd.func36 (by kernel_rfl) rfl
theorem callable_37 : Callable Tryd.prog 37 := callable_of Tryd.func37 (by kernel_rfl) rfl
theorem callable_38 : Callable Tryd.prog 38 := callable_of Tryd.func38 (by kernel_rfl) rfl
theorem callable_39 : Callable Tryd.prog 39 := callable_of Tryd.func39 (by kernel_rfl) rfl
theorem callable_40 : Callable Tryd.prog 40 := callable_of Tryd.func40 (by kernel_rfl) rfl
theorem callable_41 : Callable Tryd.prog 41 := callable_of Tryd.func41 (by kernel_rfl) rfl
theorem callable_42 : Callable Tryd.prog 42 := callable_of Tryd.func42 (by kernel_rfl) rfl
theorem callable_43 : Callable Tryd.prog 43 := callable_of Tryd.func43 (by kernel_rfl) rfl
theorem callable_44 : Callable Tryd.prog 44 := callable_of Tryd.func44 (by kernel_rfl) rfl
theorem callable_64 : Callable Tryd.prog 64 := callable_of Tryd.func64 (by kernel_rfl) rfl
end Go.Proofs.YtgakaghdiodakaaDoor
