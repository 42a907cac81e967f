import Derived.Test.YtmeopehknkfnbaaEng14
import Derived.Test.YtmeopehknkfnbaaRows
import Derived.KernelRfl
set_option linter.unusedVariables false
namespace Go.Proofs.Ytmeopehknkfnbaa
open Go.E Go.RowKit

theorem ti3 : TIok Try.prog 3 ⟨.int .i64, 1, 8, some (.int .i64 0), []⟩ := ⟨Try.underlying3, by kernel_rfl, fun fs h => by cases h⟩
theorem ti5 : TIok Try.prog 5 ⟨.int .u8, 1, 1, some (.int .u8 0), []⟩ := ⟨Try.underlying5, by kernel_rfl, fun fs h => by cases h⟩
theorem ti22 : TIok Try.prog 22 ⟨.slice 3, 1, 24, some (.slice none 0 0), []⟩ := ⟨Try.underlying22, by kernel_rfl, fun fs h => by cases h⟩
theorem ti24 : TIok Try.prog 24 ⟨.struct #[⟨ "Width", 3, 0, false,  "",  "", 0⟩, ⟨ "Height", 3, 1, false,  "",  "", 8⟩, ⟨ "Max", 3, 2, false,  "",  "", 16⟩, ⟨ "Pixels", 22, 3, false,  "",  "", 24⟩], 4, 48, some (.agg #[.int .i64 0, .int .i64 0, .int .i64 0, .slice none 0 0]), [(0, 1), (1, 1), (2, 1), (3, 1)]⟩ := ⟨Try.underlying24, by kernel_rfl, fun fs h => by cases h; kernel_rfl⟩
theorem ti25 : TIok Try.prog 25 ⟨.array 2 3, 2, 16, some (.agg #[.int .i64 0, .int .i64 0]), []⟩ := ⟨Try.underlying25, by kernel_rfl, fun fs h => by cases h⟩
theorem ti34 : TIok Try.prog 34 ⟨.int .u64, 1, 8, some (.int .u64 0), []⟩ := ⟨Try.underlying34, by kernel_rfl, fun fs h => by cases h⟩
theorem ti37 : TIok Try.prog 37 ⟨.struct #[⟨ "Left", 24, 0, false,  "",  "", 0⟩, ⟨ "Right", 24, 4, false,  "",  "", 48⟩], 8, 96, some (.agg #[.int .i64 0, .int .i64 0, .int .i64 0, .slice none 0 0, .int .i64 0, .int .i64 0, .int .i64 0, .slice none 0 0]), [(0, 4), (4, 4)]⟩ := ⟨Try.underlying37, by kernel_rfl, fun fs h => by cases h; kernel_rfl⟩
theorem ti39 : TIok Try.prog 39 ⟨.struct #[⟨ "Width", 3, 0, false,  "",  "", 0⟩, ⟨ "Height", 3, 1, false,  "",  "", 8⟩, ⟨ "Depth", 3, 2, false,  "",  "", 16⟩, ⟨ "Cost", 22, 3, false,  "",  "", 24⟩], 4, 48, some (.agg #[.int .i64 0, .int .i64 0, .int .i64 0, .slice none 0 0]), [(0, 1), (1, 1), (2, 1), (3, 1)]⟩ := ⟨Try.underlying39, by kernel_rfl, fun fs h => by cases h; kernel_rfl⟩
theorem ti47 : TIok Try.prog 47 ⟨.slice 5, 1, 24, some (.slice none 0 0), []⟩ := ⟨Try.underlying47, by kernel_rfl, fun fs h => by cases h⟩
theorem ti52 : TIok Try.prog 52 ⟨.slice 39, 1, 24, some (.slice none 0 0), []⟩ := ⟨Try.underlying52, by kernel_rfl, fun fs h => by cases h⟩
theorem ti73 : TIok Try.prog 73 ⟨.slice 24, 1, 24, some (.slice none 0 0), []⟩ := ⟨Try.underlying73, by kernel_rfl, fun fs h => by cases h⟩
def TB : Tab := [(3, ⟨.int .i64, 1, 8, some (.int .i64 0), []⟩),
  (5, ⟨.int .u8, 1, 1, some (.int .u8 0), []⟩),
  (22, ⟨.slice 3, 1, 24, some (.slice none 0 0), []⟩),
  (24, ⟨.struct #[⟨ "Width", 3, 0, false,  "",  "", 0⟩, ⟨ "Height", 3, 1, false,  "",  "", 8⟩, ⟨ "Max", 3, 2, false,  "",  "", 16⟩, ⟨ "Pixels", 22, 3, false,  "",  "", 24⟩], 4, 48, some (.agg #[.int .i64 0, .int .i64 0, .int .i64 0, .slice none 0 0]), [(0, 1), (1, 1), (2, 1), (3, 1)]⟩),
  (25, ⟨.array 2 3, 2, 16, some (.agg #[.int .i64 0, .int .i64 0]), []⟩),
  (34, ⟨.int .u64, 1, 8, some (.int .u64 0), []⟩),
  (37, ⟨.struct #[⟨ "Left", 24, 0, false,  "",  "", 0⟩, ⟨ "Right", 24, 4, false,  "",  "", 48⟩], 8, 96, some (.agg #[.int .i64 0, .int .i64 0, .int .i64 0, .slice none 0 0, .int .i64 0, .int .i64 0, .int .i64 0, .slice none 0 0]), [(0, 4), (4, 4)]⟩),
  (39, ⟨.struct #[⟨ "Width", 3, 0, false,  "",  "", 0⟩, ⟨ "Height", 3, 1, false,  "",  "", 8⟩, ⟨ "Depth", 3, 2, false,  "",  "", 16⟩, ⟨ "Cost", 22, 3, false,  "",  "", 24⟩], 4, 48, some (.agg #[.int .i64 0, .int .i64 0, .int .i64 0, .slice none 0 0]), [(0, 1), (1, 1), (2, 1), (3, 1)]⟩),
  (47, ⟨.slice 5, 1, 24, some (.slice none 0 0), []⟩),
  (52, ⟨.slice 39, 1, 24, some (.slice none 0 0), []⟩),
  (73, ⟨.slice 24, 1, 24, some (.slice none 0 0), []⟩)]
theorem tbok : TabOk Try.prog TB := (tabOk_cons ti3 (tabOk_cons ti5 (tabOk_cons ti22 (tabOk_cons ti24 (tabOk_cons ti25 (tabOk_cons ti34 (tabOk_cons ti37 (tabOk_cons ti39 (tabOk_cons ti47 (tabOk_cons ti52 (tabOk_cons ti73 tabOk_nil)))))))))))
theorem follows_ok : Try.prog.follows .mixedOrders = true := by kernel_rfl
theorem callable_2 : Callable Try.prog 2 := callable_of Try.func2 (by kernel_rfl) rfl
theorem callable_3 : Callable Try.prog 3 := callable_of Try.func3 (by kernel_rfl) rfl
theorem callable_4 : Callable Try.prog 4 := callable_of Try.func4 (by kernel_rfl) rfl
theorem callable_5 : Callable Try.prog 5 := callable_of Try.func5 (by kernel_rfl) rfl
theorem callable_6 : Callable Try.prog 6 := callable_of Try.func6 (by kernel_rfl) rfl
theorem callable_7 : Callable Try.prog 7 := callable_of Try.func7 (by kernel_rfl) rfl
theorem callable_8 : Callable Try.prog 8 := callable_of Try.func8 (by kernel_rfl) rfl
theorem callable_9 : Callable Try.prog 9 := callable_of Try.func9 (by kernel_rfl) rfl
theorem callable_10 : Callable Try.prog 10 := callable_of Try.func10 (by kernel_rfl) rfl
theorem callable_11 : Callable Try.prog 11 := callable_of Try.func11 (by kernel_rfl) rfl
theorem callable_12 : Callable Try.prog 12 := callable_of Try.func12 (by kernel_rfl) rfl
theorem callable_13 : Callable Try.prog 13 := callable_of Try.func13 (by kernel_rfl) rfl
theorem callable_14 : Callable Try.prog 14 := callable_of Try.func14 (by kernel_rfl) rfl
theorem callable_15 : Callable Try.prog 15 := callable_of Try.func15 (by kernel_rfl) rfl
theorem callable_16 : Callable Try.prog 16 := callable_of Try.func16 (by kernel_rfl) rfl
theorem callable_17 : Callable Try.prog 17 := callable_of Try.func17 (by kernel_rfl) rfl
theorem callable_18 : Callable Try.prog 18 := callable_of Try.func18 (by kernel_rfl) rfl
theorem callable_19 : Callable Try.prog 19 := callable_of Try.func19 (by kernel_rfl) rfl
theorem callable_20 : Callable Try.prog 20 := callable_of Try.func20 (by kernel_rfl) rfl
theorem callable_21 : Callable Try.prog 21 := callable_of Try.func21 (by kernel_rfl) rfl
theorem callable_22 : Callable Try.prog 22 := callable_of Try.func22 (by kernel_rfl) rfl
theorem callable_23 : Callable Try.prog 23 := callable_of Try.func23 (by kernel_rfl) rfl
theorem callable_24 : Callable Try.prog 24 := callable_of Try.func24 (by kernel_rfl) rfl
theorem callable_25 : Callable Try.prog 25 := callable_of Try.func25 (by kernel_rfl) rfl
theorem callable_26 : Callable Try.prog 26 := callable_of Try.func26 (by kernel_rfl) rfl
theorem callable_27 : Callable Try.prog 27 := callable_of Try.func27 (by kernel_rfl) rfl
theorem callable_28 : Callable Try.prog 28 := callable_of Try.func28 (by kernel_rfl) rfl
theorem callable_29 : Callable Try.prog 29 := callable_of Try.func29 (by kernel_rfl) rfl
theorem callable_30 : Callable Try.prog 30 := callable_of Try.func30 (by kernel_rfl) rfl
theorem callable_31 : Callable Try.prog 31 := callable_of Try.func31 (by kernel_rfl) rfl
theorem callable_32 : Callable Try.prog 32 := callable_of Try.func32 (by kernel_rfl) rfl
theorem callable_33 : Callable Try.prog 33 := callable_of Try.func33 (by kernel_rfl) rfl
theorem callable_34 : Callable Try.prog 34 := callable_of Try.func34 (by kernel_rfl) rfl
theorem callable_35 : Callable Try.prog 35 := callable_of Try.func35 (by kernel_rfl) rfl
theorem callable_36 : Callable Try.prog 36 := callable_of Try.func36 (by kernel_rfl) rfl
theorem callable_37 : Callable Try.prog 37 := callable_of Try.func37 (by kernel_rfl) rfl
theorem callable_38 : Callable Try.prog 38 := callable_of Try.func38 (by kernel_rfl) rfl
theorem callable_39 : Callable Try.prog 39 := callable_of Try.func39 (by kernel_rfl) rfl
theorem callable_40 : Callable Try.prog 40 := callable_of Try.func40 (by kernel_rfl) rfl
theorem callable_41 : Callable Try.prog 41 := callable_of Try.func41 (by kernel_rfl) rfl
theorem callable_42 : Callable Try.prog 42 := callable_of Try.func42 (by kernel_rfl) rfl
theorem callable_43 : Callable Try.prog 43 := callable_of Try.func43 (by kernel_rfl) rfl
theorem callable_44 : Callable Try.prog 44 := callable_of Try.func44 (by kernel_rfl) rfl
theorem callable_45 : Callable Try.prog 45 := callable_of Try.func45 (by kernel_rfl) rfl
theorem callable_46 : Callable Try.prog 46 := callable_of Try.func46 (by kernel_rfl) rfl
theorem callable_47 : Callable Try.prog 47 := callable_of Try.func47 (by kernel_rfl) rfl
theorem callable_48 : Callable Try.prog 48 := callable_of Try.func48 (by kernel_rfl) rfl
theorem callable_49 : Callable Try.prog 49 := callable_of Try.func49 (by kernel_rfl) rfl
theorem callable_50 : Callable Try.prog 50 := callable_of Try.func50 (by kernel_rfl) rfl
theorem callable_51 : Callable Try.prog 51 := callable_of Try.func51 (by kernel_rfl) rfl
theorem callable_52 : Callable Try.prog 52 := callable_of Try.func52 (by kernel_rfl) rfl
def El24 : Mu → List Value → (Int × Int × Int × List Int) → Prop := fun m cs x => ∃ (a3 : Option Addr) (q3 c3 : Nat), cs = [.int .i64 x.1, .int .i64 x.2.1, .int .i64 x.2.2.1, .slice a3 q3 c3] ∧ SlR (FE (I1 .i64)) 1 m (.slice a3 q3 c3) x.2.2.2
theorem mono_El24 : Mono El24 := fun _ _ _ _ hl ⟨a3, q3, c3, h, h3⟩ => ⟨a3, q3, c3, h, h3.mono (mono_FE _) hl⟩
def El39 : Mu → List Value → (Int × Int × Int × List Int) → Prop := fun m cs x => ∃ (a3 : Option Addr) (q3 c3 : Nat), cs = [.int .i64 x.1, .int .i64 x.2.1, .int .i64 x.2.2.1, .slice a3 q3 c3] ∧ SlR (FE (I1 .i64)) 1 m (.slice a3 q3 c3) x.2.2.2
theorem mono_El39 : Mono El39 := fun _ _ _ _ hl ⟨a3, q3, c3, h, h3⟩ => ⟨a3, q3, c3, h, h3.mono (mono_FE _) hl⟩
end Go.Proofs.Ytmeopehknkfnbaa
