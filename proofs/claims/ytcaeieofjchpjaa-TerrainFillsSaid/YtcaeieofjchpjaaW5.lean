import Derived.Test.YtcaeieofjchpjaaTab
import Derived.Test.YtcaeieofjchpjaaM
import Derived.Test.YtcaeieofjchpjaaW4
set_option linter.unusedVariables false
set_option maxRecDepth 100000
set_option maxHeartbeats 4000000
namespace Go.Proofs.Ytcaeieofjchpjaa
open Go.E Go.RowKit
attribute [local irreducible] Go.E.WO Go.E.WK
theorem fiduciallaw48_TerrainFilters_walk {m : Mu} {p0_0 : Int} {p0_1 : Int} {p0_2 : Int} {p0_3 : Int} {p0_4 : Int} {p0_5 : List Int} {p1 : Int} {a_p0_5 : Option Addr} {q_p0_5 c_p0_5 : Nat} (h_p0_5 : SlR (FE (I1 .i64)) 1 m (.slice a_p0_5 q_p0_5 c_p0_5) p0_5) {r : Bool} (hm : fiduciallaw48_TerrainFilters p0_0 p0_1 p0_2 p0_3 p0_4 p0_5 p1 = some r) :
    Go.E.Spec Try.prog 7 [.agg #[.int .i64 p0_0, .int .i64 p0_1, .int .i64 p0_2, .int .i64 p0_3, .int .i64 p0_4, .slice a_p0_5 q_p0_5 c_p0_5], .int .i64 p1] m (fun v _ _ => v = .bool r) := by
  refine Spec_enter Try.func7 rfl rfl rfl (fun w0 => ?_)
  refine WK.sub (e' := [(0, .agg #[.int .i64 p0_0, .int .i64 p0_1, .int .i64 p0_2, .int .i64 p0_3, .int .i64 p0_4, .slice a_p0_5 q_p0_5 c_p0_5]), (1, .int .i64 p1)]) ⟨rfl, rfl, trivial⟩ ?_
  obtain rfl := SlR.qlen h_p0_5
  refine WK.sub (e' := [(0, .agg #[.int .i64 p0_0, .int .i64 p0_1, .int .i64 p0_2, .int .i64 p0_3, .int .i64 p0_4, .slice a_p0_5 p0_5.length c_p0_5]), (1, .int .i64 p1)]) ⟨rfl, rfl, trivial⟩ ?_
  unfold fiduciallaw48_TerrainFilters at hm
  refine WK_seq ?_
  refine WK_region ?_
  refine WO_box [.int .i64 p0_0, .int .i64 p0_1, .int .i64 p0_2, .int .i64 p0_3, .int .i64 p0_4, .slice a_p0_5 p0_5.length c_p0_5] rfl rfl trivial rfl rfl rfl (fun b2 => ?_)
  refine WO.cls (C' := St w0 m m [[⟨b2, 25, [.int .i64 p0_0, .int .i64 p0_1, .int .i64 p0_2, .int .i64 p0_3, .int .i64 p0_4, .slice a_p0_5 p0_5.length c_p0_5]⟩]]) (fun _ h => h) ?_
  refine WO_pure tbok 1 [(1, .int .i64 p1), (2, .pointer (some ⟨b2, 0, none⟩)), (4, .bool false)] rfl ⟨rfl, rfl, rfl, trivial⟩ ?_
  refine WO_end ?_
  refine WK_seq ?_
  refine WK_seq ?_
  refine WK_region ?_
  obtain ⟨y_1, hc3, hm⟩ := bind_some hm
  refine WO_call0 (.bool y_1) rfl rfl trivial rfl rfl rfl rfl St_closed ⟨11, #[], #[], rfl, callable_11, fun w hw => ⟨_, hw.sat, fiduciallaw48_known_walk hc3⟩⟩ ?_
  refine WO_pure tbok 1 [(1, .int .i64 p1), (2, .pointer (some ⟨b2, 0, none⟩)), (4, .bool false), (13, .bool (!y_1))] rfl ⟨rfl, rfl, rfl, rfl, trivial⟩ ?_
  refine WO_end ?_
  refine WK_cond (b := !y_1) rfl (fun hb4 => ?_) (fun hb4 => ?_)
  · have hm := ifT hb4 hm
    refine WK_seq ?_
    refine WK_region ?_
    refine WO_pure tbok 1 [(1, .int .i64 p1), (2, .pointer (some ⟨b2, 0, none⟩)), (4, .bool false)] rfl ⟨rfl, rfl, rfl, trivial⟩ ?_
    refine WO_end ?_
    cases hm
    exact WK_ret (ret_out (L := []) (RLc_tmp rfl RLc_nil) (List.nil_sublist _) rfl)
  · have hm := ifF hb4 hm
    refine WK_skip ?_
    refine WK_seq ?_
    refine WK_seq ?_
    refine WK_region ?_
    refine WO_loadB tbok 0 rfl rfl rfl rfl (fun _ h => h) rfl rfl ?_
    obtain ⟨y_2, hc5, hm⟩ := bind_some hm
    refine WO_call0 (.bool y_2) rfl rfl trivial rfl rfl rfl rfl St_closed ⟨12, #[], #[], rfl, callable_12, fun w hw => ⟨_, hw.sat, fiduciallaw48_few_walk h_p0_5 hc5⟩⟩ ?_
    refine WO_pure tbok 1 [(1, .int .i64 p1), (2, .pointer (some ⟨b2, 0, none⟩)), (4, .bool false), (16, .bool (!y_2))] rfl ⟨rfl, rfl, rfl, rfl, trivial⟩ ?_
    refine WO_end ?_
    refine WK_cond (b := !y_2) rfl (fun hb6 => ?_) (fun hb6 => ?_)
    · have hm := ifT hb6 hm
      refine WK_seq ?_
      refine WK_region ?_
      refine WO_pure tbok 1 [(1, .int .i64 p1), (2, .pointer (some ⟨b2, 0, none⟩)), (4, .bool true)] rfl ⟨rfl, rfl, rfl, trivial⟩ ?_
      refine WO_end ?_
      cases hm
      exact WK_ret (ret_out (L := []) (RLc_tmp rfl RLc_nil) (List.nil_sublist _) rfl)
    · have hm := ifF hb6 hm
      refine WK_skip ?_
      refine WK_seq ?_
      refine WK_region ?_
      refine WO_loadB tbok 0 rfl rfl rfl rfl (fun _ h => h) rfl rfl ?_
      refine WO_pure tbok 1 [(1, .int .i64 p1), (2, .pointer (some ⟨b2, 0, none⟩)), (4, .bool false), (18, .agg #[.int .i64 p0_0, .int .i64 p0_1, .int .i64 p0_2, .int .i64 p0_3, .int .i64 p0_4, .slice a_p0_5 p0_5.length c_p0_5]), (19, .int .i64 p1)] rfl ⟨rfl, rfl, rfl, rfl, rfl, trivial⟩ ?_
      obtain ⟨⟨y_3, y_4, y_5, y_6, y_7, y_8, y_9⟩, hc7, hm⟩ := bind_some hm
      refine WO_call2 (terrain_Erode_Q (y_3, y_4, y_5, y_6, y_7, y_8, y_9)) rfl rfl trivial rfl rfl rfl rfl ⟨24, #[], #[], rfl, callable_24, terrain_Erode_walk h_p0_5 hc7⟩ (fun v12 m13 L11 hle14 hq => ?_)
      obtain ⟨a8, qa8, c9, rfl, h15⟩ := hq
      obtain rfl := SlR.qlen h15
      refine WO.cls (C' := St w0 m m13 [[⟨b2, 25, [.int .i64 p0_0, .int .i64 p0_1, .int .i64 p0_2, .int .i64 p0_3, .int .i64 p0_4, .slice a_p0_5 p0_5.length c_p0_5]⟩], L11]) (fun _ h => h.sub (by simp)) ?_
      refine WO_pure tbok 3 [(1, .int .i64 p1), (2, .pointer (some ⟨b2, 0, none⟩)), (4, .bool false), (21, .agg #[.int .i64 y_3, .int .i64 y_4, .int .i64 y_5, .int .i64 y_6, .int .i64 y_7, .slice a8 ((y_8).length) c9]), (22, .int .i64 y_9)] rfl ⟨rfl, rfl, rfl, rfl, rfl, trivial⟩ ?_
      refine WO_alloc tbok [.int .i64 0, .int .i64 0, .int .i64 0, .int .i64 0, .int .i64 0, .slice none 0 0] rfl rfl trivial rfl rfl rfl rfl (fun b16 => ?_)
      refine WO.cls (C' := St w0 m m13 [[⟨b2, 25, [.int .i64 p0_0, .int .i64 p0_1, .int .i64 p0_2, .int .i64 p0_3, .int .i64 p0_4, .slice a_p0_5 p0_5.length c_p0_5]⟩], L11, [⟨b16, 25, [.int .i64 0, .int .i64 0, .int .i64 0, .int .i64 0, .int .i64 0, .slice none 0 0]⟩]]) (fun _ h => h) ?_
      refine WO_storeB tbok 2 [.int .i64 y_3, .int .i64 y_4, .int .i64 y_5, .int .i64 y_6, .int .i64 y_7, .slice a8 ((y_8).length) c9] rfl rfl rfl rfl rfl rfl rfl ?_
      refine WO.cls (C' := St w0 m m13 [[⟨b2, 25, [.int .i64 p0_0, .int .i64 p0_1, .int .i64 p0_2, .int .i64 p0_3, .int .i64 p0_4, .slice a_p0_5 p0_5.length c_p0_5]⟩], L11, [⟨b16, 25, [.int .i64 y_3, .int .i64 y_4, .int .i64 y_5, .int .i64 y_6, .int .i64 y_7, .slice a8 ((y_8).length) c9]⟩]]) (fun _ h => h) ?_
      refine WO_pure tbok 1 [(1, .int .i64 p1), (2, .pointer (some ⟨b2, 0, none⟩)), (4, .bool false), (5, .pointer (some ⟨b16, 0, none⟩)), (6, .int .i64 y_9)] rfl ⟨rfl, rfl, rfl, rfl, rfl, trivial⟩ ?_
      refine WO_end ?_
      refine WK_seq ?_
      refine WK_region ?_
      refine WO_loadB tbok 0 rfl rfl rfl rfl (fun _ h => h) rfl rfl ?_
      refine WO_pure tbok 1 [(1, .int .i64 p1), (2, .pointer (some ⟨b2, 0, none⟩)), (4, .bool false), (5, .pointer (some ⟨b16, 0, none⟩)), (6, .int .i64 y_9), (24, .agg #[.int .i64 p0_0, .int .i64 p0_1, .int .i64 p0_2, .int .i64 p0_3, .int .i64 p0_4, .slice a_p0_5 p0_5.length c_p0_5]), (25, .int .i64 p1)] rfl ⟨rfl, rfl, rfl, rfl, rfl, rfl, rfl, trivial⟩ ?_
      obtain ⟨⟨y_10, y_11, y_12, y_13, y_14, y_15, y_16⟩, hc17, hm⟩ := bind_some hm
      refine WO_call2 (terrain_Dilate_Q (y_10, y_11, y_12, y_13, y_14, y_15, y_16)) rfl rfl trivial rfl rfl rfl rfl ⟨25, #[], #[], rfl, callable_25, terrain_Dilate_walk (h_p0_5.mono (mono_FE _) hle14) hc17⟩ (fun v22 m23 L21 hle24 hq => ?_)
      obtain ⟨a18, qa18, c19, rfl, h25⟩ := hq
      obtain rfl := SlR.qlen h25
      refine WO.cls (C' := St w0 m m23 [[⟨b2, 25, [.int .i64 p0_0, .int .i64 p0_1, .int .i64 p0_2, .int .i64 p0_3, .int .i64 p0_4, .slice a_p0_5 p0_5.length c_p0_5]⟩], L11, [⟨b16, 25, [.int .i64 y_3, .int .i64 y_4, .int .i64 y_5, .int .i64 y_6, .int .i64 y_7, .slice a8 ((y_8).length) c9]⟩], L21]) (fun _ h => h.sub (by simp)) ?_
      refine WO_pure tbok 3 [(1, .int .i64 p1), (2, .pointer (some ⟨b2, 0, none⟩)), (4, .bool false), (5, .pointer (some ⟨b16, 0, none⟩)), (6, .int .i64 y_9), (27, .agg #[.int .i64 y_10, .int .i64 y_11, .int .i64 y_12, .int .i64 y_13, .int .i64 y_14, .slice a18 ((y_15).length) c19]), (28, .int .i64 y_16)] rfl ⟨rfl, rfl, rfl, rfl, rfl, rfl, rfl, trivial⟩ ?_
      refine WO_alloc tbok [.int .i64 0, .int .i64 0, .int .i64 0, .int .i64 0, .int .i64 0, .slice none 0 0] rfl rfl trivial rfl rfl rfl rfl (fun b26 => ?_)
      refine WO.cls (C' := St w0 m m23 [[⟨b2, 25, [.int .i64 p0_0, .int .i64 p0_1, .int .i64 p0_2, .int .i64 p0_3, .int .i64 p0_4, .slice a_p0_5 p0_5.length c_p0_5]⟩], L11, [⟨b16, 25, [.int .i64 y_3, .int .i64 y_4, .int .i64 y_5, .int .i64 y_6, .int .i64 y_7, .slice a8 ((y_8).length) c9]⟩], L21, [⟨b26, 25, [.int .i64 0, .int .i64 0, .int .i64 0, .int .i64 0, .int .i64 0, .slice none 0 0]⟩]]) (fun _ h => h) ?_
      refine WO_storeB tbok 4 [.int .i64 y_10, .int .i64 y_11, .int .i64 y_12, .int .i64 y_13, .int .i64 y_14, .slice a18 ((y_15).length) c19] rfl rfl rfl rfl rfl rfl rfl ?_
      refine WO.cls (C' := St w0 m m23 [[⟨b2, 25, [.int .i64 p0_0, .int .i64 p0_1, .int .i64 p0_2, .int .i64 p0_3, .int .i64 p0_4, .slice a_p0_5 p0_5.length c_p0_5]⟩], L11, [⟨b16, 25, [.int .i64 y_3, .int .i64 y_4, .int .i64 y_5, .int .i64 y_6, .int .i64 y_7, .slice a8 ((y_8).length) c9]⟩], L21, [⟨b26, 25, [.int .i64 y_10, .int .i64 y_11, .int .i64 y_12, .int .i64 y_13, .int .i64 y_14, .slice a18 ((y_15).length) c19]⟩]]) (fun _ h => h) ?_
      refine WO_pure tbok 1 [(1, .int .i64 p1), (2, .pointer (some ⟨b2, 0, none⟩)), (4, .bool false), (5, .pointer (some ⟨b16, 0, none⟩)), (6, .int .i64 y_9), (7, .pointer (some ⟨b26, 0, none⟩)), (8, .int .i64 y_16)] rfl ⟨rfl, rfl, rfl, rfl, rfl, rfl, rfl, trivial⟩ ?_
      refine WO_end ?_
      refine WK_seq ?_
      refine WK_region ?_
      refine WO_loadB tbok 0 rfl rfl rfl rfl (fun _ h => h) rfl rfl ?_
      refine WO_pure tbok 1 [(1, .int .i64 p1), (2, .pointer (some ⟨b2, 0, none⟩)), (4, .bool false), (5, .pointer (some ⟨b16, 0, none⟩)), (6, .int .i64 y_9), (7, .pointer (some ⟨b26, 0, none⟩)), (8, .int .i64 y_16), (30, .agg #[.int .i64 p0_0, .int .i64 p0_1, .int .i64 p0_2, .int .i64 p0_3, .int .i64 p0_4, .slice a_p0_5 p0_5.length c_p0_5]), (31, .int .i64 p1)] rfl ⟨rfl, rfl, rfl, rfl, rfl, rfl, rfl, rfl, rfl, trivial⟩ ?_
      obtain ⟨⟨y_17, y_18, y_19, y_20, y_21, y_22, y_23⟩, hc27, hm⟩ := bind_some hm
      refine WO_call2 (terrain_Open_Q (y_17, y_18, y_19, y_20, y_21, y_22, y_23)) rfl rfl trivial rfl rfl rfl rfl ⟨26, #[], #[], rfl, callable_26, terrain_Open_walk ((h_p0_5.mono (mono_FE _) hle14).mono (mono_FE _) hle24) hc27⟩ (fun v32 m33 L31 hle34 hq => ?_)
      obtain ⟨a28, qa28, c29, rfl, h35⟩ := hq
      obtain rfl := SlR.qlen h35
      refine WO.cls (C' := St w0 m m33 [[⟨b2, 25, [.int .i64 p0_0, .int .i64 p0_1, .int .i64 p0_2, .int .i64 p0_3, .int .i64 p0_4, .slice a_p0_5 p0_5.length c_p0_5]⟩], L11, [⟨b16, 25, [.int .i64 y_3, .int .i64 y_4, .int .i64 y_5, .int .i64 y_6, .int .i64 y_7, .slice a8 ((y_8).length) c9]⟩], L21, [⟨b26, 25, [.int .i64 y_10, .int .i64 y_11, .int .i64 y_12, .int .i64 y_13, .int .i64 y_14, .slice a18 ((y_15).length) c19]⟩], L31]) (fun _ h => h.sub (by simp)) ?_
      refine WO_pure tbok 3 [(1, .int .i64 p1), (2, .pointer (some ⟨b2, 0, none⟩)), (4, .bool false), (5, .pointer (some ⟨b16, 0, none⟩)), (6, .int .i64 y_9), (7, .pointer (some ⟨b26, 0, none⟩)), (8, .int .i64 y_16), (33, .agg #[.int .i64 y_17, .int .i64 y_18, .int .i64 y_19, .int .i64 y_20, .int .i64 y_21, .slice a28 ((y_22).length) c29]), (34, .int .i64 y_23)] rfl ⟨rfl, rfl, rfl, rfl, rfl, rfl, rfl, rfl, rfl, trivial⟩ ?_
      refine WO_alloc tbok [.int .i64 0, .int .i64 0, .int .i64 0, .int .i64 0, .int .i64 0, .slice none 0 0] rfl rfl trivial rfl rfl rfl rfl (fun b36 => ?_)
      refine WO.cls (C' := St w0 m m33 [[⟨b2, 25, [.int .i64 p0_0, .int .i64 p0_1, .int .i64 p0_2, .int .i64 p0_3, .int .i64 p0_4, .slice a_p0_5 p0_5.length c_p0_5]⟩], L11, [⟨b16, 25, [.int .i64 y_3, .int .i64 y_4, .int .i64 y_5, .int .i64 y_6, .int .i64 y_7, .slice a8 ((y_8).length) c9]⟩], L21, [⟨b26, 25, [.int .i64 y_10, .int .i64 y_11, .int .i64 y_12, .int .i64 y_13, .int .i64 y_14, .slice a18 ((y_15).length) c19]⟩], L31, [⟨b36, 25, [.int .i64 0, .int .i64 0, .int .i64 0, .int .i64 0, .int .i64 0, .slice none 0 0]⟩]]) (fun _ h => h) ?_
      refine WO_storeB tbok 6 [.int .i64 y_17, .int .i64 y_18, .int .i64 y_19, .int .i64 y_20, .int .i64 y_21, .slice a28 ((y_22).length) c29] rfl rfl rfl rfl rfl rfl rfl ?_
      refine WO.cls (C' := St w0 m m33 [[⟨b2, 25, [.int .i64 p0_0, .int .i64 p0_1, .int .i64 p0_2, .int .i64 p0_3, .int .i64 p0_4, .slice a_p0_5 p0_5.length c_p0_5]⟩], L11, [⟨b16, 25, [.int .i64 y_3, .int .i64 y_4, .int .i64 y_5, .int .i64 y_6, .int .i64 y_7, .slice a8 ((y_8).length) c9]⟩], L21, [⟨b26, 25, [.int .i64 y_10, .int .i64 y_11, .int .i64 y_12, .int .i64 y_13, .int .i64 y_14, .slice a18 ((y_15).length) c19]⟩], L31, [⟨b36, 25, [.int .i64 y_17, .int .i64 y_18, .int .i64 y_19, .int .i64 y_20, .int .i64 y_21, .slice a28 ((y_22).length) c29]⟩]]) (fun _ h => h) ?_
      refine WO_pure tbok 1 [(1, .int .i64 p1), (2, .pointer (some ⟨b2, 0, none⟩)), (4, .bool false), (5, .pointer (some ⟨b16, 0, none⟩)), (6, .int .i64 y_9), (7, .pointer (some ⟨b26, 0, none⟩)), (8, .int .i64 y_16), (9, .pointer (some ⟨b36, 0, none⟩)), (10, .int .i64 y_23)] rfl ⟨rfl, rfl, rfl, rfl, rfl, rfl, rfl, rfl, rfl, trivial⟩ ?_
      refine WO_end ?_
      refine WK_seq ?_
      refine WK_region ?_
      refine WO_loadB tbok 0 rfl rfl rfl rfl (fun _ h => h) rfl rfl ?_
      obtain ⟨y_24, hc37, hm⟩ := bind_some hm
      refine WO_call0 (.int .i64 y_24) rfl rfl trivial rfl rfl rfl rfl St_closed ⟨17, #[], #[], rfl, callable_17, fun w hw => ⟨_, hw.sat, fiduciallaw48_checked_walk (((h_p0_5.mono (mono_FE _) hle14).mono (mono_FE _) hle24).mono (mono_FE _) hle34) hc37⟩⟩ ?_
      refine WO_pure tbok 1 [(1, .int .i64 p1), (2, .pointer (some ⟨b2, 0, none⟩)), (4, .bool false), (5, .pointer (some ⟨b16, 0, none⟩)), (6, .int .i64 y_9), (7, .pointer (some ⟨b26, 0, none⟩)), (8, .int .i64 y_16), (9, .pointer (some ⟨b36, 0, none⟩)), (10, .int .i64 y_23), (11, .int .i64 y_24)] rfl ⟨rfl, rfl, rfl, rfl, rfl, rfl, rfl, rfl, rfl, rfl, trivial⟩ ?_
      refine WO_end ?_
      refine WK_seq ?_
      refine WK_seq ?_
      obtain ⟨s_25, hx38, hm⟩ := bind_some hm
      refine WK_meet [(1, .int .i64 p1), (2, .pointer (some ⟨b2, 0, none⟩)), (4, .bool false), (5, .pointer (some ⟨b16, 0, none⟩)), (6, .int .i64 y_9), (7, .pointer (some ⟨b26, 0, none⟩)), (8, .int .i64 y_16), (9, .pointer (some ⟨b36, 0, none⟩)), (10, .int .i64 y_23), (11, .int .i64 y_24), (46, .bool s_25)] (St w0 m m33 [[⟨b2, 25, [.int .i64 p0_0, .int .i64 p0_1, .int .i64 p0_2, .int .i64 p0_3, .int .i64 p0_4, .slice a_p0_5 p0_5.length c_p0_5]⟩], L11, [⟨b16, 25, [.int .i64 y_3, .int .i64 y_4, .int .i64 y_5, .int .i64 y_6, .int .i64 y_7, .slice a8 ((y_8).length) c9]⟩], L21, [⟨b26, 25, [.int .i64 y_10, .int .i64 y_11, .int .i64 y_12, .int .i64 y_13, .int .i64 y_14, .slice a18 ((y_15).length) c19]⟩], L31, [⟨b36, 25, [.int .i64 y_17, .int .i64 y_18, .int .i64 y_19, .int .i64 y_20, .int .i64 y_21, .slice a28 ((y_22).length) c29]⟩]]) ?_ (fun hk39 => ?_)
      · obtain ⟨s_26, hx40, hm⟩ := bind_some hm
        refine WK_meet [(1, .int .i64 p1), (2, .pointer (some ⟨b2, 0, none⟩)), (4, .bool false), (5, .pointer (some ⟨b16, 0, none⟩)), (6, .int .i64 y_9), (7, .pointer (some ⟨b26, 0, none⟩)), (8, .int .i64 y_16), (9, .pointer (some ⟨b36, 0, none⟩)), (10, .int .i64 y_23), (11, .int .i64 s_26)] (St w0 m m33 [[⟨b2, 25, [.int .i64 p0_0, .int .i64 p0_1, .int .i64 p0_2, .int .i64 p0_3, .int .i64 p0_4, .slice a_p0_5 p0_5.length c_p0_5]⟩], L11, [⟨b16, 25, [.int .i64 y_3, .int .i64 y_4, .int .i64 y_5, .int .i64 y_6, .int .i64 y_7, .slice a8 ((y_8).length) c9]⟩], L21, [⟨b26, 25, [.int .i64 y_10, .int .i64 y_11, .int .i64 y_12, .int .i64 y_13, .int .i64 y_14, .slice a18 ((y_15).length) c19]⟩], L31, [⟨b36, 25, [.int .i64 y_17, .int .i64 y_18, .int .i64 y_19, .int .i64 y_20, .int .i64 y_21, .slice a28 ((y_22).length) c29]⟩]]) ?_ (fun hk41 => ?_)
        · refine WK_seq ?_
          refine WK_seq ?_
          obtain ⟨s_27, hx42, hm⟩ := bind_some hm
          refine WK_meet [(1, .int .i64 p1), (2, .pointer (some ⟨b2, 0, none⟩)), (4, .bool false), (5, .pointer (some ⟨b16, 0, none⟩)), (7, .pointer (some ⟨b26, 0, none⟩)), (9, .pointer (some ⟨b36, 0, none⟩)), (11, .int .i64 s_26), (59, .bool s_27)] (St w0 m m33 [[⟨b2, 25, [.int .i64 p0_0, .int .i64 p0_1, .int .i64 p0_2, .int .i64 p0_3, .int .i64 p0_4, .slice a_p0_5 p0_5.length c_p0_5]⟩], L11, [⟨b16, 25, [.int .i64 y_3, .int .i64 y_4, .int .i64 y_5, .int .i64 y_6, .int .i64 y_7, .slice a8 ((y_8).length) c9]⟩], L21, [⟨b26, 25, [.int .i64 y_10, .int .i64 y_11, .int .i64 y_12, .int .i64 y_13, .int .i64 y_14, .slice a18 ((y_15).length) c19]⟩], L31, [⟨b36, 25, [.int .i64 y_17, .int .i64 y_18, .int .i64 y_19, .int .i64 y_20, .int .i64 y_21, .slice a28 ((y_22).length) c29]⟩]]) ?_ (fun hk43 => ?_)
          · refine WK_cond (b := s_27) rfl (fun hb44 => ?_) (fun hb44 => ?_)
            · have hm := ifT hb44 hm
              refine WK_seq ?_
              refine WK_region ?_
              refine WO_pure tbok 1 [(1, .int .i64 p1), (2, .pointer (some ⟨b2, 0, none⟩)), (4, .bool false), (5, .pointer (some ⟨b16, 0, none⟩)), (7, .pointer (some ⟨b26, 0, none⟩)), (9, .pointer (some ⟨b36, 0, none⟩)), (11, .int .i64 s_26)] rfl ⟨rfl, rfl, rfl, rfl, rfl, rfl, rfl, trivial⟩ ?_
              refine WO_end ?_
              cases hm
              exact WK_ret (ret_out (L := []) (RLc_tmp rfl RLc_nil) (List.nil_sublist _) rfl)
            · have hm := ifF hb44 hm
              refine WK_skip ?_
              refine WK_seq ?_
              refine WK_seq ?_
              refine WK_region ?_
              refine WO_pure tbok 2 [(1, .int .i64 p1), (2, .pointer (some ⟨b2, 0, none⟩)), (4, .bool false), (5, .pointer (some ⟨b16, 0, none⟩)), (7, .pointer (some ⟨b26, 0, none⟩)), (9, .pointer (some ⟨b36, 0, none⟩)), (61, .bool (s_26 != 0))] rfl ⟨rfl, rfl, rfl, rfl, rfl, rfl, rfl, trivial⟩ ?_
              refine WO_end ?_
              refine WK_cond (b := s_26 != 0) rfl (fun hb45 => ?_) (fun hb45 => ?_)
              · have hm := ifT hb45 hm
                refine WK_seq ?_
                refine WK_region ?_
                refine WO_loadB tbok 2 rfl rfl rfl rfl (fun _ h => h) rfl rfl ?_
                refine WO_pure tbok 1 [(1, .int .i64 p1), (2, .pointer (some ⟨b2, 0, none⟩)), (4, .bool false), (5, .pointer (some ⟨b16, 0, none⟩)), (7, .pointer (some ⟨b26, 0, none⟩)), (9, .pointer (some ⟨b36, 0, none⟩)), (62, .agg #[.int .i64 y_3, .int .i64 y_4, .int .i64 y_5, .int .i64 y_6, .int .i64 y_7, .slice a8 ((y_8).length) c9]), (63, .agg #[.int .i64 0, .int .i64 0, .int .i64 0, .int .i64 0, .int .i64 0, .slice none 0 0])] rfl ⟨rfl, rfl, rfl, rfl, rfl, rfl, rfl, rfl, trivial⟩ ?_
                obtain ⟨y_28, hc46, hm⟩ := bind_some hm
                refine WO_call0 (.bool y_28) rfl rfl trivial rfl rfl rfl rfl St_closed ⟨15, #[], #[], rfl, callable_15, fun w hw => ⟨_, hw.sat, fiduciallaw48_same_walk ((h15.mono (mono_FE _) hle24).mono (mono_FE _) hle34) SlR_nil hc46⟩⟩ ?_
                refine WO_pure tbok 1 [(1, .int .i64 p1), (2, .pointer (some ⟨b2, 0, none⟩)), (4, .bool false), (5, .pointer (some ⟨b16, 0, none⟩)), (7, .pointer (some ⟨b26, 0, none⟩)), (9, .pointer (some ⟨b36, 0, none⟩)), (65, .bool y_28)] rfl ⟨rfl, rfl, rfl, rfl, rfl, rfl, rfl, trivial⟩ ?_
                refine WO_split (d := 65) (b := y_28) rfl (fun hb47 => ?_) (fun hb47 => ?_)
                · have hm := ifT hb47 hm
                  refine WO_loadB tbok 4 rfl rfl rfl rfl (fun _ h => h) rfl rfl ?_
                  refine WO_pure tbok 1 [(1, .int .i64 p1), (2, .pointer (some ⟨b2, 0, none⟩)), (4, .bool false), (5, .pointer (some ⟨b16, 0, none⟩)), (7, .pointer (some ⟨b26, 0, none⟩)), (9, .pointer (some ⟨b36, 0, none⟩)), (65, .bool true), (66, .agg #[.int .i64 y_10, .int .i64 y_11, .int .i64 y_12, .int .i64 y_13, .int .i64 y_14, .slice a18 ((y_15).length) c19]), (67, .agg #[.int .i64 0, .int .i64 0, .int .i64 0, .int .i64 0, .int .i64 0, .slice none 0 0])] rfl ⟨rfl, rfl, rfl, rfl, rfl, rfl, rfl, rfl, rfl, trivial⟩ ?_
                  obtain ⟨y_29, hc48, hm⟩ := bind_some hm
                  refine WO_call0 (.bool y_29) rfl rfl trivial rfl rfl rfl rfl St_closed ⟨15, #[], #[], rfl, callable_15, fun w hw => ⟨_, hw.sat, fiduciallaw48_same_walk (h25.mono (mono_FE _) hle34) SlR_nil hc48⟩⟩ ?_
                  refine WO_pure tbok 2 [(1, .int .i64 p1), (2, .pointer (some ⟨b2, 0, none⟩)), (4, .bool false), (5, .pointer (some ⟨b16, 0, none⟩)), (7, .pointer (some ⟨b26, 0, none⟩)), (9, .pointer (some ⟨b36, 0, none⟩)), (70, .bool y_29)] rfl ⟨rfl, rfl, rfl, rfl, rfl, rfl, rfl, trivial⟩ ?_
                  refine WO_split (d := 70) (b := y_29) rfl (fun hb49 => ?_) (fun hb49 => ?_)
                  · have hm := ifT hb49 hm
                    refine WO_loadB tbok 6 rfl rfl rfl rfl (fun _ h => h) rfl rfl ?_
                    refine WO_pure tbok 1 [(1, .int .i64 p1), (2, .pointer (some ⟨b2, 0, none⟩)), (4, .bool false), (5, .pointer (some ⟨b16, 0, none⟩)), (7, .pointer (some ⟨b26, 0, none⟩)), (9, .pointer (some ⟨b36, 0, none⟩)), (70, .bool true), (71, .agg #[.int .i64 y_17, .int .i64 y_18, .int .i64 y_19, .int .i64 y_20, .int .i64 y_21, .slice a28 ((y_22).length) c29]), (72, .agg #[.int .i64 0, .int .i64 0, .int .i64 0, .int .i64 0, .int .i64 0, .slice none 0 0])] rfl ⟨rfl, rfl, rfl, rfl, rfl, rfl, rfl, rfl, rfl, trivial⟩ ?_
                    obtain ⟨y_30, hc50, hm⟩ := bind_some hm
                    refine WO_call0 (.bool y_30) rfl rfl trivial rfl rfl rfl rfl St_closed ⟨15, #[], #[], rfl, callable_15, fun w hw => ⟨_, hw.sat, fiduciallaw48_same_walk h35 SlR_nil hc50⟩⟩ ?_
                    refine WO_pure tbok 2 [(1, .int .i64 p1), (2, .pointer (some ⟨b2, 0, none⟩)), (4, .bool y_30), (5, .pointer (some ⟨b16, 0, none⟩)), (7, .pointer (some ⟨b26, 0, none⟩)), (9, .pointer (some ⟨b36, 0, none⟩))] rfl ⟨rfl, rfl, rfl, rfl, rfl, rfl, trivial⟩ ?_
                    refine WO_end ?_
                    cases hm
                    exact WK_ret (ret_out (L := []) (RLc_tmp rfl RLc_nil) (List.nil_sublist _) rfl)
                  · have hm := ifF hb49 hm
                    refine WO_pure tbok 2 [(1, .int .i64 p1), (2, .pointer (some ⟨b2, 0, none⟩)), (4, .bool false), (5, .pointer (some ⟨b16, 0, none⟩)), (7, .pointer (some ⟨b26, 0, none⟩)), (9, .pointer (some ⟨b36, 0, none⟩)), (70, .bool false)] rfl ⟨rfl, rfl, rfl, rfl, rfl, rfl, rfl, trivial⟩ ?_
                    refine WO_skip rfl rfl ?_
                    refine WO_pure tbok 2 [(1, .int .i64 p1), (2, .pointer (some ⟨b2, 0, none⟩)), (4, .bool false), (5, .pointer (some ⟨b16, 0, none⟩)), (7, .pointer (some ⟨b26, 0, none⟩)), (9, .pointer (some ⟨b36, 0, none⟩))] rfl ⟨rfl, rfl, rfl, rfl, rfl, rfl, trivial⟩ ?_
                    refine WO_end ?_
                    cases hm
                    exact WK_ret (ret_out (L := []) (RLc_tmp rfl RLc_nil) (List.nil_sublist _) rfl)
                · have hm := ifF hb47 hm
                  refine WO_pure tbok 2 [(1, .int .i64 p1), (2, .pointer (some ⟨b2, 0, none⟩)), (4, .bool false), (5, .pointer (some ⟨b16, 0, none⟩)), (7, .pointer (some ⟨b26, 0, none⟩)), (9, .pointer (some ⟨b36, 0, none⟩)), (65, .bool false)] rfl ⟨rfl, rfl, rfl, rfl, rfl, rfl, rfl, trivial⟩ ?_
                  refine WO_skip rfl rfl ?_
                  refine WO_pure tbok 4 [(1, .int .i64 p1), (2, .pointer (some ⟨b2, 0, none⟩)), (4, .bool false), (5, .pointer (some ⟨b16, 0, none⟩)), (7, .pointer (some ⟨b26, 0, none⟩)), (9, .pointer (some ⟨b36, 0, none⟩)), (70, .bool false)] rfl ⟨rfl, rfl, rfl, rfl, rfl, rfl, rfl, trivial⟩ ?_
                  refine WO_skip rfl rfl ?_
                  refine WO_pure tbok 2 [(1, .int .i64 p1), (2, .pointer (some ⟨b2, 0, none⟩)), (4, .bool false), (5, .pointer (some ⟨b16, 0, none⟩)), (7, .pointer (some ⟨b26, 0, none⟩)), (9, .pointer (some ⟨b36, 0, none⟩))] rfl ⟨rfl, rfl, rfl, rfl, rfl, rfl, trivial⟩ ?_
                  refine WO_end ?_
                  cases hm
                  exact WK_ret (ret_out (L := []) (RLc_tmp rfl RLc_nil) (List.nil_sublist _) rfl)
              · have hm := ifF hb45 hm
                refine WK_skip ?_
                refine WK_seq ?_
                refine WK_draw 20 [0, 1, 2, 3, 4, 5, 6, 7, 8, 9, 10, 11, 12, 13, 14, 15, 16, 17, 18, 19] follows_ok (by kernel_rfl) St_closed ?_
                refine WO_loadB tbok 2 rfl rfl rfl rfl (fun _ h => h) rfl rfl ?_
                refine WO_loadB tbok 0 rfl rfl rfl rfl (fun _ h => h) rfl rfl ?_
                refine WO_pure tbok 1 [(1, .int .i64 p1), (2, .pointer (some ⟨b2, 0, none⟩)), (4, .bool false), (7, .pointer (some ⟨b26, 0, none⟩)), (9, .pointer (some ⟨b36, 0, none⟩)), (75, .agg #[.int .i64 y_3, .int .i64 y_4, .int .i64 y_5, .int .i64 y_6, .int .i64 y_7, .slice a8 ((y_8).length) c9]), (76, .agg #[.int .i64 p0_0, .int .i64 p0_1, .int .i64 p0_2, .int .i64 p0_3, .int .i64 p0_4, .slice a_p0_5 p0_5.length c_p0_5]), (77, .int .i64 p1)] rfl ⟨rfl, rfl, rfl, rfl, rfl, rfl, rfl, rfl, trivial⟩ ?_
                obtain ⟨⟨y_32, y_33, y_34, y_35, y_36, y_37⟩, hc52, hm⟩ := bind_some hm
                refine WO_call2 (fiduciallaw48_filtered_Q (y_32, y_33, y_34, y_35, y_36, y_37)) rfl rfl St_closed rfl rfl rfl rfl ⟨27, #[], #[], rfl, callable_27, fiduciallaw48_filtered_walk (((h_p0_5.mono (mono_FE _) hle14).mono (mono_FE _) hle24).mono (mono_FE _) hle34) (fun m1 hm1 _ _ _ z_31 h51 _ h => specV_cap callable_28 (fiduciallaw48_least_walk h51 h)) hc52⟩ (fun v57 m58 L56 hle59 hq => ?_)
                obtain ⟨a53, qa53, c54, rfl, h60⟩ := hq
                obtain rfl := SlR.qlen h60
                refine WO.cls (C' := St w0 m m58 [[⟨b2, 25, [.int .i64 p0_0, .int .i64 p0_1, .int .i64 p0_2, .int .i64 p0_3, .int .i64 p0_4, .slice a_p0_5 p0_5.length c_p0_5]⟩], L11, [⟨b16, 25, [.int .i64 y_3, .int .i64 y_4, .int .i64 y_5, .int .i64 y_6, .int .i64 y_7, .slice a8 ((y_8).length) c9]⟩], L21, [⟨b26, 25, [.int .i64 y_10, .int .i64 y_11, .int .i64 y_12, .int .i64 y_13, .int .i64 y_14, .slice a18 ((y_15).length) c19]⟩], L31, [⟨b36, 25, [.int .i64 y_17, .int .i64 y_18, .int .i64 y_19, .int .i64 y_20, .int .i64 y_21, .slice a28 ((y_22).length) c29]⟩], L56]) (fun _ h => h.sub (by simp)) ?_
                obtain ⟨y_38, hc61, hm⟩ := bind_some hm
                refine WO_call0 (.bool y_38) rfl rfl St_closed rfl rfl rfl rfl St_closed ⟨15, #[], #[], rfl, callable_15, fun w hw => ⟨_, hw.sat, fiduciallaw48_same_walk (((h15.mono (mono_FE _) hle24).mono (mono_FE _) hle34).mono (mono_FE _) hle59) h60 hc61⟩⟩ ?_
                refine WO_pure tbok 1 [(1, .int .i64 p1), (2, .pointer (some ⟨b2, 0, none⟩)), (4, .bool false), (7, .pointer (some ⟨b26, 0, none⟩)), (9, .pointer (some ⟨b36, 0, none⟩)), (80, .bool y_38)] rfl ⟨rfl, rfl, rfl, rfl, rfl, rfl, trivial⟩ ?_
                refine WO_split (d := 80) (b := y_38) rfl (fun hb62 => ?_) (fun hb62 => ?_)
                · have hm := ifT hb62 hm
                  refine WO_loadB tbok 4 rfl rfl rfl rfl (fun _ h => h) rfl rfl ?_
                  refine WO_loadB tbok 0 rfl rfl rfl rfl (fun _ h => h) rfl rfl ?_
                  refine WO_pure tbok 1 [(1, .int .i64 p1), (2, .pointer (some ⟨b2, 0, none⟩)), (4, .bool false), (9, .pointer (some ⟨b36, 0, none⟩)), (80, .bool true), (81, .agg #[.int .i64 y_10, .int .i64 y_11, .int .i64 y_12, .int .i64 y_13, .int .i64 y_14, .slice a18 ((y_15).length) c19]), (82, .agg #[.int .i64 p0_0, .int .i64 p0_1, .int .i64 p0_2, .int .i64 p0_3, .int .i64 p0_4, .slice a_p0_5 p0_5.length c_p0_5]), (83, .int .i64 p1)] rfl ⟨rfl, rfl, rfl, rfl, rfl, rfl, rfl, rfl, trivial⟩ ?_
                  obtain ⟨⟨y_40, y_41, y_42, y_43, y_44, y_45⟩, hc64, hm⟩ := bind_some hm
                  refine WO_call2 (fiduciallaw48_filtered_Q (y_40, y_41, y_42, y_43, y_44, y_45)) rfl rfl St_closed rfl rfl rfl rfl ⟨27, #[], #[], rfl, callable_27, fiduciallaw48_filtered_walk ((((h_p0_5.mono (mono_FE _) hle14).mono (mono_FE _) hle24).mono (mono_FE _) hle34).mono (mono_FE _) hle59) (fun m1 hm1 _ _ _ z_39 h63 _ h => specV_cap callable_29 (fiduciallaw48_greatest_walk h63 h)) hc64⟩ (fun v69 m70 L68 hle71 hq => ?_)
                  obtain ⟨a65, qa65, c66, rfl, h72⟩ := hq
                  obtain rfl := SlR.qlen h72
                  refine WO.cls (C' := St w0 m m70 [[⟨b2, 25, [.int .i64 p0_0, .int .i64 p0_1, .int .i64 p0_2, .int .i64 p0_3, .int .i64 p0_4, .slice a_p0_5 p0_5.length c_p0_5]⟩], L11, [⟨b16, 25, [.int .i64 y_3, .int .i64 y_4, .int .i64 y_5, .int .i64 y_6, .int .i64 y_7, .slice a8 ((y_8).length) c9]⟩], L21, [⟨b26, 25, [.int .i64 y_10, .int .i64 y_11, .int .i64 y_12, .int .i64 y_13, .int .i64 y_14, .slice a18 ((y_15).length) c19]⟩], L31, [⟨b36, 25, [.int .i64 y_17, .int .i64 y_18, .int .i64 y_19, .int .i64 y_20, .int .i64 y_21, .slice a28 ((y_22).length) c29]⟩], L56, L68]) (fun _ h => h.sub (by simp)) ?_
                  obtain ⟨y_46, hc73, hm⟩ := bind_some hm
                  refine WO_call0 (.bool y_46) rfl rfl St_closed rfl rfl rfl rfl St_closed ⟨15, #[], #[], rfl, callable_15, fun w hw => ⟨_, hw.sat, fiduciallaw48_same_walk (((h25.mono (mono_FE _) hle34).mono (mono_FE _) hle59).mono (mono_FE _) hle71) h72 hc73⟩⟩ ?_
                  refine WO_pure tbok 2 [(1, .int .i64 p1), (2, .pointer (some ⟨b2, 0, none⟩)), (4, .bool false), (9, .pointer (some ⟨b36, 0, none⟩)), (87, .bool y_46)] rfl ⟨rfl, rfl, rfl, rfl, rfl, trivial⟩ ?_
                  refine WO_split (d := 87) (b := y_46) rfl (fun hb74 => ?_) (fun hb74 => ?_)
                  · have hm := ifT hb74 hm
                    refine WO_loadB tbok 6 rfl rfl rfl rfl (fun _ h => h) rfl rfl ?_
                    refine WO_loadB tbok 0 rfl rfl rfl rfl (fun _ h => h) rfl rfl ?_
                    refine WO_pure tbok 1 [(4, .bool false), (87, .bool true), (88, .agg #[.int .i64 y_17, .int .i64 y_18, .int .i64 y_19, .int .i64 y_20, .int .i64 y_21, .slice a28 ((y_22).length) c29]), (89, .agg #[.int .i64 p0_0, .int .i64 p0_1, .int .i64 p0_2, .int .i64 p0_3, .int .i64 p0_4, .slice a_p0_5 p0_5.length c_p0_5]), (90, .int .i64 p1)] rfl ⟨rfl, rfl, rfl, rfl, rfl, trivial⟩ ?_
                    obtain ⟨⟨y_47, y_48, y_49, y_50, y_51, y_52⟩, hc75, hm⟩ := bind_some hm
                    refine WO_call2 (fiduciallaw48_opened_Q (y_47, y_48, y_49, y_50, y_51, y_52)) rfl rfl St_closed rfl rfl rfl rfl ⟨30, #[], #[], rfl, callable_30, fiduciallaw48_opened_walk (((((h_p0_5.mono (mono_FE _) hle14).mono (mono_FE _) hle24).mono (mono_FE _) hle34).mono (mono_FE _) hle59).mono (mono_FE _) hle71) hc75⟩ (fun v80 m81 L79 hle82 hq => ?_)
                    obtain ⟨a76, qa76, c77, rfl, h83⟩ := hq
                    obtain rfl := SlR.qlen h83
                    refine WO.cls (C' := St w0 m m81 [[⟨b2, 25, [.int .i64 p0_0, .int .i64 p0_1, .int .i64 p0_2, .int .i64 p0_3, .int .i64 p0_4, .slice a_p0_5 p0_5.length c_p0_5]⟩], L11, [⟨b16, 25, [.int .i64 y_3, .int .i64 y_4, .int .i64 y_5, .int .i64 y_6, .int .i64 y_7, .slice a8 ((y_8).length) c9]⟩], L21, [⟨b26, 25, [.int .i64 y_10, .int .i64 y_11, .int .i64 y_12, .int .i64 y_13, .int .i64 y_14, .slice a18 ((y_15).length) c19]⟩], L31, [⟨b36, 25, [.int .i64 y_17, .int .i64 y_18, .int .i64 y_19, .int .i64 y_20, .int .i64 y_21, .slice a28 ((y_22).length) c29]⟩], L56, L68, L79]) (fun _ h => h.sub (by simp)) ?_
                    obtain ⟨y_53, hc84, hm⟩ := bind_some hm
                    refine WO_call0 (.bool y_53) rfl rfl St_closed rfl rfl rfl rfl St_closed ⟨15, #[], #[], rfl, callable_15, fun w hw => ⟨_, hw.sat, fiduciallaw48_same_walk (((h35.mono (mono_FE _) hle59).mono (mono_FE _) hle71).mono (mono_FE _) hle82) h83 hc84⟩⟩ ?_
                    refine WO_pure tbok 2 [(4, .bool y_53)] rfl ⟨rfl, trivial⟩ ?_
                    refine WO_tail ?_
                    refine WO_end ?_
                    cases hm
                    exact WK_ret (ret_out (L := []) (RLc_tmp rfl RLc_nil) (List.nil_sublist _) rfl)
                  · have hm := ifF hb74 hm
                    refine WO_pure tbok 3 [(4, .bool false), (87, .bool false)] rfl ⟨rfl, rfl, trivial⟩ ?_
                    refine WO_skip rfl rfl ?_
                    refine WO_skip rfl rfl ?_
                    refine WO_pure tbok 2 [(4, .bool false)] rfl ⟨rfl, trivial⟩ ?_
                    refine WO_tail ?_
                    refine WO_end ?_
                    cases hm
                    exact WK_ret (ret_out (L := []) (RLc_tmp rfl RLc_nil) (List.nil_sublist _) rfl)
                · have hm := ifF hb62 hm
                  refine WO_pure tbok 3 [(1, .int .i64 p1), (2, .pointer (some ⟨b2, 0, none⟩)), (4, .bool false), (9, .pointer (some ⟨b36, 0, none⟩)), (80, .bool false)] rfl ⟨rfl, rfl, rfl, rfl, rfl, trivial⟩ ?_
                  refine WO_skip rfl rfl ?_
                  refine WO_skip rfl rfl ?_
                  refine WO_pure tbok 5 [(4, .bool false), (87, .bool false)] rfl ⟨rfl, rfl, trivial⟩ ?_
                  refine WO_skip rfl rfl ?_
                  refine WO_skip rfl rfl ?_
                  refine WO_pure tbok 2 [(4, .bool false)] rfl ⟨rfl, trivial⟩ ?_
                  refine WO_tail ?_
                  refine WO_end ?_
                  cases hm
                  exact WK_ret (ret_out (L := []) (RLc_tmp rfl RLc_nil) (List.nil_sublist _) rfl)
          · refine WK_region ?_
            refine WO_pure tbok 4 [(1, .int .i64 p1), (2, .pointer (some ⟨b2, 0, none⟩)), (4, .bool false), (5, .pointer (some ⟨b16, 0, none⟩)), (7, .pointer (some ⟨b26, 0, none⟩)), (8, .int .i64 y_16), (9, .pointer (some ⟨b36, 0, none⟩)), (10, .int .i64 y_23), (11, .int .i64 s_26), (50, .bool (y_9 != s_26))] rfl ⟨rfl, rfl, rfl, rfl, rfl, rfl, rfl, rfl, rfl, rfl, trivial⟩ ?_
            refine WO_split (d := 50) (b := y_9 != s_26) rfl (fun hb85 => ?_) (fun hb85 => ?_)
            · have hx42 := ifT hb85 hx42
              refine WO_pure tbok 9 [(1, .int .i64 p1), (2, .pointer (some ⟨b2, 0, none⟩)), (4, .bool false), (5, .pointer (some ⟨b16, 0, none⟩)), (7, .pointer (some ⟨b26, 0, none⟩)), (9, .pointer (some ⟨b36, 0, none⟩)), (11, .int .i64 s_26), (59, .bool true)] rfl ⟨rfl, rfl, rfl, rfl, rfl, rfl, rfl, rfl, trivial⟩ ?_
              refine WO_end ?_
              cases hx42
              refine WK.sub ?_ (WK.cls (fun _ h => h) hk43)
              exact ⟨rfl, rfl, rfl, rfl, rfl, rfl, rfl, rfl, trivial⟩
            · have hx42 := ifF hb85 hx42
              refine WO_pure tbok 5 [(1, .int .i64 p1), (2, .pointer (some ⟨b2, 0, none⟩)), (4, .bool false), (5, .pointer (some ⟨b16, 0, none⟩)), (7, .pointer (some ⟨b26, 0, none⟩)), (9, .pointer (some ⟨b36, 0, none⟩)), (10, .int .i64 y_23), (11, .int .i64 s_26), (55, .bool (y_16 != s_26))] rfl ⟨rfl, rfl, rfl, rfl, rfl, rfl, rfl, rfl, rfl, trivial⟩ ?_
              refine WO_split (d := 55) (b := y_16 != s_26) rfl (fun hb86 => ?_) (fun hb86 => ?_)
              · have hx42 := ifT hb86 hx42
                refine WO_pure tbok 4 [(1, .int .i64 p1), (2, .pointer (some ⟨b2, 0, none⟩)), (4, .bool false), (5, .pointer (some ⟨b16, 0, none⟩)), (7, .pointer (some ⟨b26, 0, none⟩)), (9, .pointer (some ⟨b36, 0, none⟩)), (11, .int .i64 s_26), (59, .bool true)] rfl ⟨rfl, rfl, rfl, rfl, rfl, rfl, rfl, rfl, trivial⟩ ?_
                refine WO_end ?_
                cases hx42
                refine WK.sub ?_ (WK.cls (fun _ h => h) hk43)
                exact ⟨rfl, rfl, rfl, rfl, rfl, rfl, rfl, rfl, trivial⟩
              · have hx42 := ifF hb86 hx42
                refine WO_pure tbok 4 [(1, .int .i64 p1), (2, .pointer (some ⟨b2, 0, none⟩)), (4, .bool false), (5, .pointer (some ⟨b16, 0, none⟩)), (7, .pointer (some ⟨b26, 0, none⟩)), (9, .pointer (some ⟨b36, 0, none⟩)), (11, .int .i64 s_26), (59, .bool (y_23 != s_26))] rfl ⟨rfl, rfl, rfl, rfl, rfl, rfl, rfl, rfl, trivial⟩ ?_
                refine WO_end ?_
                cases hx42
                refine WK.sub ?_ (WK.cls (fun _ h => h) hk43)
                exact ⟨rfl, rfl, rfl, rfl, rfl, rfl, rfl, rfl, trivial⟩
        · refine WK_cond (b := s_25) rfl (fun hb87 => ?_) (fun hb87 => ?_)
          · have hx40 := ifT hb87 hx40
            refine WK_region ?_
            refine WO_pure tbok 1 [(1, .int .i64 p1), (2, .pointer (some ⟨b2, 0, none⟩)), (4, .bool false), (5, .pointer (some ⟨b16, 0, none⟩)), (6, .int .i64 y_9), (7, .pointer (some ⟨b26, 0, none⟩)), (8, .int .i64 y_16), (9, .pointer (some ⟨b36, 0, none⟩)), (10, .int .i64 y_23), (11, .int .i64 2)] rfl ⟨rfl, rfl, rfl, rfl, rfl, rfl, rfl, rfl, rfl, rfl, trivial⟩ ?_
            refine WO_end ?_
            cases hx40
            refine WK.sub ?_ (WK.cls (fun _ h => h) hk41)
            exact ⟨rfl, rfl, rfl, rfl, rfl, rfl, rfl, rfl, rfl, rfl, trivial⟩
          · have hx40 := ifF hb87 hx40
            refine WK_skip ?_
            cases hx40
            refine WK.sub ?_ (WK.cls (fun _ h => h) hk41)
            exact ⟨rfl, rfl, rfl, rfl, rfl, rfl, rfl, rfl, rfl, rfl, trivial⟩
      · refine WK_region ?_
        refine WO_pure tbok 3 [(1, .int .i64 p1), (2, .pointer (some ⟨b2, 0, none⟩)), (4, .bool false), (5, .pointer (some ⟨b16, 0, none⟩)), (6, .int .i64 y_9), (7, .pointer (some ⟨b26, 0, none⟩)), (8, .int .i64 y_16), (9, .pointer (some ⟨b36, 0, none⟩)), (10, .int .i64 y_23), (11, .int .i64 y_24), (39, .bool (y_24 == 0))] rfl ⟨rfl, rfl, rfl, rfl, rfl, rfl, rfl, rfl, rfl, rfl, rfl, trivial⟩ ?_
        refine WO_split (d := 39) (b := y_24 == 0) rfl (fun hb88 => ?_) (fun hb88 => ?_)
        · have hx38 := ifT hb88 hx38
          refine WO_pure tbok 3 [(1, .int .i64 p1), (2, .pointer (some ⟨b2, 0, none⟩)), (4, .bool false), (5, .pointer (some ⟨b16, 0, none⟩)), (6, .int .i64 y_9), (7, .pointer (some ⟨b26, 0, none⟩)), (8, .int .i64 y_16), (9, .pointer (some ⟨b36, 0, none⟩)), (10, .int .i64 y_23), (11, .int .i64 y_24), (39, .bool true), (42, .bool (decide (p1 < 0)))] rfl ⟨rfl, rfl, rfl, rfl, rfl, rfl, rfl, rfl, rfl, rfl, rfl, rfl, trivial⟩ ?_
          refine WO_split (d := 42) (b := decide (p1 < 0)) rfl (fun hb89 => ?_) (fun hb89 => ?_)
          · have hx38 := ifT hb89 hx38
            refine WO_pure tbok 4 [(1, .int .i64 p1), (2, .pointer (some ⟨b2, 0, none⟩)), (4, .bool false), (5, .pointer (some ⟨b16, 0, none⟩)), (6, .int .i64 y_9), (7, .pointer (some ⟨b26, 0, none⟩)), (8, .int .i64 y_16), (9, .pointer (some ⟨b36, 0, none⟩)), (10, .int .i64 y_23), (11, .int .i64 y_24), (46, .bool true)] rfl ⟨rfl, rfl, rfl, rfl, rfl, rfl, rfl, rfl, rfl, rfl, rfl, trivial⟩ ?_
            refine WO_end ?_
            cases hx38
            refine WK.sub ?_ (WK.cls (fun _ h => h) hk39)
            exact ⟨rfl, rfl, rfl, rfl, rfl, rfl, rfl, rfl, rfl, rfl, rfl, trivial⟩
          · have hx38 := ifF hb89 hx38
            refine WO_pure tbok 4 [(1, .int .i64 p1), (2, .pointer (some ⟨b2, 0, none⟩)), (4, .bool false), (5, .pointer (some ⟨b16, 0, none⟩)), (6, .int .i64 y_9), (7, .pointer (some ⟨b26, 0, none⟩)), (8, .int .i64 y_16), (9, .pointer (some ⟨b36, 0, none⟩)), (10, .int .i64 y_23), (11, .int .i64 y_24), (46, .bool (decide (8 < p1)))] rfl ⟨rfl, rfl, rfl, rfl, rfl, rfl, rfl, rfl, rfl, rfl, rfl, trivial⟩ ?_
            refine WO_end ?_
            cases hx38
            refine WK.sub ?_ (WK.cls (fun _ h => h) hk39)
            exact ⟨rfl, rfl, rfl, rfl, rfl, rfl, rfl, rfl, rfl, rfl, rfl, trivial⟩
        · have hx38 := ifF hb88 hx38
          refine WO_pure tbok 7 [(1, .int .i64 p1), (2, .pointer (some ⟨b2, 0, none⟩)), (4, .bool false), (5, .pointer (some ⟨b16, 0, none⟩)), (6, .int .i64 y_9), (7, .pointer (some ⟨b26, 0, none⟩)), (8, .int .i64 y_16), (9, .pointer (some ⟨b36, 0, none⟩)), (10, .int .i64 y_23), (11, .int .i64 y_24), (46, .bool false)] rfl ⟨rfl, rfl, rfl, rfl, rfl, rfl, rfl, rfl, rfl, rfl, rfl, trivial⟩ ?_
          refine WO_end ?_
          cases hx38
          refine WK.sub ?_ (WK.cls (fun _ h => h) hk39)
          exact ⟨rfl, rfl, rfl, rfl, rfl, rfl, rfl, rfl, rfl, rfl, rfl, trivial⟩
def terrain_Difference_Q (r : Int × Int × Int × Int × Int × List Int × Int) : Value → Mu → List Ent → Prop := fun v m L => ∃ (a0 : Option Addr) (q0 c0 : Nat), v = .tuple #[.agg #[.int .i64 r.1, .int .i64 r.2.1, .int .i64 r.2.2.1, .int .i64 r.2.2.2.1, .int .i64 r.2.2.2.2.1, .slice a0 q0 c0], .int .i64 r.2.2.2.2.2.2] ∧ SlR (FE (I1 .i64)) 1 m (.slice a0 q0 c0) r.2.2.2.2.2.1
theorem terrain_Difference_walk {m : Mu} {p0_0 : Int} {p0_1 : Int} {p0_2 : Int} {p0_3 : Int} {p0_4 : Int} {p0_5 : List Int} {p1_0 : Int} {p1_1 : Int} {p1_2 : Int} {p1_3 : Int} {p1_4 : Int} {p1_5 : List Int} {a_p0_5 : Option Addr} {q_p0_5 c_p0_5 : Nat} {a_p1_5 : Option Addr} {q_p1_5 c_p1_5 : Nat} (h_p0_5 : SlR (FE (I1 .i64)) 1 m (.slice a_p0_5 q_p0_5 c_p0_5) p0_5) (h_p1_5 : SlR (FE (I1 .i64)) 1 m (.slice a_p1_5 q_p1_5 c_p1_5) p1_5) {r : Int × Int × Int × Int × Int × List Int × Int} (hm : terrain_Difference p0_0 p0_1 p0_2 p0_3 p0_4 p0_5 p1_0 p1_1 p1_2 p1_3 p1_4 p1_5 = some r) :
    Go.E.Spec Try.prog 31 [.agg #[.int .i64 p0_0, .int .i64 p0_1, .int .i64 p0_2, .int .i64 p0_3, .int .i64 p0_4, .slice a_p0_5 q_p0_5 c_p0_5], .agg #[.int .i64 p1_0, .int .i64 p1_1, .int .i64 p1_2, .int .i64 p1_3, .int .i64 p1_4, .slice a_p1_5 q_p1_5 c_p1_5]] m (terrain_Difference_Q r) := by
  refine Spec_enter Try.func31 rfl rfl rfl (fun w0 => ?_)
  refine WK.sub (e' := [(0, .agg #[.int .i64 p0_0, .int .i64 p0_1, .int .i64 p0_2, .int .i64 p0_3, .int .i64 p0_4, .slice a_p0_5 q_p0_5 c_p0_5]), (1, .agg #[.int .i64 p1_0, .int .i64 p1_1, .int .i64 p1_2, .int .i64 p1_3, .int .i64 p1_4, .slice a_p1_5 q_p1_5 c_p1_5])]) ⟨rfl, rfl, trivial⟩ ?_
  obtain rfl := SlR.qlen h_p0_5
  obtain rfl := SlR.qlen h_p1_5
  refine WK.sub (e' := [(0, .agg #[.int .i64 p0_0, .int .i64 p0_1, .int .i64 p0_2, .int .i64 p0_3, .int .i64 p0_4, .slice a_p0_5 p0_5.length c_p0_5]), (1, .agg #[.int .i64 p1_0, .int .i64 p1_1, .int .i64 p1_2, .int .i64 p1_3, .int .i64 p1_4, .slice a_p1_5 p1_5.length c_p1_5])]) ⟨rfl, rfl, trivial⟩ ?_
  unfold terrain_Difference at hm
  refine WK_seq ?_
  refine WK_region ?_
  refine WO_box [.int .i64 p0_0, .int .i64 p0_1, .int .i64 p0_2, .int .i64 p0_3, .int .i64 p0_4, .slice a_p0_5 p0_5.length c_p0_5] rfl rfl trivial rfl rfl rfl (fun b3 => ?_)
  refine WO.cls (C' := St w0 m m [[⟨b3, 25, [.int .i64 p0_0, .int .i64 p0_1, .int .i64 p0_2, .int .i64 p0_3, .int .i64 p0_4, .slice a_p0_5 p0_5.length c_p0_5]⟩]]) (fun _ h => h) ?_
  refine WO_box [.int .i64 p1_0, .int .i64 p1_1, .int .i64 p1_2, .int .i64 p1_3, .int .i64 p1_4, .slice a_p1_5 p1_5.length c_p1_5] rfl rfl trivial rfl rfl rfl (fun b4 => ?_)
  refine WO.cls (C' := St w0 m m [[⟨b3, 25, [.int .i64 p0_0, .int .i64 p0_1, .int .i64 p0_2, .int .i64 p0_3, .int .i64 p0_4, .slice a_p0_5 p0_5.length c_p0_5]⟩], [⟨b4, 25, [.int .i64 p1_0, .int .i64 p1_1, .int .i64 p1_2, .int .i64 p1_3, .int .i64 p1_4, .slice a_p1_5 p1_5.length c_p1_5]⟩]]) (fun _ h => h) ?_
  refine WO_alloc tbok [.int .i64 0, .int .i64 0, .int .i64 0, .int .i64 0, .int .i64 0, .slice none 0 0] rfl rfl trivial rfl rfl rfl rfl (fun b5 => ?_)
  refine WO.cls (C' := St w0 m m [[⟨b3, 25, [.int .i64 p0_0, .int .i64 p0_1, .int .i64 p0_2, .int .i64 p0_3, .int .i64 p0_4, .slice a_p0_5 p0_5.length c_p0_5]⟩], [⟨b4, 25, [.int .i64 p1_0, .int .i64 p1_1, .int .i64 p1_2, .int .i64 p1_3, .int .i64 p1_4, .slice a_p1_5 p1_5.length c_p1_5]⟩], [⟨b5, 25, [.int .i64 0, .int .i64 0, .int .i64 0, .int .i64 0, .int .i64 0, .slice none 0 0]⟩]]) (fun _ h => h) ?_
  refine WO_pure tbok 1 [(2, .pointer (some ⟨b3, 0, none⟩)), (3, .pointer (some ⟨b4, 0, none⟩)), (4, .pointer (some ⟨b5, 0, none⟩)), (5, .int .i64 0)] rfl ⟨rfl, rfl, rfl, rfl, trivial⟩ ?_
  refine WO_end ?_
  refine WK_seq ?_
  refine WK_seq ?_
  refine WK_region ?_
  refine WO_loadB tbok 0 rfl rfl rfl rfl (fun _ h => h) rfl rfl ?_
  refine WO_loadB tbok 1 rfl rfl rfl rfl (fun _ h => h) rfl rfl ?_
  refine WO_bsliceX (E := V6) (El := El25) tbok (fun _ => rfl) (by decide) [.agg #[.int .i64 p0_0, .int .i64 p0_1, .int .i64 p0_2, .int .i64 p0_3, .int .i64 p0_4, .slice a_p0_5 p0_5.length c_p0_5], .agg #[.int .i64 p1_0, .int .i64 p1_1, .int .i64 p1_2, .int .i64 p1_3, .int .i64 p1_4, .slice a_p1_5 p1_5.length c_p1_5]] [(.int .i64 p0_0, .int .i64 p0_1, .int .i64 p0_2, .int .i64 p0_3, .int .i64 p0_4, .slice a_p0_5 p0_5.length c_p0_5), (.int .i64 p1_0, .int .i64 p1_1, .int .i64 p1_2, .int .i64 p1_3, .int .i64 p1_4, .slice a_p1_5 p1_5.length c_p1_5)] ([(p0_0, p0_1, p0_2, p0_3, p0_4, p0_5), (p1_0, p1_1, p1_2, p1_3, p1_4, p1_5)] : List (Int × Int × Int × Int × Int × List Int)) rfl rfl trivial rfl rfl rfl rfl rfl rfl rfl rfl rfl rfl rfl rfl ⟨⟨_, _, _, rfl, h_p0_5⟩, ⟨_, _, _, rfl, h_p1_5⟩, trivial⟩ (fun b6 hb6 => ?_)
  refine WO.cls (C' := St w0 m m [[⟨b3, 25, [.int .i64 p0_0, .int .i64 p0_1, .int .i64 p0_2, .int .i64 p0_3, .int .i64 p0_4, .slice a_p0_5 p0_5.length c_p0_5]⟩], [⟨b4, 25, [.int .i64 p1_0, .int .i64 p1_1, .int .i64 p1_2, .int .i64 p1_3, .int .i64 p1_4, .slice a_p1_5 p1_5.length c_p1_5]⟩], [⟨b5, 25, [.int .i64 0, .int .i64 0, .int .i64 0, .int .i64 0, .int .i64 0, .slice none 0 0]⟩], [⟨b6, 25, [.int .i64 p0_0, .int .i64 p0_1, .int .i64 p0_2, .int .i64 p0_3, .int .i64 p0_4, .slice a_p0_5 p0_5.length c_p0_5, .int .i64 p1_0, .int .i64 p1_1, .int .i64 p1_2, .int .i64 p1_3, .int .i64 p1_4, .slice a_p1_5 p1_5.length c_p1_5]⟩]]) (fun _ h => h) ?_
  refine WO_pure tbok 2 [(2, .pointer (some ⟨b3, 0, none⟩)), (3, .pointer (some ⟨b4, 0, none⟩)), (4, .pointer (some ⟨b5, 0, none⟩)), (5, .int .i64 0), (14, .slice (some ⟨b6, 0, none⟩) 2 2), (15, .int .i64 2), (16, .int .i64 0)] rfl ⟨rfl, rfl, rfl, rfl, rfl, rfl, rfl, trivial⟩ ?_
  refine WO_end ?_
  obtain ⟨x8, hx9, hm⟩ := bind_some hm
  refine WK_join (β := Unit × Unit) (fun p => Sum.inr p.1 = x8) (fun p => [(2, .pointer (some ⟨b3, 0, none⟩)), (3, .pointer (some ⟨b4, 0, none⟩)), (4, .pointer (some ⟨b5, 0, none⟩)), (5, .int .i64 0)]) (fun p => St w0 m m [[⟨b3, 25, [.int .i64 p0_0, .int .i64 p0_1, .int .i64 p0_2, .int .i64 p0_3, .int .i64 p0_4, .slice a_p0_5 p0_5.length c_p0_5]⟩], [⟨b4, 25, [.int .i64 p1_0, .int .i64 p1_1, .int .i64 p1_2, .int .i64 p1_3, .int .i64 p1_4, .slice a_p1_5 p1_5.length c_p1_5]⟩], [⟨b5, 25, [.int .i64 0, .int .i64 0, .int .i64 0, .int .i64 0, .int .i64 0, .slice none 0 0]⟩], [⟨b6, 25, [.int .i64 p0_0, .int .i64 p0_1, .int .i64 p0_2, .int .i64 p0_3, .int .i64 p0_4, .slice a_p0_5 p0_5.length c_p0_5, .int .i64 p1_0, .int .i64 p1_1, .int .i64 p1_2, .int .i64 p1_3, .int .i64 p1_4, .slice a_p1_5 p1_5.length c_p1_5]⟩]]) ?_ (fun hk10 => ?_)
  · rintro ⟨⟨⟩, ⟨⟩⟩ hq16
    subst hq16
    refine WK.sub (e' := [(2, .pointer (some ⟨b3, 0, none⟩)), (3, .pointer (some ⟨b4, 0, none⟩)), (4, .pointer (some ⟨b5, 0, none⟩)), (5, .int .i64 0)]) ⟨rfl, rfl, rfl, rfl, trivial⟩ (WK.cls (C' := St w0 m m [[⟨b3, 25, [.int .i64 p0_0, .int .i64 p0_1, .int .i64 p0_2, .int .i64 p0_3, .int .i64 p0_4, .slice a_p0_5 p0_5.length c_p0_5]⟩], [⟨b4, 25, [.int .i64 p1_0, .int .i64 p1_1, .int .i64 p1_2, .int .i64 p1_3, .int .i64 p1_4, .slice a_p1_5 p1_5.length c_p1_5]⟩], [⟨b5, 25, [.int .i64 0, .int .i64 0, .int .i64 0, .int .i64 0, .int .i64 0, .slice none 0 0]⟩], [⟨b6, 25, [.int .i64 p0_0, .int .i64 p0_1, .int .i64 p0_2, .int .i64 p0_3, .int .i64 p0_4, .slice a_p0_5 p0_5.length c_p0_5, .int .i64 p1_0, .int .i64 p1_1, .int .i64 p1_2, .int .i64 p1_3, .int .i64 p1_4, .slice a_p1_5 p1_5.length c_p1_5]⟩]]) (fun _ h => h) ?_)
    refine WK_seq ?_
    refine WK_seq ?_
    obtain ⟨s_2, hx17, hm⟩ := bind_some hm
    refine WK_meet [(2, .pointer (some ⟨b3, 0, none⟩)), (3, .pointer (some ⟨b4, 0, none⟩)), (4, .pointer (some ⟨b5, 0, none⟩)), (5, .int .i64 0), (59, .bool s_2)] (St w0 m m [[⟨b3, 25, [.int .i64 p0_0, .int .i64 p0_1, .int .i64 p0_2, .int .i64 p0_3, .int .i64 p0_4, .slice a_p0_5 p0_5.length c_p0_5]⟩], [⟨b4, 25, [.int .i64 p1_0, .int .i64 p1_1, .int .i64 p1_2, .int .i64 p1_3, .int .i64 p1_4, .slice a_p1_5 p1_5.length c_p1_5]⟩], [⟨b5, 25, [.int .i64 0, .int .i64 0, .int .i64 0, .int .i64 0, .int .i64 0, .slice none 0 0]⟩], [⟨b6, 25, [.int .i64 p0_0, .int .i64 p0_1, .int .i64 p0_2, .int .i64 p0_3, .int .i64 p0_4, .slice a_p0_5 p0_5.length c_p0_5, .int .i64 p1_0, .int .i64 p1_1, .int .i64 p1_2, .int .i64 p1_3, .int .i64 p1_4, .slice a_p1_5 p1_5.length c_p1_5]⟩]]) ?_ (fun hk18 => ?_)
    · refine WK_cond (b := s_2) rfl (fun hb19 => ?_) (fun hb19 => ?_)
      · have hm := ifT hb19 hm
        refine WK_seq ?_
        refine WK_region ?_
        refine WO_pure tbok 1 [(2, .pointer (some ⟨b3, 0, none⟩)), (3, .pointer (some ⟨b4, 0, none⟩)), (4, .pointer (some ⟨b5, 0, none⟩)), (5, .int .i64 0), (60, .agg #[.int .i64 0, .int .i64 0, .int .i64 0, .int .i64 0, .int .i64 0, .slice none 0 0])] rfl ⟨rfl, rfl, rfl, rfl, rfl, trivial⟩ ?_
        refine WO_storeB tbok 2 [.int .i64 0, .int .i64 0, .int .i64 0, .int .i64 0, .int .i64 0, .slice none 0 0] rfl rfl rfl rfl rfl rfl rfl ?_
        refine WO.cls (C' := St w0 m m [[⟨b3, 25, [.int .i64 p0_0, .int .i64 p0_1, .int .i64 p0_2, .int .i64 p0_3, .int .i64 p0_4, .slice a_p0_5 p0_5.length c_p0_5]⟩], [⟨b4, 25, [.int .i64 p1_0, .int .i64 p1_1, .int .i64 p1_2, .int .i64 p1_3, .int .i64 p1_4, .slice a_p1_5 p1_5.length c_p1_5]⟩], [⟨b5, 25, [.int .i64 0, .int .i64 0, .int .i64 0, .int .i64 0, .int .i64 0, .slice none 0 0]⟩], [⟨b6, 25, [.int .i64 p0_0, .int .i64 p0_1, .int .i64 p0_2, .int .i64 p0_3, .int .i64 p0_4, .slice a_p0_5 p0_5.length c_p0_5, .int .i64 p1_0, .int .i64 p1_1, .int .i64 p1_2, .int .i64 p1_3, .int .i64 p1_4, .slice a_p1_5 p1_5.length c_p1_5]⟩]]) (fun _ h => h) ?_
        refine WO_pure tbok 1 [(2, .pointer (some ⟨b3, 0, none⟩)), (3, .pointer (some ⟨b4, 0, none⟩)), (4, .pointer (some ⟨b5, 0, none⟩)), (5, .int .i64 4)] rfl ⟨rfl, rfl, rfl, rfl, trivial⟩ ?_
        refine WO_end ?_
        cases hm
        exact WK_ret (ret_out (L := []) (RLc_cell tbok 2 rfl rfl rfl (RLc_tmp rfl RLc_nil)) (List.nil_sublist _) ⟨none, 0, 0, rfl, SlR_nil⟩)
      · have hm := ifF hb19 hm
        refine WK_skip ?_
        refine WK_seq ?_
        refine WK_region ?_
        refine WO_pure tbok 1 [(2, .pointer (some ⟨b3, 0, none⟩)), (3, .pointer (some ⟨b4, 0, none⟩)), (4, .pointer (some ⟨b5, 0, none⟩)), (5, .int .i64 0), (61, .pointer (some ⟨b3, 5, none⟩))] rfl ⟨rfl, rfl, rfl, rfl, rfl, trivial⟩ ?_
        refine WO_loadB tbok 0 rfl rfl rfl rfl (fun _ h => h) rfl rfl ?_
        refine WO_pure tbok 1 [(2, .pointer (some ⟨b3, 0, none⟩)), (3, .pointer (some ⟨b4, 0, none⟩)), (4, .pointer (some ⟨b5, 0, none⟩)), (5, .int .i64 0), (63, .int .i64 (p0_5.length : Int))] rfl ⟨rfl, rfl, rfl, rfl, rfl, trivial⟩ ?_
        obtain ⟨y_3, hc20, hm⟩ := bind_some hm
        refine WO_call1 (terrain_blank_Q y_3) rfl rfl trivial rfl rfl rfl rfl ⟨42, #[], #[], rfl, callable_42, fun w hw => ⟨_, hw.sat, terrain_blank_walk hc20⟩⟩ (fun v25 L24 hq => ?_)
        obtain ⟨a21, qa21, c22, rfl, hL24⟩ := hq
        obtain rfl := OwnE.qlen hL24
        refine WO.cls (C' := St w0 m m [[⟨b3, 25, [.int .i64 p0_0, .int .i64 p0_1, .int .i64 p0_2, .int .i64 p0_3, .int .i64 p0_4, .slice a_p0_5 p0_5.length c_p0_5]⟩], [⟨b4, 25, [.int .i64 p1_0, .int .i64 p1_1, .int .i64 p1_2, .int .i64 p1_3, .int .i64 p1_4, .slice a_p1_5 p1_5.length c_p1_5]⟩], [⟨b5, 25, [.int .i64 0, .int .i64 0, .int .i64 0, .int .i64 0, .int .i64 0, .slice none 0 0]⟩], [⟨b6, 25, [.int .i64 p0_0, .int .i64 p0_1, .int .i64 p0_2, .int .i64 p0_3, .int .i64 p0_4, .slice a_p0_5 p0_5.length c_p0_5, .int .i64 p1_0, .int .i64 p1_1, .int .i64 p1_2, .int .i64 p1_3, .int .i64 p1_4, .slice a_p1_5 p1_5.length c_p1_5]⟩], L24]) (fun _ h => h) ?_
        refine WO_pure tbok 1 [(2, .pointer (some ⟨b3, 0, none⟩)), (3, .pointer (some ⟨b4, 0, none⟩)), (4, .pointer (some ⟨b5, 0, none⟩)), (5, .int .i64 0), (9, .slice a21 ((y_3).length) c22)] rfl ⟨rfl, rfl, rfl, rfl, rfl, trivial⟩ ?_
        refine WO_end ?_
        refine WK_seq ?_
        refine WK_seq ?_
        refine WK_region ?_
        refine WO_pure tbok 1 [(2, .pointer (some ⟨b3, 0, none⟩)), (3, .pointer (some ⟨b4, 0, none⟩)), (4, .pointer (some ⟨b5, 0, none⟩)), (5, .int .i64 0), (9, .slice a21 ((y_3).length) c22), (65, .pointer (some ⟨b3, 5, none⟩))] rfl ⟨rfl, rfl, rfl, rfl, rfl, rfl, trivial⟩ ?_
        refine WO_loadB tbok 0 rfl rfl rfl rfl (fun _ h => h) rfl rfl ?_
        refine WO_pure tbok 2 [(2, .pointer (some ⟨b3, 0, none⟩)), (3, .pointer (some ⟨b4, 0, none⟩)), (4, .pointer (some ⟨b5, 0, none⟩)), (5, .int .i64 0), (9, .slice a21 ((y_3).length) c22), (66, .slice a_p0_5 p0_5.length c_p0_5), (67, .int .i64 (p0_5.length : Int)), (68, .int .i64 0)] rfl ⟨rfl, rfl, rfl, rfl, rfl, rfl, rfl, rfl, trivial⟩ ?_
        refine WO_end ?_
        obtain ⟨x30, hx31, hm⟩ := bind_some hm
        refine WK_join (β := (List Int) × (List Ent)) (fun p => Sum.inr p.1 = x30 ∧ OwnE 3 1 (I1 .i64) (.slice a21 ((y_3).length) c22) p.1 p.2) (fun p => [(2, .pointer (some ⟨b3, 0, none⟩)), (4, .pointer (some ⟨b5, 0, none⟩)), (5, .int .i64 0), (9, .slice a21 ((y_3).length) c22)]) (fun p => St w0 m m [[⟨b3, 25, [.int .i64 p0_0, .int .i64 p0_1, .int .i64 p0_2, .int .i64 p0_3, .int .i64 p0_4, .slice a_p0_5 p0_5.length c_p0_5]⟩], [⟨b4, 25, [.int .i64 p1_0, .int .i64 p1_1, .int .i64 p1_2, .int .i64 p1_3, .int .i64 p1_4, .slice a_p1_5 p1_5.length c_p1_5]⟩], [⟨b5, 25, [.int .i64 0, .int .i64 0, .int .i64 0, .int .i64 0, .int .i64 0, .slice none 0 0]⟩], [⟨b6, 25, [.int .i64 p0_0, .int .i64 p0_1, .int .i64 p0_2, .int .i64 p0_3, .int .i64 p0_4, .slice a_p0_5 p0_5.length c_p0_5, .int .i64 p1_0, .int .i64 p1_1, .int .i64 p1_2, .int .i64 p1_3, .int .i64 p1_4, .slice a_p1_5 p1_5.length c_p1_5]⟩], p.2]) ?_ (fun hk32 => ?_)
        · rintro ⟨l_6, L29⟩ ⟨hq38, hL29⟩
          subst hq38
          refine WK.sub (e' := [(2, .pointer (some ⟨b3, 0, none⟩)), (4, .pointer (some ⟨b5, 0, none⟩)), (5, .int .i64 0), (9, .slice a21 ((y_3).length) c22)]) ⟨rfl, rfl, rfl, rfl, trivial⟩ (WK.cls (C' := St w0 m m [[⟨b3, 25, [.int .i64 p0_0, .int .i64 p0_1, .int .i64 p0_2, .int .i64 p0_3, .int .i64 p0_4, .slice a_p0_5 p0_5.length c_p0_5]⟩], [⟨b4, 25, [.int .i64 p1_0, .int .i64 p1_1, .int .i64 p1_2, .int .i64 p1_3, .int .i64 p1_4, .slice a_p1_5 p1_5.length c_p1_5]⟩], [⟨b5, 25, [.int .i64 0, .int .i64 0, .int .i64 0, .int .i64 0, .int .i64 0, .slice none 0 0]⟩], [⟨b6, 25, [.int .i64 p0_0, .int .i64 p0_1, .int .i64 p0_2, .int .i64 p0_3, .int .i64 p0_4, .slice a_p0_5 p0_5.length c_p0_5, .int .i64 p1_0, .int .i64 p1_1, .int .i64 p1_2, .int .i64 p1_3, .int .i64 p1_4, .slice a_p1_5 p1_5.length c_p1_5]⟩], L29]) (fun _ h => h) ?_)
          refine WK_seq ?_
          refine WK_region ?_
          refine WO_loadB tbok 0 rfl rfl rfl rfl (fun _ h => h) rfl rfl ?_
          refine WO_pure tbok 1 [(4, .pointer (some ⟨b5, 0, none⟩)), (5, .int .i64 0), (100, .agg #[.int .i64 p0_0, .int .i64 p0_1, .int .i64 p0_2, .int .i64 p0_3, .int .i64 p0_4, .slice a_p0_5 p0_5.length c_p0_5]), (101, .slice a21 ((y_3).length) c22)] rfl ⟨rfl, rfl, rfl, rfl, trivial⟩ ?_
          refine WO_freeze 4 rfl (fun m39 hle40 hmm41 => ?_)
          refine WO.cls (C' := St w0 m m39 [[⟨b3, 25, [.int .i64 p0_0, .int .i64 p0_1, .int .i64 p0_2, .int .i64 p0_3, .int .i64 p0_4, .slice a_p0_5 p0_5.length c_p0_5]⟩], [⟨b4, 25, [.int .i64 p1_0, .int .i64 p1_1, .int .i64 p1_2, .int .i64 p1_3, .int .i64 p1_4, .slice a_p1_5 p1_5.length c_p1_5]⟩], [⟨b5, 25, [.int .i64 0, .int .i64 0, .int .i64 0, .int .i64 0, .int .i64 0, .slice none 0 0]⟩], [⟨b6, 25, [.int .i64 p0_0, .int .i64 p0_1, .int .i64 p0_2, .int .i64 p0_3, .int .i64 p0_4, .slice a_p0_5 p0_5.length c_p0_5, .int .i64 p1_0, .int .i64 p1_1, .int .i64 p1_2, .int .i64 p1_3, .int .i64 p1_4, .slice a_p1_5 p1_5.length c_p1_5]⟩], []]) (fun _ h => h) ?_
          obtain ⟨⟨y_7, y_8, y_9, y_10, y_11, y_12⟩, hc42, hm⟩ := bind_some hm
          refine WO_call2 (terrain_with_Q (y_7, y_8, y_9, y_10, y_11, y_12)) rfl rfl trivial rfl rfl rfl rfl ⟨44, #[], #[], rfl, callable_44, terrain_with_walk (h_p0_5.mono (mono_FE _) hle40) (OwnE.rd (E := (I1 .i64)) (k := 1) (fun _ => rfl) hL29 hmm41) hc42⟩ (fun v47 m48 L46 hle49 hq => ?_)
          obtain ⟨a43, qa43, c44, rfl, h50⟩ := hq
          obtain rfl := SlR.qlen h50
          refine WO.cls (C' := St w0 m m48 [[⟨b3, 25, [.int .i64 p0_0, .int .i64 p0_1, .int .i64 p0_2, .int .i64 p0_3, .int .i64 p0_4, .slice a_p0_5 p0_5.length c_p0_5]⟩], [⟨b4, 25, [.int .i64 p1_0, .int .i64 p1_1, .int .i64 p1_2, .int .i64 p1_3, .int .i64 p1_4, .slice a_p1_5 p1_5.length c_p1_5]⟩], [⟨b5, 25, [.int .i64 0, .int .i64 0, .int .i64 0, .int .i64 0, .int .i64 0, .slice none 0 0]⟩], [⟨b6, 25, [.int .i64 p0_0, .int .i64 p0_1, .int .i64 p0_2, .int .i64 p0_3, .int .i64 p0_4, .slice a_p0_5 p0_5.length c_p0_5, .int .i64 p1_0, .int .i64 p1_1, .int .i64 p1_2, .int .i64 p1_3, .int .i64 p1_4, .slice a_p1_5 p1_5.length c_p1_5]⟩], [], L46]) (fun _ h => h.sub (by simp)) ?_
          refine WO_storeB tbok 2 [.int .i64 y_7, .int .i64 y_8, .int .i64 y_9, .int .i64 y_10, .int .i64 y_11, .slice a43 ((y_12).length) c44] rfl rfl rfl rfl rfl rfl rfl ?_
          refine WO.cls (C' := St w0 m m48 [[⟨b3, 25, [.int .i64 p0_0, .int .i64 p0_1, .int .i64 p0_2, .int .i64 p0_3, .int .i64 p0_4, .slice a_p0_5 p0_5.length c_p0_5]⟩], [⟨b4, 25, [.int .i64 p1_0, .int .i64 p1_1, .int .i64 p1_2, .int .i64 p1_3, .int .i64 p1_4, .slice a_p1_5 p1_5.length c_p1_5]⟩], [⟨b5, 25, [.int .i64 y_7, .int .i64 y_8, .int .i64 y_9, .int .i64 y_10, .int .i64 y_11, .slice a43 ((y_12).length) c44]⟩], [⟨b6, 25, [.int .i64 p0_0, .int .i64 p0_1, .int .i64 p0_2, .int .i64 p0_3, .int .i64 p0_4, .slice a_p0_5 p0_5.length c_p0_5, .int .i64 p1_0, .int .i64 p1_1, .int .i64 p1_2, .int .i64 p1_3, .int .i64 p1_4, .slice a_p1_5 p1_5.length c_p1_5]⟩], [], L46]) (fun _ h => h) ?_
          refine WO_pure tbok 1 [(4, .pointer (some ⟨b5, 0, none⟩)), (5, .int .i64 0)] rfl ⟨rfl, rfl, trivial⟩ ?_
          refine WO_end ?_
          cases hm
          exact WK_ret (ret_out (L := []) (RLc_cell tbok 2 rfl rfl rfl (RLc_tmp rfl RLc_nil)) (List.nil_sublist _) ⟨a43, _, c44, rfl, h50⟩)
        · refine WK_block ?_
          refine WK_loop (S := List Int × Int) (G := List Ent) (fun s => terrain_Difference_s2 p0_5 p1_5 s.1 s.2) (fun s g => [(2, .pointer (some ⟨b3, 0, none⟩)), (3, .pointer (some ⟨b4, 0, none⟩)), (4, .pointer (some ⟨b5, 0, none⟩)), (5, .int .i64 0), (9, .slice a21 ((y_3).length) c22), (66, .slice a_p0_5 p0_5.length c_p0_5), (67, .int .i64 (p0_5.length : Int)), (68, .int .i64 s.2)]) (fun s g => St w0 m m [[⟨b3, 25, [.int .i64 p0_0, .int .i64 p0_1, .int .i64 p0_2, .int .i64 p0_3, .int .i64 p0_4, .slice a_p0_5 p0_5.length c_p0_5]⟩], [⟨b4, 25, [.int .i64 p1_0, .int .i64 p1_1, .int .i64 p1_2, .int .i64 p1_3, .int .i64 p1_4, .slice a_p1_5 p1_5.length c_p1_5]⟩], [⟨b5, 25, [.int .i64 0, .int .i64 0, .int .i64 0, .int .i64 0, .int .i64 0, .slice none 0 0]⟩], [⟨b6, 25, [.int .i64 p0_0, .int .i64 p0_1, .int .i64 p0_2, .int .i64 p0_3, .int .i64 p0_4, .slice a_p0_5 p0_5.length c_p0_5, .int .i64 p1_0, .int .i64 p1_1, .int .i64 p1_2, .int .i64 p1_3, .int .i64 p1_4, .slice a_p1_5 p1_5.length c_p1_5]⟩], g]) (fun s g => OwnE 3 1 (I1 .i64) (.slice a21 ((y_3).length) c22) s.1 g) FUEL (y_3, 0) L24 x30 hx31 hL24 ⟨rfl, rfl, rfl, rfl, rfl, rfl, rfl, rfl, trivial⟩ (fun _ h => h) ?_
          rintro ⟨l_4, s_5⟩ L27 o34 fl35 hm33 hL27 hn36 hd37
          have hm33 : terrain_Difference_s2 p0_5 p1_5 l_4 s_5 = some o34 := hm33
          unfold terrain_Difference_s2 at hm33
          refine WK.sub (e' := [(2, .pointer (some ⟨b3, 0, none⟩)), (3, .pointer (some ⟨b4, 0, none⟩)), (4, .pointer (some ⟨b5, 0, none⟩)), (5, .int .i64 0), (9, .slice a21 ((y_3).length) c22), (66, .slice a_p0_5 p0_5.length c_p0_5), (67, .int .i64 (p0_5.length : Int)), (68, .int .i64 s_5)]) ⟨rfl, rfl, rfl, rfl, rfl, rfl, rfl, rfl, trivial⟩ (WK.cls (C' := St w0 m m [[⟨b3, 25, [.int .i64 p0_0, .int .i64 p0_1, .int .i64 p0_2, .int .i64 p0_3, .int .i64 p0_4, .slice a_p0_5 p0_5.length c_p0_5]⟩], [⟨b4, 25, [.int .i64 p1_0, .int .i64 p1_1, .int .i64 p1_2, .int .i64 p1_3, .int .i64 p1_4, .slice a_p1_5 p1_5.length c_p1_5]⟩], [⟨b5, 25, [.int .i64 0, .int .i64 0, .int .i64 0, .int .i64 0, .int .i64 0, .slice none 0 0]⟩], [⟨b6, 25, [.int .i64 p0_0, .int .i64 p0_1, .int .i64 p0_2, .int .i64 p0_3, .int .i64 p0_4, .slice a_p0_5 p0_5.length c_p0_5, .int .i64 p1_0, .int .i64 p1_1, .int .i64 p1_2, .int .i64 p1_3, .int .i64 p1_4, .slice a_p1_5 p1_5.length c_p1_5]⟩], L27]) (fun _ h => h) ?_)
          refine WK_seq ?_
          refine WK_region ?_
          refine WO_pure tbok 1 [(2, .pointer (some ⟨b3, 0, none⟩)), (3, .pointer (some ⟨b4, 0, none⟩)), (4, .pointer (some ⟨b5, 0, none⟩)), (5, .int .i64 0), (9, .slice a21 ((y_3).length) c22), (66, .slice a_p0_5 p0_5.length c_p0_5), (67, .int .i64 (p0_5.length : Int)), (68, .int .i64 s_5), (69, .bool (decide (s_5 < (p0_5.length : Int))))] rfl ⟨rfl, rfl, rfl, rfl, rfl, rfl, rfl, rfl, rfl, trivial⟩ ?_
          refine WO_end ?_
          refine WK_seq ?_
          refine WK_cond (b := decide (s_5 < (p0_5.length : Int))) rfl (fun hb51 => ?_) (fun hb51 => ?_)
          · have hm33 := ifT hb51 hm33
            refine WK_skip ?_
            refine WK_seq ?_
            refine WK_block ?_
            refine WK_seq ?_
            refine WK_region ?_
            refine WO_pure tbok 1 [(2, .pointer (some ⟨b3, 0, none⟩)), (3, .pointer (some ⟨b4, 0, none⟩)), (4, .pointer (some ⟨b5, 0, none⟩)), (5, .int .i64 0), (9, .slice a21 ((y_3).length) c22), (66, .slice a_p0_5 p0_5.length c_p0_5), (67, .int .i64 (p0_5.length : Int)), (68, .int .i64 s_5), (70, .int .i64 s_5)] rfl ⟨rfl, rfl, rfl, rfl, rfl, rfl, rfl, rfl, rfl, trivial⟩ ?_
            obtain ⟨v_13, hy52, hm33⟩ := bind_some hm33
            obtain ⟨hc53, hy52⟩ := ix_some hy52
            refine WO_index tbok rfl rfl rfl rfl rfl rfl rfl rfl (SlR.addr h_p0_5) hc53 ?_
            refine WO_loadE tbok rfl rfl rfl rfl (fun _ h => St.sat h) h_p0_5 hy52 rfl ?_
            refine WO_pure tbok 2 [(2, .pointer (some ⟨b3, 0, none⟩)), (3, .pointer (some ⟨b4, 0, none⟩)), (4, .pointer (some ⟨b5, 0, none⟩)), (5, .int .i64 0), (9, .slice a21 ((y_3).length) c22), (10, .int .i64 s_5), (11, .int .i64 v_13), (66, .slice a_p0_5 p0_5.length c_p0_5), (67, .int .i64 (p0_5.length : Int)), (68, .int .i64 s_5)] rfl ⟨rfl, rfl, rfl, rfl, rfl, rfl, rfl, rfl, rfl, rfl, trivial⟩ ?_
            refine WO_end ?_
            refine WK_seq ?_
            refine WK_seq ?_
            obtain ⟨s_14, hx54, hm33⟩ := bind_some hm33
            refine WK_meet [(2, .pointer (some ⟨b3, 0, none⟩)), (3, .pointer (some ⟨b4, 0, none⟩)), (4, .pointer (some ⟨b5, 0, none⟩)), (5, .int .i64 0), (9, .slice a21 ((y_3).length) c22), (10, .int .i64 s_5), (11, .int .i64 v_13), (66, .slice a_p0_5 p0_5.length c_p0_5), (67, .int .i64 (p0_5.length : Int)), (68, .int .i64 s_5), (82, .bool s_14)] (St w0 m m [[⟨b3, 25, [.int .i64 p0_0, .int .i64 p0_1, .int .i64 p0_2, .int .i64 p0_3, .int .i64 p0_4, .slice a_p0_5 p0_5.length c_p0_5]⟩], [⟨b4, 25, [.int .i64 p1_0, .int .i64 p1_1, .int .i64 p1_2, .int .i64 p1_3, .int .i64 p1_4, .slice a_p1_5 p1_5.length c_p1_5]⟩], [⟨b5, 25, [.int .i64 0, .int .i64 0, .int .i64 0, .int .i64 0, .int .i64 0, .slice none 0 0]⟩], [⟨b6, 25, [.int .i64 p0_0, .int .i64 p0_1, .int .i64 p0_2, .int .i64 p0_3, .int .i64 p0_4, .slice a_p0_5 p0_5.length c_p0_5, .int .i64 p1_0, .int .i64 p1_1, .int .i64 p1_2, .int .i64 p1_3, .int .i64 p1_4, .slice a_p1_5 p1_5.length c_p1_5]⟩], L27]) ?_ (fun hk55 => ?_)
            · refine WK_cond (b := s_14) rfl (fun hb56 => ?_) (fun hb56 => ?_)
              · have hm33 := ifT hb56 hm33
                refine WK_exit rfl ?_
                refine WK_region ?_
                refine WO_pure tbok 2 [(2, .pointer (some ⟨b3, 0, none⟩)), (3, .pointer (some ⟨b4, 0, none⟩)), (4, .pointer (some ⟨b5, 0, none⟩)), (5, .int .i64 0), (9, .slice a21 ((y_3).length) c22), (66, .slice a_p0_5 p0_5.length c_p0_5), (67, .int .i64 (p0_5.length : Int)), (68, .int .i64 (w64 (s_5 + 1)))] rfl ⟨rfl, rfl, rfl, rfl, rfl, rfl, rfl, rfl, trivial⟩ ?_
                refine WO_end ?_
                cases hm33
                refine WK.sub ?_ (WK.cls (fun _ h => h) (hn36 _ L27 rfl hL27))
                exact ⟨rfl, rfl, rfl, rfl, rfl, rfl, rfl, rfl, trivial⟩
              · have hm33 := ifF hb56 hm33
                refine WK_skip ?_
                refine WK_seq ?_
                refine WK_region ?_
                refine WO_pure tbok 4 [(2, .pointer (some ⟨b3, 0, none⟩)), (3, .pointer (some ⟨b4, 0, none⟩)), (4, .pointer (some ⟨b5, 0, none⟩)), (5, .int .i64 0), (9, .slice a21 ((y_3).length) c22), (10, .int .i64 s_5), (66, .slice a_p0_5 p0_5.length c_p0_5), (67, .int .i64 (p0_5.length : Int)), (68, .int .i64 s_5), (83, .slice a21 ((y_3).length) c22), (84, .int .i64 s_5), (85, .int .i64 v_13), (86, .pointer (some ⟨b4, 5, none⟩))] rfl ⟨rfl, rfl, rfl, rfl, rfl, rfl, rfl, rfl, rfl, rfl, rfl, rfl, rfl, trivial⟩ ?_
                refine WO_loadB tbok 1 rfl rfl rfl rfl (fun _ h => h) rfl rfl ?_
                refine WO_pure tbok 1 [(2, .pointer (some ⟨b3, 0, none⟩)), (3, .pointer (some ⟨b4, 0, none⟩)), (4, .pointer (some ⟨b5, 0, none⟩)), (5, .int .i64 0), (9, .slice a21 ((y_3).length) c22), (10, .int .i64 s_5), (66, .slice a_p0_5 p0_5.length c_p0_5), (67, .int .i64 (p0_5.length : Int)), (68, .int .i64 s_5), (83, .slice a21 ((y_3).length) c22), (84, .int .i64 s_5), (85, .int .i64 v_13), (87, .slice a_p1_5 p1_5.length c_p1_5), (88, .int .i64 s_5)] rfl ⟨rfl, rfl, rfl, rfl, rfl, rfl, rfl, rfl, rfl, rfl, rfl, rfl, rfl, rfl, trivial⟩ ?_
                obtain ⟨v_15, hy57, hm33⟩ := bind_some hm33
                obtain ⟨hc58, hy57⟩ := ix_some hy57
                refine WO_index tbok rfl rfl rfl rfl rfl rfl rfl rfl (SlR.addr h_p1_5) hc58 ?_
                refine WO_loadE tbok rfl rfl rfl rfl (fun _ h => St.sat h) h_p1_5 hy57 rfl ?_
                refine WO_pure tbok 1 [(2, .pointer (some ⟨b3, 0, none⟩)), (3, .pointer (some ⟨b4, 0, none⟩)), (4, .pointer (some ⟨b5, 0, none⟩)), (5, .int .i64 0), (9, .slice a21 ((y_3).length) c22), (10, .int .i64 s_5), (66, .slice a_p0_5 p0_5.length c_p0_5), (67, .int .i64 (p0_5.length : Int)), (68, .int .i64 s_5), (83, .slice a21 ((y_3).length) c22), (84, .int .i64 s_5), (91, .int .i64 (w64 (v_13 - v_15)))] rfl ⟨rfl, rfl, rfl, rfl, rfl, rfl, rfl, rfl, rfl, rfl, rfl, rfl, trivial⟩ ?_
                obtain ⟨hc59, hm33⟩ := chk_some hm33
                refine WO_index tbok rfl rfl rfl rfl rfl rfl rfl rfl (OwnE.addr hL27) (by simpa using hc59) ?_
                refine WO_storeO (E := (I1 .i64)) tbok (fun _ => rfl) 4 (w64 (v_13 - v_15)) rfl rfl rfl rfl rfl hL27 rfl (by simpa using idx_lt hc59) rfl rfl rfl rfl (fun L60 hL60 => ?_)
                refine WO.cls (C' := St w0 m m [[⟨b3, 25, [.int .i64 p0_0, .int .i64 p0_1, .int .i64 p0_2, .int .i64 p0_3, .int .i64 p0_4, .slice a_p0_5 p0_5.length c_p0_5]⟩], [⟨b4, 25, [.int .i64 p1_0, .int .i64 p1_1, .int .i64 p1_2, .int .i64 p1_3, .int .i64 p1_4, .slice a_p1_5 p1_5.length c_p1_5]⟩], [⟨b5, 25, [.int .i64 0, .int .i64 0, .int .i64 0, .int .i64 0, .int .i64 0, .slice none 0 0]⟩], [⟨b6, 25, [.int .i64 p0_0, .int .i64 p0_1, .int .i64 p0_2, .int .i64 p0_3, .int .i64 p0_4, .slice a_p0_5 p0_5.length c_p0_5, .int .i64 p1_0, .int .i64 p1_1, .int .i64 p1_2, .int .i64 p1_3, .int .i64 p1_4, .slice a_p1_5 p1_5.length c_p1_5]⟩], L60]) (fun _ h => h) ?_
                refine WO_end ?_
                refine WK_seq ?_
                refine WK_region ?_
                refine WO_pure tbok 2 [(2, .pointer (some ⟨b3, 0, none⟩)), (3, .pointer (some ⟨b4, 0, none⟩)), (4, .pointer (some ⟨b5, 0, none⟩)), (5, .int .i64 0), (9, .slice a21 ((y_3).length) c22), (66, .slice a_p0_5 p0_5.length c_p0_5), (67, .int .i64 (p0_5.length : Int)), (68, .int .i64 s_5), (93, .slice a21 ((y_3).length) c22), (94, .int .i64 s_5)] rfl ⟨rfl, rfl, rfl, rfl, rfl, rfl, rfl, rfl, rfl, rfl, trivial⟩ ?_
                obtain ⟨v_16, hy62, hm33⟩ := bind_some hm33
                obtain ⟨hc63, hy62⟩ := ix_some hy62
                refine WO_index tbok rfl rfl rfl rfl rfl rfl rfl rfl (OwnE.addr hL60) (by simpa using hc63) ?_
                refine WO_loadO (E := (I1 .i64)) tbok (fun _ => rfl) 4 rfl rfl rfl rfl (fun _ h => h) hL60 rfl hy62 rfl ?_
                obtain ⟨y_17, hc64, hm33⟩ := bind_some hm33
                refine WO_call0 (.bool y_17) rfl rfl trivial rfl rfl rfl rfl St_closed ⟨41, #[], #[], rfl, callable_41, fun w hw => ⟨_, hw.sat, terrain_far_walk hc64⟩⟩ ?_
                refine WO_end ?_
                refine WK_cond (b := y_17) rfl (fun hb65 => ?_) (fun hb65 => ?_)
                · have hm33 := ifT hb65 hm33
                  refine WK_seq ?_
                  refine WK_region ?_
                  refine WO_pure tbok 1 [(2, .pointer (some ⟨b3, 0, none⟩)), (3, .pointer (some ⟨b4, 0, none⟩)), (4, .pointer (some ⟨b5, 0, none⟩)), (5, .int .i64 0), (9, .slice a21 ((y_3).length) c22), (66, .slice a_p0_5 p0_5.length c_p0_5), (67, .int .i64 (p0_5.length : Int)), (68, .int .i64 s_5), (98, .agg #[.int .i64 0, .int .i64 0, .int .i64 0, .int .i64 0, .int .i64 0, .slice none 0 0])] rfl ⟨rfl, rfl, rfl, rfl, rfl, rfl, rfl, rfl, rfl, trivial⟩ ?_
                  refine WO_storeB tbok 2 [.int .i64 0, .int .i64 0, .int .i64 0, .int .i64 0, .int .i64 0, .slice none 0 0] rfl rfl rfl rfl rfl rfl rfl ?_
                  refine WO.cls (C' := St w0 m m [[⟨b3, 25, [.int .i64 p0_0, .int .i64 p0_1, .int .i64 p0_2, .int .i64 p0_3, .int .i64 p0_4, .slice a_p0_5 p0_5.length c_p0_5]⟩], [⟨b4, 25, [.int .i64 p1_0, .int .i64 p1_1, .int .i64 p1_2, .int .i64 p1_3, .int .i64 p1_4, .slice a_p1_5 p1_5.length c_p1_5]⟩], [⟨b5, 25, [.int .i64 0, .int .i64 0, .int .i64 0, .int .i64 0, .int .i64 0, .slice none 0 0]⟩], [⟨b6, 25, [.int .i64 p0_0, .int .i64 p0_1, .int .i64 p0_2, .int .i64 p0_3, .int .i64 p0_4, .slice a_p0_5 p0_5.length c_p0_5, .int .i64 p1_0, .int .i64 p1_1, .int .i64 p1_2, .int .i64 p1_3, .int .i64 p1_4, .slice a_p1_5 p1_5.length c_p1_5]⟩], L60]) (fun _ h => h) ?_
                  refine WO_pure tbok 1 [(2, .pointer (some ⟨b3, 0, none⟩)), (3, .pointer (some ⟨b4, 0, none⟩)), (4, .pointer (some ⟨b5, 0, none⟩)), (5, .int .i64 2), (9, .slice a21 ((y_3).length) c22), (66, .slice a_p0_5 p0_5.length c_p0_5), (67, .int .i64 (p0_5.length : Int)), (68, .int .i64 s_5)] rfl ⟨rfl, rfl, rfl, rfl, rfl, rfl, rfl, rfl, trivial⟩ ?_
                  refine WO_end ?_
                  cases hm33
                  have hq := hd37 _ rfl
                  subst hq
                  have hm : some _ = some _ := hm
                  cases hm
                  exact WK_ret (ret_out (L := []) (RLc_cell tbok 2 rfl rfl rfl (RLc_tmp rfl RLc_nil)) (List.nil_sublist _) ⟨none, 0, 0, rfl, SlR_nil⟩)
                · have hm33 := ifF hb65 hm33
                  refine WK_skip ?_
                  refine WK_blk ?_
                  refine WK_region ?_
                  refine WO_pure tbok 2 [(2, .pointer (some ⟨b3, 0, none⟩)), (3, .pointer (some ⟨b4, 0, none⟩)), (4, .pointer (some ⟨b5, 0, none⟩)), (5, .int .i64 0), (9, .slice a21 ((y_3).length) c22), (66, .slice a_p0_5 p0_5.length c_p0_5), (67, .int .i64 (p0_5.length : Int)), (68, .int .i64 (w64 (s_5 + 1)))] rfl ⟨rfl, rfl, rfl, rfl, rfl, rfl, rfl, rfl, trivial⟩ ?_
                  refine WO_end ?_
                  cases hm33
                  refine WK.sub ?_ (WK.cls (fun _ h => h) (hn36 _ L60 rfl hL60))
                  exact ⟨rfl, rfl, rfl, rfl, rfl, rfl, rfl, rfl, trivial⟩
            · refine WK_region ?_
              refine WO_pure tbok 3 [(2, .pointer (some ⟨b3, 0, none⟩)), (3, .pointer (some ⟨b4, 0, none⟩)), (4, .pointer (some ⟨b5, 0, none⟩)), (5, .int .i64 0), (9, .slice a21 ((y_3).length) c22), (10, .int .i64 s_5), (11, .int .i64 v_13), (66, .slice a_p0_5 p0_5.length c_p0_5), (67, .int .i64 (p0_5.length : Int)), (68, .int .i64 s_5), (75, .bool (v_13 == (-2147483648)))] rfl ⟨rfl, rfl, rfl, rfl, rfl, rfl, rfl, rfl, rfl, rfl, rfl, trivial⟩ ?_
              refine WO_split (d := 75) (b := v_13 == (-2147483648)) rfl (fun hb66 => ?_) (fun hb66 => ?_)
              · have hx54 := ifT hb66 hx54
                refine WO_pure tbok 7 [(2, .pointer (some ⟨b3, 0, none⟩)), (3, .pointer (some ⟨b4, 0, none⟩)), (4, .pointer (some ⟨b5, 0, none⟩)), (5, .int .i64 0), (9, .slice a21 ((y_3).length) c22), (10, .int .i64 s_5), (11, .int .i64 v_13), (66, .slice a_p0_5 p0_5.length c_p0_5), (67, .int .i64 (p0_5.length : Int)), (68, .int .i64 s_5), (82, .bool true)] rfl ⟨rfl, rfl, rfl, rfl, rfl, rfl, rfl, rfl, rfl, rfl, rfl, trivial⟩ ?_
                refine WO_end ?_
                cases hx54
                refine WK.sub ?_ (WK.cls (fun _ h => h) hk55)
                exact ⟨rfl, rfl, rfl, rfl, rfl, rfl, rfl, rfl, rfl, rfl, rfl, trivial⟩
              · have hx54 := ifF hb66 hx54
                refine WO_pure tbok 1 [(2, .pointer (some ⟨b3, 0, none⟩)), (3, .pointer (some ⟨b4, 0, none⟩)), (4, .pointer (some ⟨b5, 0, none⟩)), (5, .int .i64 0), (9, .slice a21 ((y_3).length) c22), (10, .int .i64 s_5), (11, .int .i64 v_13), (66, .slice a_p0_5 p0_5.length c_p0_5), (67, .int .i64 (p0_5.length : Int)), (68, .int .i64 s_5), (75, .bool false), (76, .pointer (some ⟨b4, 5, none⟩))] rfl ⟨rfl, rfl, rfl, rfl, rfl, rfl, rfl, rfl, rfl, rfl, rfl, rfl, trivial⟩ ?_
                refine WO_loadB tbok 1 rfl rfl rfl rfl (fun _ h => h) rfl rfl ?_
                refine WO_pure tbok 1 [(2, .pointer (some ⟨b3, 0, none⟩)), (3, .pointer (some ⟨b4, 0, none⟩)), (4, .pointer (some ⟨b5, 0, none⟩)), (5, .int .i64 0), (9, .slice a21 ((y_3).length) c22), (10, .int .i64 s_5), (11, .int .i64 v_13), (66, .slice a_p0_5 p0_5.length c_p0_5), (67, .int .i64 (p0_5.length : Int)), (68, .int .i64 s_5), (75, .bool false), (77, .slice a_p1_5 p1_5.length c_p1_5), (78, .int .i64 s_5)] rfl ⟨rfl, rfl, rfl, rfl, rfl, rfl, rfl, rfl, rfl, rfl, rfl, rfl, rfl, trivial⟩ ?_
                obtain ⟨v_18, hy67, hx54⟩ := bind_some hx54
                obtain ⟨hc68, hy67⟩ := ix_some hy67
                refine WO_index tbok rfl rfl rfl rfl rfl rfl rfl rfl (SlR.addr h_p1_5) hc68 ?_
                refine WO_loadE tbok rfl rfl rfl rfl (fun _ h => St.sat h) h_p1_5 hy67 rfl ?_
                refine WO_pure tbok 2 [(2, .pointer (some ⟨b3, 0, none⟩)), (3, .pointer (some ⟨b4, 0, none⟩)), (4, .pointer (some ⟨b5, 0, none⟩)), (5, .int .i64 0), (9, .slice a21 ((y_3).length) c22), (10, .int .i64 s_5), (11, .int .i64 v_13), (66, .slice a_p0_5 p0_5.length c_p0_5), (67, .int .i64 (p0_5.length : Int)), (68, .int .i64 s_5), (82, .bool (v_18 == (-2147483648)))] rfl ⟨rfl, rfl, rfl, rfl, rfl, rfl, rfl, rfl, rfl, rfl, rfl, trivial⟩ ?_
                refine WO_end ?_
                cases hx54
                refine WK.sub ?_ (WK.cls (fun _ h => h) hk55)
                exact ⟨rfl, rfl, rfl, rfl, rfl, rfl, rfl, rfl, rfl, rfl, rfl, trivial⟩
          · have hm33 := ifF hb51 hm33
            refine WK_exit rfl ?_
            cases hm33
            refine WK.sub ?_ (WK.cls (fun _ h => h) (hk32 (l_4, L27) ⟨(hd37 _ rfl), hL27⟩))
            exact ⟨rfl, rfl, rfl, rfl, trivial⟩
    · refine WK_region ?_
      refine WO_pure tbok 1 [(2, .pointer (some ⟨b3, 0, none⟩)), (3, .pointer (some ⟨b4, 0, none⟩)), (4, .pointer (some ⟨b5, 0, none⟩)), (5, .int .i64 0), (27, .pointer (some ⟨b3, 0, none⟩))] rfl ⟨rfl, rfl, rfl, rfl, rfl, trivial⟩ ?_
      refine WO_loadB tbok 0 rfl rfl rfl rfl (fun _ h => h) rfl rfl ?_
      refine WO_pure tbok 1 [(2, .pointer (some ⟨b3, 0, none⟩)), (3, .pointer (some ⟨b4, 0, none⟩)), (4, .pointer (some ⟨b5, 0, none⟩)), (5, .int .i64 0), (28, .int .i64 p0_0), (29, .pointer (some ⟨b4, 0, none⟩))] rfl ⟨rfl, rfl, rfl, rfl, rfl, rfl, trivial⟩ ?_
      refine WO_loadB tbok 1 rfl rfl rfl rfl (fun _ h => h) rfl rfl ?_
      refine WO_pure tbok 2 [(2, .pointer (some ⟨b3, 0, none⟩)), (3, .pointer (some ⟨b4, 0, none⟩)), (4, .pointer (some ⟨b5, 0, none⟩)), (5, .int .i64 0), (32, .bool (p0_0 != p1_0))] rfl ⟨rfl, rfl, rfl, rfl, rfl, trivial⟩ ?_
      refine WO_split (d := 32) (b := p0_0 != p1_0) rfl (fun hb69 => ?_) (fun hb69 => ?_)
      · have hx17 := ifT hb69 hx17
        refine WO_pure tbok 27 [(2, .pointer (some ⟨b3, 0, none⟩)), (3, .pointer (some ⟨b4, 0, none⟩)), (4, .pointer (some ⟨b5, 0, none⟩)), (5, .int .i64 0), (59, .bool true)] rfl ⟨rfl, rfl, rfl, rfl, rfl, trivial⟩ ?_
        refine WO_end ?_
        cases hx17
        refine WK.sub ?_ (WK.cls (fun _ h => h) hk18)
        exact ⟨rfl, rfl, rfl, rfl, rfl, trivial⟩
      · have hx17 := ifF hb69 hx17
        refine WO_pure tbok 1 [(2, .pointer (some ⟨b3, 0, none⟩)), (3, .pointer (some ⟨b4, 0, none⟩)), (4, .pointer (some ⟨b5, 0, none⟩)), (5, .int .i64 0), (32, .bool false), (33, .pointer (some ⟨b3, 1, none⟩))] rfl ⟨rfl, rfl, rfl, rfl, rfl, rfl, trivial⟩ ?_
        refine WO_loadB tbok 0 rfl rfl rfl rfl (fun _ h => h) rfl rfl ?_
        refine WO_pure tbok 1 [(2, .pointer (some ⟨b3, 0, none⟩)), (3, .pointer (some ⟨b4, 0, none⟩)), (4, .pointer (some ⟨b5, 0, none⟩)), (5, .int .i64 0), (32, .bool false), (34, .int .i64 p0_1), (35, .pointer (some ⟨b4, 1, none⟩))] rfl ⟨rfl, rfl, rfl, rfl, rfl, rfl, rfl, trivial⟩ ?_
        refine WO_loadB tbok 1 rfl rfl rfl rfl (fun _ h => h) rfl rfl ?_
        refine WO_pure tbok 3 [(2, .pointer (some ⟨b3, 0, none⟩)), (3, .pointer (some ⟨b4, 0, none⟩)), (4, .pointer (some ⟨b5, 0, none⟩)), (5, .int .i64 0), (39, .bool (p0_1 != p1_1))] rfl ⟨rfl, rfl, rfl, rfl, rfl, trivial⟩ ?_
        refine WO_split (d := 39) (b := p0_1 != p1_1) rfl (fun hb70 => ?_) (fun hb70 => ?_)
        · have hx17 := ifT hb70 hx17
          refine WO_pure tbok 20 [(2, .pointer (some ⟨b3, 0, none⟩)), (3, .pointer (some ⟨b4, 0, none⟩)), (4, .pointer (some ⟨b5, 0, none⟩)), (5, .int .i64 0), (59, .bool true)] rfl ⟨rfl, rfl, rfl, rfl, rfl, trivial⟩ ?_
          refine WO_end ?_
          cases hx17
          refine WK.sub ?_ (WK.cls (fun _ h => h) hk18)
          exact ⟨rfl, rfl, rfl, rfl, rfl, trivial⟩
        · have hx17 := ifF hb70 hx17
          refine WO_pure tbok 1 [(2, .pointer (some ⟨b3, 0, none⟩)), (3, .pointer (some ⟨b4, 0, none⟩)), (4, .pointer (some ⟨b5, 0, none⟩)), (5, .int .i64 0), (39, .bool false), (40, .pointer (some ⟨b3, 2, none⟩))] rfl ⟨rfl, rfl, rfl, rfl, rfl, rfl, trivial⟩ ?_
          refine WO_loadB tbok 0 rfl rfl rfl rfl (fun _ h => h) rfl rfl ?_
          refine WO_pure tbok 1 [(2, .pointer (some ⟨b3, 0, none⟩)), (3, .pointer (some ⟨b4, 0, none⟩)), (4, .pointer (some ⟨b5, 0, none⟩)), (5, .int .i64 0), (39, .bool false), (41, .int .i64 p0_2), (42, .pointer (some ⟨b4, 2, none⟩))] rfl ⟨rfl, rfl, rfl, rfl, rfl, rfl, rfl, trivial⟩ ?_
          refine WO_loadB tbok 1 rfl rfl rfl rfl (fun _ h => h) rfl rfl ?_
          refine WO_pure tbok 3 [(2, .pointer (some ⟨b3, 0, none⟩)), (3, .pointer (some ⟨b4, 0, none⟩)), (4, .pointer (some ⟨b5, 0, none⟩)), (5, .int .i64 0), (46, .bool (p0_2 != p1_2))] rfl ⟨rfl, rfl, rfl, rfl, rfl, trivial⟩ ?_
          refine WO_split (d := 46) (b := p0_2 != p1_2) rfl (fun hb71 => ?_) (fun hb71 => ?_)
          · have hx17 := ifT hb71 hx17
            refine WO_pure tbok 13 [(2, .pointer (some ⟨b3, 0, none⟩)), (3, .pointer (some ⟨b4, 0, none⟩)), (4, .pointer (some ⟨b5, 0, none⟩)), (5, .int .i64 0), (59, .bool true)] rfl ⟨rfl, rfl, rfl, rfl, rfl, trivial⟩ ?_
            refine WO_end ?_
            cases hx17
            refine WK.sub ?_ (WK.cls (fun _ h => h) hk18)
            exact ⟨rfl, rfl, rfl, rfl, rfl, trivial⟩
          · have hx17 := ifF hb71 hx17
            refine WO_pure tbok 1 [(2, .pointer (some ⟨b3, 0, none⟩)), (3, .pointer (some ⟨b4, 0, none⟩)), (4, .pointer (some ⟨b5, 0, none⟩)), (5, .int .i64 0), (46, .bool false), (47, .pointer (some ⟨b3, 3, none⟩))] rfl ⟨rfl, rfl, rfl, rfl, rfl, rfl, trivial⟩ ?_
            refine WO_loadB tbok 0 rfl rfl rfl rfl (fun _ h => h) rfl rfl ?_
            refine WO_pure tbok 1 [(2, .pointer (some ⟨b3, 0, none⟩)), (3, .pointer (some ⟨b4, 0, none⟩)), (4, .pointer (some ⟨b5, 0, none⟩)), (5, .int .i64 0), (46, .bool false), (48, .int .i64 p0_3), (49, .pointer (some ⟨b4, 3, none⟩))] rfl ⟨rfl, rfl, rfl, rfl, rfl, rfl, rfl, trivial⟩ ?_
            refine WO_loadB tbok 1 rfl rfl rfl rfl (fun _ h => h) rfl rfl ?_
            refine WO_pure tbok 3 [(2, .pointer (some ⟨b3, 0, none⟩)), (3, .pointer (some ⟨b4, 0, none⟩)), (4, .pointer (some ⟨b5, 0, none⟩)), (5, .int .i64 0), (53, .bool (p0_3 != p1_3))] rfl ⟨rfl, rfl, rfl, rfl, rfl, trivial⟩ ?_
            refine WO_split (d := 53) (b := p0_3 != p1_3) rfl (fun hb72 => ?_) (fun hb72 => ?_)
            · have hx17 := ifT hb72 hx17
              refine WO_pure tbok 6 [(2, .pointer (some ⟨b3, 0, none⟩)), (3, .pointer (some ⟨b4, 0, none⟩)), (4, .pointer (some ⟨b5, 0, none⟩)), (5, .int .i64 0), (59, .bool true)] rfl ⟨rfl, rfl, rfl, rfl, rfl, trivial⟩ ?_
              refine WO_end ?_
              cases hx17
              refine WK.sub ?_ (WK.cls (fun _ h => h) hk18)
              exact ⟨rfl, rfl, rfl, rfl, rfl, trivial⟩
            · have hx17 := ifF hb72 hx17
              refine WO_pure tbok 1 [(2, .pointer (some ⟨b3, 0, none⟩)), (3, .pointer (some ⟨b4, 0, none⟩)), (4, .pointer (some ⟨b5, 0, none⟩)), (5, .int .i64 0), (53, .bool false), (54, .pointer (some ⟨b3, 4, none⟩))] rfl ⟨rfl, rfl, rfl, rfl, rfl, rfl, trivial⟩ ?_
              refine WO_loadB tbok 0 rfl rfl rfl rfl (fun _ h => h) rfl rfl ?_
              refine WO_pure tbok 1 [(2, .pointer (some ⟨b3, 0, none⟩)), (3, .pointer (some ⟨b4, 0, none⟩)), (4, .pointer (some ⟨b5, 0, none⟩)), (5, .int .i64 0), (53, .bool false), (55, .int .i64 p0_4), (56, .pointer (some ⟨b4, 4, none⟩))] rfl ⟨rfl, rfl, rfl, rfl, rfl, rfl, rfl, trivial⟩ ?_
              refine WO_loadB tbok 1 rfl rfl rfl rfl (fun _ h => h) rfl rfl ?_
              refine WO_pure tbok 2 [(2, .pointer (some ⟨b3, 0, none⟩)), (3, .pointer (some ⟨b4, 0, none⟩)), (4, .pointer (some ⟨b5, 0, none⟩)), (5, .int .i64 0), (59, .bool (p0_4 != p1_4))] rfl ⟨rfl, rfl, rfl, rfl, rfl, trivial⟩ ?_
              refine WO_end ?_
              cases hx17
              refine WK.sub ?_ (WK.cls (fun _ h => h) hk18)
              exact ⟨rfl, rfl, rfl, rfl, rfl, trivial⟩
  · refine WK_block ?_
    refine WK_loop (S := Int) (G := Unit) (fun s => terrain_Difference_s1 p0_0 p0_1 p0_2 p0_3 p0_4 p0_5 p1_0 p1_1 p1_2 p1_3 p1_4 p1_5 s) (fun s g => [(2, .pointer (some ⟨b3, 0, none⟩)), (3, .pointer (some ⟨b4, 0, none⟩)), (4, .pointer (some ⟨b5, 0, none⟩)), (5, .int .i64 0), (14, .slice (some ⟨b6, 0, none⟩) 2 2), (15, .int .i64 2), (16, .int .i64 s)]) (fun s g => St w0 m m [[⟨b3, 25, [.int .i64 p0_0, .int .i64 p0_1, .int .i64 p0_2, .int .i64 p0_3, .int .i64 p0_4, .slice a_p0_5 p0_5.length c_p0_5]⟩], [⟨b4, 25, [.int .i64 p1_0, .int .i64 p1_1, .int .i64 p1_2, .int .i64 p1_3, .int .i64 p1_4, .slice a_p1_5 p1_5.length c_p1_5]⟩], [⟨b5, 25, [.int .i64 0, .int .i64 0, .int .i64 0, .int .i64 0, .int .i64 0, .slice none 0 0]⟩], [⟨b6, 25, [.int .i64 p0_0, .int .i64 p0_1, .int .i64 p0_2, .int .i64 p0_3, .int .i64 p0_4, .slice a_p0_5 p0_5.length c_p0_5, .int .i64 p1_0, .int .i64 p1_1, .int .i64 p1_2, .int .i64 p1_3, .int .i64 p1_4, .slice a_p1_5 p1_5.length c_p1_5]⟩]]) (fun s g => True) FUEL 0 () x8 hx9 trivial ⟨rfl, rfl, rfl, rfl, rfl, rfl, rfl, trivial⟩ (fun _ h => h) ?_
    rintro s_1 ⟨⟩ o12 fl13 hm11 - hn14 hd15
    have hm11 : terrain_Difference_s1 p0_0 p0_1 p0_2 p0_3 p0_4 p0_5 p1_0 p1_1 p1_2 p1_3 p1_4 p1_5 s_1 = some o12 := hm11
    unfold terrain_Difference_s1 at hm11
    refine WK.sub (e' := [(2, .pointer (some ⟨b3, 0, none⟩)), (3, .pointer (some ⟨b4, 0, none⟩)), (4, .pointer (some ⟨b5, 0, none⟩)), (5, .int .i64 0), (14, .slice (some ⟨b6, 0, none⟩) 2 2), (15, .int .i64 2), (16, .int .i64 s_1)]) ⟨rfl, rfl, rfl, rfl, rfl, rfl, rfl, trivial⟩ (WK.cls (C' := St w0 m m [[⟨b3, 25, [.int .i64 p0_0, .int .i64 p0_1, .int .i64 p0_2, .int .i64 p0_3, .int .i64 p0_4, .slice a_p0_5 p0_5.length c_p0_5]⟩], [⟨b4, 25, [.int .i64 p1_0, .int .i64 p1_1, .int .i64 p1_2, .int .i64 p1_3, .int .i64 p1_4, .slice a_p1_5 p1_5.length c_p1_5]⟩], [⟨b5, 25, [.int .i64 0, .int .i64 0, .int .i64 0, .int .i64 0, .int .i64 0, .slice none 0 0]⟩], [⟨b6, 25, [.int .i64 p0_0, .int .i64 p0_1, .int .i64 p0_2, .int .i64 p0_3, .int .i64 p0_4, .slice a_p0_5 p0_5.length c_p0_5, .int .i64 p1_0, .int .i64 p1_1, .int .i64 p1_2, .int .i64 p1_3, .int .i64 p1_4, .slice a_p1_5 p1_5.length c_p1_5]⟩]]) (fun _ h => h) ?_)
    refine WK_seq ?_
    refine WK_region ?_
    refine WO_pure tbok 1 [(2, .pointer (some ⟨b3, 0, none⟩)), (3, .pointer (some ⟨b4, 0, none⟩)), (4, .pointer (some ⟨b5, 0, none⟩)), (5, .int .i64 0), (14, .slice (some ⟨b6, 0, none⟩) 2 2), (15, .int .i64 2), (16, .int .i64 s_1), (17, .bool (decide (s_1 < 2)))] rfl ⟨rfl, rfl, rfl, rfl, rfl, rfl, rfl, rfl, trivial⟩ ?_
    refine WO_end ?_
    refine WK_seq ?_
    refine WK_cond (b := decide (s_1 < 2)) rfl (fun hb73 => ?_) (fun hb73 => ?_)
    · have hm11 := ifT hb73 hm11
      refine WK_skip ?_
      refine WK_seq ?_
      refine WK_block ?_
      refine WK_seq ?_
      refine WK_region ?_
      obtain ⟨v_19, hy74, hm11⟩ := bind_some hm11
      obtain ⟨hc75, hy74⟩ := ix_some hy74
      refine WO_index tbok rfl rfl rfl rfl rfl rfl rfl rfl (OwnX.addr hb6) (by simpa using hc75) ?_
      refine WO_loadOX (E := V6) tbok (fun _ => rfl) 3 rfl rfl rfl rfl (fun _ h => h) hb6 rfl hy74 (fun cs hcs => ?_)
      obtain ⟨a76, qa76, c77, rfl, h78⟩ := hcs
      obtain rfl := SlR.qlen h78
      refine ⟨_, rfl, ?_⟩
      refine WO_alloc tbok [.int .i64 0, .int .i64 0, .int .i64 0, .int .i64 0, .int .i64 0, .slice none 0 0] rfl rfl trivial rfl rfl rfl rfl (fun b80 => ?_)
      refine WO.cls (C' := St w0 m m [[⟨b3, 25, [.int .i64 p0_0, .int .i64 p0_1, .int .i64 p0_2, .int .i64 p0_3, .int .i64 p0_4, .slice a_p0_5 p0_5.length c_p0_5]⟩], [⟨b4, 25, [.int .i64 p1_0, .int .i64 p1_1, .int .i64 p1_2, .int .i64 p1_3, .int .i64 p1_4, .slice a_p1_5 p1_5.length c_p1_5]⟩], [⟨b5, 25, [.int .i64 0, .int .i64 0, .int .i64 0, .int .i64 0, .int .i64 0, .slice none 0 0]⟩], [⟨b6, 25, [.int .i64 p0_0, .int .i64 p0_1, .int .i64 p0_2, .int .i64 p0_3, .int .i64 p0_4, .slice a_p0_5 p0_5.length c_p0_5, .int .i64 p1_0, .int .i64 p1_1, .int .i64 p1_2, .int .i64 p1_3, .int .i64 p1_4, .slice a_p1_5 p1_5.length c_p1_5]⟩], [⟨b80, 25, [.int .i64 0, .int .i64 0, .int .i64 0, .int .i64 0, .int .i64 0, .slice none 0 0]⟩]]) (fun _ h => h) ?_
      refine WO_storeB tbok 4 [.int .i64 v_19.1, .int .i64 v_19.2.1, .int .i64 v_19.2.2.1, .int .i64 v_19.2.2.2.1, .int .i64 v_19.2.2.2.2.1, .slice a76 ((v_19.2.2.2.2.2).length) c77] rfl rfl rfl rfl rfl rfl rfl ?_
      refine WO.cls (C' := St w0 m m [[⟨b3, 25, [.int .i64 p0_0, .int .i64 p0_1, .int .i64 p0_2, .int .i64 p0_3, .int .i64 p0_4, .slice a_p0_5 p0_5.length c_p0_5]⟩], [⟨b4, 25, [.int .i64 p1_0, .int .i64 p1_1, .int .i64 p1_2, .int .i64 p1_3, .int .i64 p1_4, .slice a_p1_5 p1_5.length c_p1_5]⟩], [⟨b5, 25, [.int .i64 0, .int .i64 0, .int .i64 0, .int .i64 0, .int .i64 0, .slice none 0 0]⟩], [⟨b6, 25, [.int .i64 p0_0, .int .i64 p0_1, .int .i64 p0_2, .int .i64 p0_3, .int .i64 p0_4, .slice a_p0_5 p0_5.length c_p0_5, .int .i64 p1_0, .int .i64 p1_1, .int .i64 p1_2, .int .i64 p1_3, .int .i64 p1_4, .slice a_p1_5 p1_5.length c_p1_5]⟩], [⟨b80, 25, [.int .i64 v_19.1, .int .i64 v_19.2.1, .int .i64 v_19.2.2.1, .int .i64 v_19.2.2.2.1, .int .i64 v_19.2.2.2.2.1, .slice a76 ((v_19.2.2.2.2.2).length) c77]⟩]]) (fun _ h => h) ?_
      refine WO_end ?_
      refine WK_seq ?_
      refine WK_region ?_
      refine WO_loadB tbok 4 rfl rfl rfl rfl (fun _ h => h) rfl rfl ?_
      obtain ⟨y_20, hc81, hm11⟩ := bind_some hm11
      refine WO_call0 (.int .i64 y_20) rfl rfl trivial rfl rfl rfl rfl St_closed ⟨16, #[], #[], rfl, callable_16, fun w hw => ⟨_, hw.sat, terrain_Check_walk h78 hc81⟩⟩ ?_
      refine WO_pure tbok 1 [(2, .pointer (some ⟨b3, 0, none⟩)), (3, .pointer (some ⟨b4, 0, none⟩)), (4, .pointer (some ⟨b5, 0, none⟩)), (5, .int .i64 0), (8, .int .i64 y_20), (14, .slice (some ⟨b6, 0, none⟩) 2 2), (15, .int .i64 2), (16, .int .i64 s_1)] rfl ⟨rfl, rfl, rfl, rfl, rfl, rfl, rfl, rfl, trivial⟩ ?_
      refine WO_end ?_
      refine WK_seq ?_
      refine WK_region ?_
      refine WO_pure tbok 2 [(2, .pointer (some ⟨b3, 0, none⟩)), (3, .pointer (some ⟨b4, 0, none⟩)), (4, .pointer (some ⟨b5, 0, none⟩)), (5, .int .i64 0), (8, .int .i64 y_20), (14, .slice (some ⟨b6, 0, none⟩) 2 2), (15, .int .i64 2), (16, .int .i64 s_1), (23, .bool (y_20 != 0))] rfl ⟨rfl, rfl, rfl, rfl, rfl, rfl, rfl, rfl, rfl, trivial⟩ ?_
      refine WO_end ?_
      refine WK_cond (b := y_20 != 0) rfl (fun hb82 => ?_) (fun hb82 => ?_)
      · have hm11 := ifT hb82 hm11
        refine WK_seq ?_
        refine WK_region ?_
        refine WO_pure tbok 2 [(2, .pointer (some ⟨b3, 0, none⟩)), (3, .pointer (some ⟨b4, 0, none⟩)), (4, .pointer (some ⟨b5, 0, none⟩)), (5, .int .i64 0), (14, .slice (some ⟨b6, 0, none⟩) 2 2), (15, .int .i64 2), (16, .int .i64 s_1), (24, .agg #[.int .i64 0, .int .i64 0, .int .i64 0, .int .i64 0, .int .i64 0, .slice none 0 0]), (25, .int .i64 y_20)] rfl ⟨rfl, rfl, rfl, rfl, rfl, rfl, rfl, rfl, rfl, trivial⟩ ?_
        refine WO_storeB tbok 2 [.int .i64 0, .int .i64 0, .int .i64 0, .int .i64 0, .int .i64 0, .slice none 0 0] rfl rfl rfl rfl rfl rfl rfl ?_
        refine WO.cls (C' := St w0 m m [[⟨b3, 25, [.int .i64 p0_0, .int .i64 p0_1, .int .i64 p0_2, .int .i64 p0_3, .int .i64 p0_4, .slice a_p0_5 p0_5.length c_p0_5]⟩], [⟨b4, 25, [.int .i64 p1_0, .int .i64 p1_1, .int .i64 p1_2, .int .i64 p1_3, .int .i64 p1_4, .slice a_p1_5 p1_5.length c_p1_5]⟩], [⟨b5, 25, [.int .i64 0, .int .i64 0, .int .i64 0, .int .i64 0, .int .i64 0, .slice none 0 0]⟩], [⟨b6, 25, [.int .i64 p0_0, .int .i64 p0_1, .int .i64 p0_2, .int .i64 p0_3, .int .i64 p0_4, .slice a_p0_5 p0_5.length c_p0_5, .int .i64 p1_0, .int .i64 p1_1, .int .i64 p1_2, .int .i64 p1_3, .int .i64 p1_4, .slice a_p1_5 p1_5.length c_p1_5]⟩], [⟨b80, 25, [.int .i64 v_19.1, .int .i64 v_19.2.1, .int .i64 v_19.2.2.1, .int .i64 v_19.2.2.2.1, .int .i64 v_19.2.2.2.2.1, .slice a76 ((v_19.2.2.2.2.2).length) c77]⟩]]) (fun _ h => h) ?_
        refine WO_pure tbok 1 [(2, .pointer (some ⟨b3, 0, none⟩)), (3, .pointer (some ⟨b4, 0, none⟩)), (4, .pointer (some ⟨b5, 0, none⟩)), (5, .int .i64 y_20), (14, .slice (some ⟨b6, 0, none⟩) 2 2), (15, .int .i64 2), (16, .int .i64 s_1)] rfl ⟨rfl, rfl, rfl, rfl, rfl, rfl, rfl, trivial⟩ ?_
        refine WO_end ?_
        cases hm11
        have hq := hd15 _ rfl
        subst hq
        have hm : some _ = some _ := hm
        cases hm
        exact WK_ret (ret_out (L := []) (RLc_cell tbok 2 rfl rfl rfl (RLc_tmp rfl RLc_nil)) (List.nil_sublist _) ⟨none, 0, 0, rfl, SlR_nil⟩)
      · have hm11 := ifF hb82 hm11
        refine WK_skip ?_
        refine WK_blk ?_
        refine WK_region ?_
        refine WO_pure tbok 2 [(2, .pointer (some ⟨b3, 0, none⟩)), (3, .pointer (some ⟨b4, 0, none⟩)), (4, .pointer (some ⟨b5, 0, none⟩)), (5, .int .i64 0), (14, .slice (some ⟨b6, 0, none⟩) 2 2), (15, .int .i64 2), (16, .int .i64 (w64 (s_1 + 1)))] rfl ⟨rfl, rfl, rfl, rfl, rfl, rfl, rfl, trivial⟩ ?_
        refine WO_end ?_
        cases hm11
        refine WK.sub ?_ (WK.cls (fun _ h => St.take 4 h) (hn14 _ () rfl trivial))
        exact ⟨rfl, rfl, rfl, rfl, rfl, rfl, rfl, trivial⟩
    · have hm11 := ifF hb73 hm11
      refine WK_exit rfl ?_
      cases hm11
      refine WK.sub ?_ (WK.cls (fun _ h => h) (hk10 ((), ()) (hd15 _ rfl)))
      exact ⟨rfl, rfl, rfl, rfl, trivial⟩
def fiduciallaw48_difference_Q (r : Int × Int × Int × Int × Int × List Int × Int) : Value → Mu → List Ent → Prop := fun v m L => ∃ (a0 : Option Addr) (q0 c0 : Nat), v = .tuple #[.agg #[.int .i64 r.1, .int .i64 r.2.1, .int .i64 r.2.2.1, .int .i64 r.2.2.2.1, .int .i64 r.2.2.2.2.1, .slice a0 q0 c0], .int .i64 r.2.2.2.2.2.2] ∧ SlR (FE (I1 .i64)) 1 m (.slice a0 q0 c0) r.2.2.2.2.2.1
theorem fiduciallaw48_difference_walk {m : Mu} {p0_0 : Int} {p0_1 : Int} {p0_2 : Int} {p0_3 : Int} {p0_4 : Int} {p0_5 : List Int} {p1_0 : Int} {p1_1 : Int} {p1_2 : Int} {p1_3 : Int} {p1_4 : Int} {p1_5 : List Int} {a_p0_5 : Option Addr} {q_p0_5 c_p0_5 : Nat} {a_p1_5 : Option Addr} {q_p1_5 c_p1_5 : Nat} (h_p0_5 : SlR (FE (I1 .i64)) 1 m (.slice a_p0_5 q_p0_5 c_p0_5) p0_5) (h_p1_5 : SlR (FE (I1 .i64)) 1 m (.slice a_p1_5 q_p1_5 c_p1_5) p1_5) {r : Int × Int × Int × Int × Int × List Int × Int} (hm : fiduciallaw48_difference p0_0 p0_1 p0_2 p0_3 p0_4 p0_5 p1_0 p1_1 p1_2 p1_3 p1_4 p1_5 = some r) :
    Go.E.Spec Try.prog 32 [.agg #[.int .i64 p0_0, .int .i64 p0_1, .int .i64 p0_2, .int .i64 p0_3, .int .i64 p0_4, .slice a_p0_5 q_p0_5 c_p0_5], .agg #[.int .i64 p1_0, .int .i64 p1_1, .int .i64 p1_2, .int .i64 p1_3, .int .i64 p1_4, .slice a_p1_5 q_p1_5 c_p1_5]] m (fiduciallaw48_difference_Q r) := by
  refine Spec_enter Try.func32 rfl rfl rfl (fun w0 => ?_)
  refine WK.sub (e' := [(0, .agg #[.int .i64 p0_0, .int .i64 p0_1, .int .i64 p0_2, .int .i64 p0_3, .int .i64 p0_4, .slice a_p0_5 q_p0_5 c_p0_5]), (1, .agg #[.int .i64 p1_0, .int .i64 p1_1, .int .i64 p1_2, .int .i64 p1_3, .int .i64 p1_4, .slice a_p1_5 q_p1_5 c_p1_5])]) ⟨rfl, rfl, trivial⟩ ?_
  obtain rfl := SlR.qlen h_p0_5
  obtain rfl := SlR.qlen h_p1_5
  refine WK.sub (e' := [(0, .agg #[.int .i64 p0_0, .int .i64 p0_1, .int .i64 p0_2, .int .i64 p0_3, .int .i64 p0_4, .slice a_p0_5 p0_5.length c_p0_5]), (1, .agg #[.int .i64 p1_0, .int .i64 p1_1, .int .i64 p1_2, .int .i64 p1_3, .int .i64 p1_4, .slice a_p1_5 p1_5.length c_p1_5])]) ⟨rfl, rfl, trivial⟩ ?_
  unfold fiduciallaw48_difference at hm
  refine WK_seq ?_
  refine WK_region ?_
  refine WO_box [.int .i64 p0_0, .int .i64 p0_1, .int .i64 p0_2, .int .i64 p0_3, .int .i64 p0_4, .slice a_p0_5 p0_5.length c_p0_5] rfl rfl trivial rfl rfl rfl (fun b3 => ?_)
  refine WO.cls (C' := St w0 m m [[⟨b3, 25, [.int .i64 p0_0, .int .i64 p0_1, .int .i64 p0_2, .int .i64 p0_3, .int .i64 p0_4, .slice a_p0_5 p0_5.length c_p0_5]⟩]]) (fun _ h => h) ?_
  refine WO_box [.int .i64 p1_0, .int .i64 p1_1, .int .i64 p1_2, .int .i64 p1_3, .int .i64 p1_4, .slice a_p1_5 p1_5.length c_p1_5] rfl rfl trivial rfl rfl rfl (fun b4 => ?_)
  refine WO.cls (C' := St w0 m m [[⟨b3, 25, [.int .i64 p0_0, .int .i64 p0_1, .int .i64 p0_2, .int .i64 p0_3, .int .i64 p0_4, .slice a_p0_5 p0_5.length c_p0_5]⟩], [⟨b4, 25, [.int .i64 p1_0, .int .i64 p1_1, .int .i64 p1_2, .int .i64 p1_3, .int .i64 p1_4, .slice a_p1_5 p1_5.length c_p1_5]⟩]]) (fun _ h => h) ?_
  refine WO_alloc tbok [.int .i64 0, .int .i64 0, .int .i64 0, .int .i64 0, .int .i64 0, .slice none 0 0] rfl rfl trivial rfl rfl rfl rfl (fun b5 => ?_)
  refine WO.cls (C' := St w0 m m [[⟨b3, 25, [.int .i64 p0_0, .int .i64 p0_1, .int .i64 p0_2, .int .i64 p0_3, .int .i64 p0_4, .slice a_p0_5 p0_5.length c_p0_5]⟩], [⟨b4, 25, [.int .i64 p1_0, .int .i64 p1_1, .int .i64 p1_2, .int .i64 p1_3, .int .i64 p1_4, .slice a_p1_5 p1_5.length c_p1_5]⟩], [⟨b5, 25, [.int .i64 0, .int .i64 0, .int .i64 0, .int .i64 0, .int .i64 0, .slice none 0 0]⟩]]) (fun _ h => h) ?_
  refine WO_pure tbok 1 [(2, .pointer (some ⟨b3, 0, none⟩)), (3, .pointer (some ⟨b4, 0, none⟩)), (4, .pointer (some ⟨b5, 0, none⟩)), (5, .int .i64 0)] rfl ⟨rfl, rfl, rfl, rfl, trivial⟩ ?_
  refine WO_end ?_
  refine WK_seq ?_
  refine WK_seq ?_
  refine WK_region ?_
  refine WO_loadB tbok 0 rfl rfl rfl rfl (fun _ h => h) rfl rfl ?_
  obtain ⟨y_1, hc6, hm⟩ := bind_some hm
  refine WO_call0 (.int .i64 y_1) rfl rfl trivial rfl rfl rfl rfl St_closed ⟨17, #[], #[], rfl, callable_17, fun w hw => ⟨_, hw.sat, fiduciallaw48_checked_walk h_p0_5 hc6⟩⟩ ?_
  refine WO_pure tbok 1 [(2, .pointer (some ⟨b3, 0, none⟩)), (3, .pointer (some ⟨b4, 0, none⟩)), (4, .pointer (some ⟨b5, 0, none⟩)), (5, .int .i64 0), (6, .int .i64 y_1)] rfl ⟨rfl, rfl, rfl, rfl, rfl, trivial⟩ ?_
  refine WO_end ?_
  refine WK_seq ?_
  refine WK_region ?_
  refine WO_pure tbok 2 [(2, .pointer (some ⟨b3, 0, none⟩)), (3, .pointer (some ⟨b4, 0, none⟩)), (4, .pointer (some ⟨b5, 0, none⟩)), (5, .int .i64 0), (6, .int .i64 y_1), (14, .bool (y_1 != 0))] rfl ⟨rfl, rfl, rfl, rfl, rfl, rfl, trivial⟩ ?_
  refine WO_end ?_
  refine WK_cond (b := y_1 != 0) rfl (fun hb7 => ?_) (fun hb7 => ?_)
  · have hm := ifT hb7 hm
    refine WK_seq ?_
    refine WK_region ?_
    refine WO_pure tbok 2 [(2, .pointer (some ⟨b3, 0, none⟩)), (3, .pointer (some ⟨b4, 0, none⟩)), (4, .pointer (some ⟨b5, 0, none⟩)), (5, .int .i64 0), (15, .agg #[.int .i64 0, .int .i64 0, .int .i64 0, .int .i64 0, .int .i64 0, .slice none 0 0]), (16, .int .i64 y_1)] rfl ⟨rfl, rfl, rfl, rfl, rfl, rfl, trivial⟩ ?_
    refine WO_storeB tbok 2 [.int .i64 0, .int .i64 0, .int .i64 0, .int .i64 0, .int .i64 0, .slice none 0 0] rfl rfl rfl rfl rfl rfl rfl ?_
    refine WO.cls (C' := St w0 m m [[⟨b3, 25, [.int .i64 p0_0, .int .i64 p0_1, .int .i64 p0_2, .int .i64 p0_3, .int .i64 p0_4, .slice a_p0_5 p0_5.length c_p0_5]⟩], [⟨b4, 25, [.int .i64 p1_0, .int .i64 p1_1, .int .i64 p1_2, .int .i64 p1_3, .int .i64 p1_4, .slice a_p1_5 p1_5.length c_p1_5]⟩], [⟨b5, 25, [.int .i64 0, .int .i64 0, .int .i64 0, .int .i64 0, .int .i64 0, .slice none 0 0]⟩]]) (fun _ h => h) ?_
    refine WO_pure tbok 1 [(2, .pointer (some ⟨b3, 0, none⟩)), (3, .pointer (some ⟨b4, 0, none⟩)), (4, .pointer (some ⟨b5, 0, none⟩)), (5, .int .i64 y_1)] rfl ⟨rfl, rfl, rfl, rfl, trivial⟩ ?_
    refine WO_end ?_
    cases hm
    exact WK_ret (ret_out (L := []) (RLc_cell tbok 2 rfl rfl rfl (RLc_tmp rfl RLc_nil)) (List.nil_sublist _) ⟨none, 0, 0, rfl, SlR_nil⟩)
  · have hm := ifF hb7 hm
    refine WK_skip ?_
    refine WK_seq ?_
    refine WK_seq ?_
    refine WK_region ?_
    refine WO_loadB tbok 1 rfl rfl rfl rfl (fun _ h => h) rfl rfl ?_
    obtain ⟨y_2, hc8, hm⟩ := bind_some hm
    refine WO_call0 (.int .i64 y_2) rfl rfl trivial rfl rfl rfl rfl St_closed ⟨17, #[], #[], rfl, callable_17, fun w hw => ⟨_, hw.sat, fiduciallaw48_checked_walk h_p1_5 hc8⟩⟩ ?_
    refine WO_pure tbok 1 [(2, .pointer (some ⟨b3, 0, none⟩)), (3, .pointer (some ⟨b4, 0, none⟩)), (4, .pointer (some ⟨b5, 0, none⟩)), (5, .int .i64 0), (7, .int .i64 y_2)] rfl ⟨rfl, rfl, rfl, rfl, rfl, trivial⟩ ?_
    refine WO_end ?_
    refine WK_seq ?_
    refine WK_region ?_
    refine WO_pure tbok 2 [(2, .pointer (some ⟨b3, 0, none⟩)), (3, .pointer (some ⟨b4, 0, none⟩)), (4, .pointer (some ⟨b5, 0, none⟩)), (5, .int .i64 0), (7, .int .i64 y_2), (20, .bool (y_2 != 0))] rfl ⟨rfl, rfl, rfl, rfl, rfl, rfl, trivial⟩ ?_
    refine WO_end ?_
    refine WK_cond (b := y_2 != 0) rfl (fun hb9 => ?_) (fun hb9 => ?_)
    · have hm := ifT hb9 hm
      refine WK_seq ?_
      refine WK_region ?_
      refine WO_pure tbok 2 [(2, .pointer (some ⟨b3, 0, none⟩)), (3, .pointer (some ⟨b4, 0, none⟩)), (4, .pointer (some ⟨b5, 0, none⟩)), (5, .int .i64 0), (21, .agg #[.int .i64 0, .int .i64 0, .int .i64 0, .int .i64 0, .int .i64 0, .slice none 0 0]), (22, .int .i64 y_2)] rfl ⟨rfl, rfl, rfl, rfl, rfl, rfl, trivial⟩ ?_
      refine WO_storeB tbok 2 [.int .i64 0, .int .i64 0, .int .i64 0, .int .i64 0, .int .i64 0, .slice none 0 0] rfl rfl rfl rfl rfl rfl rfl ?_
      refine WO.cls (C' := St w0 m m [[⟨b3, 25, [.int .i64 p0_0, .int .i64 p0_1, .int .i64 p0_2, .int .i64 p0_3, .int .i64 p0_4, .slice a_p0_5 p0_5.length c_p0_5]⟩], [⟨b4, 25, [.int .i64 p1_0, .int .i64 p1_1, .int .i64 p1_2, .int .i64 p1_3, .int .i64 p1_4, .slice a_p1_5 p1_5.length c_p1_5]⟩], [⟨b5, 25, [.int .i64 0, .int .i64 0, .int .i64 0, .int .i64 0, .int .i64 0, .slice none 0 0]⟩]]) (fun _ h => h) ?_
      refine WO_pure tbok 1 [(2, .pointer (some ⟨b3, 0, none⟩)), (3, .pointer (some ⟨b4, 0, none⟩)), (4, .pointer (some ⟨b5, 0, none⟩)), (5, .int .i64 y_2)] rfl ⟨rfl, rfl, rfl, rfl, trivial⟩ ?_
      refine WO_end ?_
      cases hm
      exact WK_ret (ret_out (L := []) (RLc_cell tbok 2 rfl rfl rfl (RLc_tmp rfl RLc_nil)) (List.nil_sublist _) ⟨none, 0, 0, rfl, SlR_nil⟩)
    · have hm := ifF hb9 hm
      refine WK_skip ?_
      refine WK_seq ?_
      refine WK_seq ?_
      obtain ⟨s_3, hx10, hm⟩ := bind_some hm
      refine WK_meet [(2, .pointer (some ⟨b3, 0, none⟩)), (3, .pointer (some ⟨b4, 0, none⟩)), (4, .pointer (some ⟨b5, 0, none⟩)), (5, .int .i64 0), (55, .bool s_3)] (St w0 m m [[⟨b3, 25, [.int .i64 p0_0, .int .i64 p0_1, .int .i64 p0_2, .int .i64 p0_3, .int .i64 p0_4, .slice a_p0_5 p0_5.length c_p0_5]⟩], [⟨b4, 25, [.int .i64 p1_0, .int .i64 p1_1, .int .i64 p1_2, .int .i64 p1_3, .int .i64 p1_4, .slice a_p1_5 p1_5.length c_p1_5]⟩], [⟨b5, 25, [.int .i64 0, .int .i64 0, .int .i64 0, .int .i64 0, .int .i64 0, .slice none 0 0]⟩]]) ?_ (fun hk11 => ?_)
      · refine WK_cond (b := s_3) rfl (fun hb12 => ?_) (fun hb12 => ?_)
        · have hm := ifT hb12 hm
          refine WK_seq ?_
          refine WK_region ?_
          refine WO_pure tbok 1 [(2, .pointer (some ⟨b3, 0, none⟩)), (3, .pointer (some ⟨b4, 0, none⟩)), (4, .pointer (some ⟨b5, 0, none⟩)), (5, .int .i64 0), (56, .agg #[.int .i64 0, .int .i64 0, .int .i64 0, .int .i64 0, .int .i64 0, .slice none 0 0])] rfl ⟨rfl, rfl, rfl, rfl, rfl, trivial⟩ ?_
          refine WO_storeB tbok 2 [.int .i64 0, .int .i64 0, .int .i64 0, .int .i64 0, .int .i64 0, .slice none 0 0] rfl rfl rfl rfl rfl rfl rfl ?_
          refine WO.cls (C' := St w0 m m [[⟨b3, 25, [.int .i64 p0_0, .int .i64 p0_1, .int .i64 p0_2, .int .i64 p0_3, .int .i64 p0_4, .slice a_p0_5 p0_5.length c_p0_5]⟩], [⟨b4, 25, [.int .i64 p1_0, .int .i64 p1_1, .int .i64 p1_2, .int .i64 p1_3, .int .i64 p1_4, .slice a_p1_5 p1_5.length c_p1_5]⟩], [⟨b5, 25, [.int .i64 0, .int .i64 0, .int .i64 0, .int .i64 0, .int .i64 0, .slice none 0 0]⟩]]) (fun _ h => h) ?_
          refine WO_pure tbok 1 [(2, .pointer (some ⟨b3, 0, none⟩)), (3, .pointer (some ⟨b4, 0, none⟩)), (4, .pointer (some ⟨b5, 0, none⟩)), (5, .int .i64 4)] rfl ⟨rfl, rfl, rfl, rfl, trivial⟩ ?_
          refine WO_end ?_
          cases hm
          exact WK_ret (ret_out (L := []) (RLc_cell tbok 2 rfl rfl rfl (RLc_tmp rfl RLc_nil)) (List.nil_sublist _) ⟨none, 0, 0, rfl, SlR_nil⟩)
        · have hm := ifF hb12 hm
          refine WK_skip ?_
          refine WK_seq ?_
          refine WK_region ?_
          refine WO_pure tbok 1 [(2, .pointer (some ⟨b3, 0, none⟩)), (3, .pointer (some ⟨b4, 0, none⟩)), (4, .pointer (some ⟨b5, 0, none⟩)), (5, .int .i64 0), (8, .slice none 0 0)] rfl ⟨rfl, rfl, rfl, rfl, rfl, trivial⟩ ?_
          refine WO_end ?_
          refine WK_seq ?_
          refine WK_seq ?_
          refine WK_region ?_
          refine WO_pure tbok 1 [(2, .pointer (some ⟨b3, 0, none⟩)), (3, .pointer (some ⟨b4, 0, none⟩)), (4, .pointer (some ⟨b5, 0, none⟩)), (5, .int .i64 0), (8, .slice none 0 0), (57, .pointer (some ⟨b3, 5, none⟩))] rfl ⟨rfl, rfl, rfl, rfl, rfl, rfl, trivial⟩ ?_
          refine WO_loadB tbok 0 rfl rfl rfl rfl (fun _ h => h) rfl rfl ?_
          refine WO_pure tbok 2 [(2, .pointer (some ⟨b3, 0, none⟩)), (3, .pointer (some ⟨b4, 0, none⟩)), (4, .pointer (some ⟨b5, 0, none⟩)), (5, .int .i64 0), (8, .slice none 0 0), (58, .slice a_p0_5 p0_5.length c_p0_5), (59, .int .i64 (p0_5.length : Int)), (60, .int .i64 0)] rfl ⟨rfl, rfl, rfl, rfl, rfl, rfl, rfl, rfl, trivial⟩ ?_
          refine WO_end ?_
          refine WK_pad ?_
          obtain ⟨x24, hx25, hm⟩ := bind_some hm
          refine WK_join (β := (List Int) × (Option Addr × Nat × Nat × List Ent)) (fun p => Sum.inr p.1 = x24 ∧ OwnE 3 1 (I1 .i64) (.slice p.2.1 p.2.2.1 p.2.2.2.1) p.1 p.2.2.2.2) (fun p => [(2, .pointer (some ⟨b3, 0, none⟩)), (4, .pointer (some ⟨b5, 0, none⟩)), (5, .int .i64 0), (8, .slice p.2.1 p.2.2.1 p.2.2.2.1)]) (fun p => St w0 m m [[⟨b3, 25, [.int .i64 p0_0, .int .i64 p0_1, .int .i64 p0_2, .int .i64 p0_3, .int .i64 p0_4, .slice a_p0_5 p0_5.length c_p0_5]⟩], [⟨b4, 25, [.int .i64 p1_0, .int .i64 p1_1, .int .i64 p1_2, .int .i64 p1_3, .int .i64 p1_4, .slice a_p1_5 p1_5.length c_p1_5]⟩], [⟨b5, 25, [.int .i64 0, .int .i64 0, .int .i64 0, .int .i64 0, .int .i64 0, .slice none 0 0]⟩], p.2.2.2.2]) ?_ (fun hk26 => ?_)
          · rintro ⟨l_6, ⟨a21, q22, c23, L20⟩⟩ ⟨hq32, hL20⟩
            subst hq32
            have hqq : q22 = l_6.length := OwnE.qlen hL20
            subst hqq
            refine WK.sub (e' := [(2, .pointer (some ⟨b3, 0, none⟩)), (4, .pointer (some ⟨b5, 0, none⟩)), (5, .int .i64 0), (8, .slice a21 ((l_6).length) c23)]) ⟨rfl, rfl, rfl, rfl, trivial⟩ (WK.cls (C' := St w0 m m [[⟨b3, 25, [.int .i64 p0_0, .int .i64 p0_1, .int .i64 p0_2, .int .i64 p0_3, .int .i64 p0_4, .slice a_p0_5 p0_5.length c_p0_5]⟩], [⟨b4, 25, [.int .i64 p1_0, .int .i64 p1_1, .int .i64 p1_2, .int .i64 p1_3, .int .i64 p1_4, .slice a_p1_5 p1_5.length c_p1_5]⟩], [⟨b5, 25, [.int .i64 0, .int .i64 0, .int .i64 0, .int .i64 0, .int .i64 0, .slice none 0 0]⟩], L20]) (fun _ h => h) ?_)
            refine WK_seq ?_
            refine WK_region ?_
            refine WO_loadB tbok 0 rfl rfl rfl rfl (fun _ h => h) rfl rfl ?_
            refine WO_pure tbok 1 [(4, .pointer (some ⟨b5, 0, none⟩)), (5, .int .i64 0), (90, .agg #[.int .i64 p0_0, .int .i64 p0_1, .int .i64 p0_2, .int .i64 p0_3, .int .i64 p0_4, .slice a_p0_5 p0_5.length c_p0_5]), (91, .slice a21 ((l_6).length) c23)] rfl ⟨rfl, rfl, rfl, rfl, trivial⟩ ?_
            refine WO_freeze 3 rfl (fun m33 hle34 hmm35 => ?_)
            refine WO.cls (C' := St w0 m m33 [[⟨b3, 25, [.int .i64 p0_0, .int .i64 p0_1, .int .i64 p0_2, .int .i64 p0_3, .int .i64 p0_4, .slice a_p0_5 p0_5.length c_p0_5]⟩], [⟨b4, 25, [.int .i64 p1_0, .int .i64 p1_1, .int .i64 p1_2, .int .i64 p1_3, .int .i64 p1_4, .slice a_p1_5 p1_5.length c_p1_5]⟩], [⟨b5, 25, [.int .i64 0, .int .i64 0, .int .i64 0, .int .i64 0, .int .i64 0, .slice none 0 0]⟩], []]) (fun _ h => h) ?_
            obtain ⟨⟨y_7, y_8, y_9, y_10, y_11, y_12⟩, hc36, hm⟩ := bind_some hm
            refine WO_call2 (fiduciallaw48_with_Q (y_7, y_8, y_9, y_10, y_11, y_12)) rfl rfl trivial rfl rfl rfl rfl ⟨22, #[], #[], rfl, callable_22, fiduciallaw48_with_walk (h_p0_5.mono (mono_FE _) hle34) (OwnE.rd (E := (I1 .i64)) (k := 1) (fun _ => rfl) hL20 hmm35) hc36⟩ (fun v41 m42 L40 hle43 hq => ?_)
            obtain ⟨a37, qa37, c38, rfl, h44⟩ := hq
            obtain rfl := SlR.qlen h44
            refine WO.cls (C' := St w0 m m42 [[⟨b3, 25, [.int .i64 p0_0, .int .i64 p0_1, .int .i64 p0_2, .int .i64 p0_3, .int .i64 p0_4, .slice a_p0_5 p0_5.length c_p0_5]⟩], [⟨b4, 25, [.int .i64 p1_0, .int .i64 p1_1, .int .i64 p1_2, .int .i64 p1_3, .int .i64 p1_4, .slice a_p1_5 p1_5.length c_p1_5]⟩], [⟨b5, 25, [.int .i64 0, .int .i64 0, .int .i64 0, .int .i64 0, .int .i64 0, .slice none 0 0]⟩], [], L40]) (fun _ h => h.sub (by simp)) ?_
            refine WO_storeB tbok 2 [.int .i64 y_7, .int .i64 y_8, .int .i64 y_9, .int .i64 y_10, .int .i64 y_11, .slice a37 ((y_12).length) c38] rfl rfl rfl rfl rfl rfl rfl ?_
            refine WO.cls (C' := St w0 m m42 [[⟨b3, 25, [.int .i64 p0_0, .int .i64 p0_1, .int .i64 p0_2, .int .i64 p0_3, .int .i64 p0_4, .slice a_p0_5 p0_5.length c_p0_5]⟩], [⟨b4, 25, [.int .i64 p1_0, .int .i64 p1_1, .int .i64 p1_2, .int .i64 p1_3, .int .i64 p1_4, .slice a_p1_5 p1_5.length c_p1_5]⟩], [⟨b5, 25, [.int .i64 y_7, .int .i64 y_8, .int .i64 y_9, .int .i64 y_10, .int .i64 y_11, .slice a37 ((y_12).length) c38]⟩], [], L40]) (fun _ h => h) ?_
            refine WO_pure tbok 1 [(4, .pointer (some ⟨b5, 0, none⟩)), (5, .int .i64 0)] rfl ⟨rfl, rfl, trivial⟩ ?_
            refine WO_end ?_
            cases hm
            exact WK_ret (ret_out (L := []) (RLc_cell tbok 2 rfl rfl rfl (RLc_tmp rfl RLc_nil)) (List.nil_sublist _) ⟨a37, _, c38, rfl, h44⟩)
          · refine WK_block ?_
            refine WK_loop (S := List Int × Int) (G := Option Addr × Nat × Nat × List Ent) (fun s => fiduciallaw48_difference_s1 p0_5 p1_5 s.1 s.2) (fun s g => [(2, .pointer (some ⟨b3, 0, none⟩)), (3, .pointer (some ⟨b4, 0, none⟩)), (4, .pointer (some ⟨b5, 0, none⟩)), (5, .int .i64 0), (8, .slice g.1 g.2.1 g.2.2.1), (58, .slice a_p0_5 p0_5.length c_p0_5), (59, .int .i64 (p0_5.length : Int)), (60, .int .i64 s.2)]) (fun s g => St w0 m m [[⟨b3, 25, [.int .i64 p0_0, .int .i64 p0_1, .int .i64 p0_2, .int .i64 p0_3, .int .i64 p0_4, .slice a_p0_5 p0_5.length c_p0_5]⟩], [⟨b4, 25, [.int .i64 p1_0, .int .i64 p1_1, .int .i64 p1_2, .int .i64 p1_3, .int .i64 p1_4, .slice a_p1_5 p1_5.length c_p1_5]⟩], [⟨b5, 25, [.int .i64 0, .int .i64 0, .int .i64 0, .int .i64 0, .int .i64 0, .slice none 0 0]⟩], g.2.2.2]) (fun s g => OwnE 3 1 (I1 .i64) (.slice g.1 g.2.1 g.2.2.1) s.1 g.2.2.2) FUEL (([] : List Int), 0) (none, 0, 0, []) x24 hx25 (OwnE.nil (T := 3) (k := 1) (E := (I1 .i64)) none) ⟨rfl, rfl, rfl, rfl, rfl, rfl, rfl, rfl, trivial⟩ (fun _ h => h) ?_
            rintro ⟨l_4, s_5⟩ ⟨a16, q17, c18, L15⟩ o28 fl29 hm27 hL15 hn30 hd31
            have hm27 : fiduciallaw48_difference_s1 p0_5 p1_5 l_4 s_5 = some o28 := hm27
            unfold fiduciallaw48_difference_s1 at hm27
            have hqq : q17 = l_4.length := OwnE.qlen hL15
            subst hqq
            refine WK.sub (e' := [(2, .pointer (some ⟨b3, 0, none⟩)), (3, .pointer (some ⟨b4, 0, none⟩)), (4, .pointer (some ⟨b5, 0, none⟩)), (5, .int .i64 0), (8, .slice a16 ((l_4).length) c18), (58, .slice a_p0_5 p0_5.length c_p0_5), (59, .int .i64 (p0_5.length : Int)), (60, .int .i64 s_5)]) ⟨rfl, rfl, rfl, rfl, rfl, rfl, rfl, rfl, trivial⟩ (WK.cls (C' := St w0 m m [[⟨b3, 25, [.int .i64 p0_0, .int .i64 p0_1, .int .i64 p0_2, .int .i64 p0_3, .int .i64 p0_4, .slice a_p0_5 p0_5.length c_p0_5]⟩], [⟨b4, 25, [.int .i64 p1_0, .int .i64 p1_1, .int .i64 p1_2, .int .i64 p1_3, .int .i64 p1_4, .slice a_p1_5 p1_5.length c_p1_5]⟩], [⟨b5, 25, [.int .i64 0, .int .i64 0, .int .i64 0, .int .i64 0, .int .i64 0, .slice none 0 0]⟩], L15]) (fun _ h => h) ?_)
            refine WK_seq ?_
            refine WK_region ?_
            refine WO_pure tbok 1 [(2, .pointer (some ⟨b3, 0, none⟩)), (3, .pointer (some ⟨b4, 0, none⟩)), (4, .pointer (some ⟨b5, 0, none⟩)), (5, .int .i64 0), (8, .slice a16 ((l_4).length) c18), (58, .slice a_p0_5 p0_5.length c_p0_5), (59, .int .i64 (p0_5.length : Int)), (60, .int .i64 s_5), (61, .bool (decide (s_5 < (p0_5.length : Int))))] rfl ⟨rfl, rfl, rfl, rfl, rfl, rfl, rfl, rfl, rfl, trivial⟩ ?_
            refine WO_end ?_
            refine WK_seq ?_
            refine WK_cond (b := decide (s_5 < (p0_5.length : Int))) rfl (fun hb45 => ?_) (fun hb45 => ?_)
            · have hm27 := ifT hb45 hm27
              refine WK_skip ?_
              refine WK_seq ?_
              refine WK_block ?_
              refine WK_seq ?_
              refine WK_region ?_
              refine WO_pure tbok 1 [(2, .pointer (some ⟨b3, 0, none⟩)), (3, .pointer (some ⟨b4, 0, none⟩)), (4, .pointer (some ⟨b5, 0, none⟩)), (5, .int .i64 0), (8, .slice a16 ((l_4).length) c18), (58, .slice a_p0_5 p0_5.length c_p0_5), (59, .int .i64 (p0_5.length : Int)), (60, .int .i64 s_5), (62, .int .i64 s_5)] rfl ⟨rfl, rfl, rfl, rfl, rfl, rfl, rfl, rfl, rfl, trivial⟩ ?_
              obtain ⟨v_13, hy46, hm27⟩ := bind_some hm27
              obtain ⟨hc47, hy46⟩ := ix_some hy46
              refine WO_index tbok rfl rfl rfl rfl rfl rfl rfl rfl (SlR.addr h_p0_5) hc47 ?_
              refine WO_loadE tbok rfl rfl rfl rfl (fun _ h => St.sat h) h_p0_5 hy46 rfl ?_
              refine WO_pure tbok 2 [(2, .pointer (some ⟨b3, 0, none⟩)), (3, .pointer (some ⟨b4, 0, none⟩)), (4, .pointer (some ⟨b5, 0, none⟩)), (5, .int .i64 0), (8, .slice a16 ((l_4).length) c18), (9, .int .i64 s_5), (10, .int .i64 v_13), (58, .slice a_p0_5 p0_5.length c_p0_5), (59, .int .i64 (p0_5.length : Int)), (60, .int .i64 s_5)] rfl ⟨rfl, rfl, rfl, rfl, rfl, rfl, rfl, rfl, rfl, rfl, trivial⟩ ?_
              refine WO_end ?_
              refine WK_seq ?_
              refine WK_seq ?_
              obtain ⟨s_14, hx48, hm27⟩ := bind_some hm27
              refine WK_meet [(2, .pointer (some ⟨b3, 0, none⟩)), (3, .pointer (some ⟨b4, 0, none⟩)), (4, .pointer (some ⟨b5, 0, none⟩)), (5, .int .i64 0), (8, .slice a16 ((l_4).length) c18), (9, .int .i64 s_5), (10, .int .i64 v_13), (58, .slice a_p0_5 p0_5.length c_p0_5), (59, .int .i64 (p0_5.length : Int)), (60, .int .i64 s_5), (74, .bool s_14)] (St w0 m m [[⟨b3, 25, [.int .i64 p0_0, .int .i64 p0_1, .int .i64 p0_2, .int .i64 p0_3, .int .i64 p0_4, .slice a_p0_5 p0_5.length c_p0_5]⟩], [⟨b4, 25, [.int .i64 p1_0, .int .i64 p1_1, .int .i64 p1_2, .int .i64 p1_3, .int .i64 p1_4, .slice a_p1_5 p1_5.length c_p1_5]⟩], [⟨b5, 25, [.int .i64 0, .int .i64 0, .int .i64 0, .int .i64 0, .int .i64 0, .slice none 0 0]⟩], L15]) ?_ (fun hk49 => ?_)
              · refine WK_cond (b := s_14) rfl (fun hb50 => ?_) (fun hb50 => ?_)
                · have hm27 := ifT hb50 hm27
                  refine WK_seq ?_
                  refine WK_region ?_
                  refine WO_pure tbok 2 [(2, .pointer (some ⟨b3, 0, none⟩)), (3, .pointer (some ⟨b4, 0, none⟩)), (4, .pointer (some ⟨b5, 0, none⟩)), (5, .int .i64 0), (8, .slice a16 ((l_4).length) c18), (9, .int .i64 s_5), (10, .int .i64 v_13), (58, .slice a_p0_5 p0_5.length c_p0_5), (59, .int .i64 (p0_5.length : Int)), (60, .int .i64 s_5), (75, .int .i64 v_13), (76, .pointer (some ⟨b4, 5, none⟩))] rfl ⟨rfl, rfl, rfl, rfl, rfl, rfl, rfl, rfl, rfl, rfl, rfl, rfl, trivial⟩ ?_
                  refine WO_loadB tbok 1 rfl rfl rfl rfl (fun _ h => h) rfl rfl ?_
                  refine WO_pure tbok 1 [(2, .pointer (some ⟨b3, 0, none⟩)), (3, .pointer (some ⟨b4, 0, none⟩)), (4, .pointer (some ⟨b5, 0, none⟩)), (5, .int .i64 0), (8, .slice a16 ((l_4).length) c18), (10, .int .i64 v_13), (58, .slice a_p0_5 p0_5.length c_p0_5), (59, .int .i64 (p0_5.length : Int)), (60, .int .i64 s_5), (75, .int .i64 v_13), (77, .slice a_p1_5 p1_5.length c_p1_5), (78, .int .i64 s_5)] rfl ⟨rfl, rfl, rfl, rfl, rfl, rfl, rfl, rfl, rfl, rfl, rfl, rfl, trivial⟩ ?_
                  obtain ⟨v_15, hy51, hm27⟩ := bind_some hm27
                  obtain ⟨hc52, hy51⟩ := ix_some hy51
                  refine WO_index tbok rfl rfl rfl rfl rfl rfl rfl rfl (SlR.addr h_p1_5) hc52 ?_
                  refine WO_loadE tbok rfl rfl rfl rfl (fun _ h => St.sat h) h_p1_5 hy51 rfl ?_
                  refine WO_pure tbok 2 [(2, .pointer (some ⟨b3, 0, none⟩)), (3, .pointer (some ⟨b4, 0, none⟩)), (4, .pointer (some ⟨b5, 0, none⟩)), (5, .int .i64 0), (8, .slice a16 ((l_4).length) c18), (10, .int .i64 (w64 (v_13 - v_15))), (58, .slice a_p0_5 p0_5.length c_p0_5), (59, .int .i64 (p0_5.length : Int)), (60, .int .i64 s_5)] rfl ⟨rfl, rfl, rfl, rfl, rfl, rfl, rfl, rfl, rfl, trivial⟩ ?_
                  refine WO_end ?_
                  refine WK_seq ?_
                  refine WK_region ?_
                  refine WO_pure tbok 1 [(2, .pointer (some ⟨b3, 0, none⟩)), (3, .pointer (some ⟨b4, 0, none⟩)), (4, .pointer (some ⟨b5, 0, none⟩)), (5, .int .i64 0), (8, .slice a16 ((l_4).length) c18), (10, .int .i64 (w64 (v_13 - v_15))), (58, .slice a_p0_5 p0_5.length c_p0_5), (59, .int .i64 (p0_5.length : Int)), (60, .int .i64 s_5), (82, .int .i64 (w64 (v_13 - v_15)))] rfl ⟨rfl, rfl, rfl, rfl, rfl, rfl, rfl, rfl, rfl, rfl, trivial⟩ ?_
                  obtain ⟨y_16, hc53, hm27⟩ := bind_some hm27
                  refine WO_call0 (.bool y_16) rfl rfl trivial rfl rfl rfl rfl St_closed ⟨45, #[], #[], rfl, callable_45, fun w hw => ⟨_, hw.sat, fiduciallaw48_far_walk hc53⟩⟩ ?_
                  refine WO_end ?_
                  refine WK_cond (b := y_16) rfl (fun hb54 => ?_) (fun hb54 => ?_)
                  · have hm27 := ifT hb54 hm27
                    refine WK_seq ?_
                    refine WK_region ?_
                    refine WO_pure tbok 1 [(2, .pointer (some ⟨b3, 0, none⟩)), (3, .pointer (some ⟨b4, 0, none⟩)), (4, .pointer (some ⟨b5, 0, none⟩)), (5, .int .i64 0), (8, .slice a16 ((l_4).length) c18), (10, .int .i64 (w64 (v_13 - v_15))), (58, .slice a_p0_5 p0_5.length c_p0_5), (59, .int .i64 (p0_5.length : Int)), (60, .int .i64 s_5), (84, .agg #[.int .i64 0, .int .i64 0, .int .i64 0, .int .i64 0, .int .i64 0, .slice none 0 0])] rfl ⟨rfl, rfl, rfl, rfl, rfl, rfl, rfl, rfl, rfl, rfl, trivial⟩ ?_
                    refine WO_storeB tbok 2 [.int .i64 0, .int .i64 0, .int .i64 0, .int .i64 0, .int .i64 0, .slice none 0 0] rfl rfl rfl rfl rfl rfl rfl ?_
                    refine WO.cls (C' := St w0 m m [[⟨b3, 25, [.int .i64 p0_0, .int .i64 p0_1, .int .i64 p0_2, .int .i64 p0_3, .int .i64 p0_4, .slice a_p0_5 p0_5.length c_p0_5]⟩], [⟨b4, 25, [.int .i64 p1_0, .int .i64 p1_1, .int .i64 p1_2, .int .i64 p1_3, .int .i64 p1_4, .slice a_p1_5 p1_5.length c_p1_5]⟩], [⟨b5, 25, [.int .i64 0, .int .i64 0, .int .i64 0, .int .i64 0, .int .i64 0, .slice none 0 0]⟩], L15]) (fun _ h => h) ?_
                    refine WO_pure tbok 1 [(2, .pointer (some ⟨b3, 0, none⟩)), (3, .pointer (some ⟨b4, 0, none⟩)), (4, .pointer (some ⟨b5, 0, none⟩)), (5, .int .i64 2), (8, .slice a16 ((l_4).length) c18), (10, .int .i64 (w64 (v_13 - v_15))), (58, .slice a_p0_5 p0_5.length c_p0_5), (59, .int .i64 (p0_5.length : Int)), (60, .int .i64 s_5)] rfl ⟨rfl, rfl, rfl, rfl, rfl, rfl, rfl, rfl, rfl, trivial⟩ ?_
                    refine WO_end ?_
                    cases hm27
                    have hq := hd31 _ rfl
                    subst hq
                    have hm : some _ = some _ := hm
                    cases hm
                    exact WK_ret (ret_out (L := []) (RLc_cell tbok 2 rfl rfl rfl (RLc_tmp rfl RLc_nil)) (List.nil_sublist _) ⟨none, 0, 0, rfl, SlR_nil⟩)
                  · have hm27 := ifF hb54 hm27
                    refine WK_skip ?_
                    refine WK_region ?_
                    refine WO_pure tbok 2 [(2, .pointer (some ⟨b3, 0, none⟩)), (3, .pointer (some ⟨b4, 0, none⟩)), (4, .pointer (some ⟨b5, 0, none⟩)), (5, .int .i64 0), (8, .slice a16 ((l_4).length) c18), (58, .slice a_p0_5 p0_5.length c_p0_5), (59, .int .i64 (p0_5.length : Int)), (60, .int .i64 s_5), (85, .slice a16 ((l_4).length) c18), (86, .int .i64 (w64 (v_13 - v_15)))] rfl ⟨rfl, rfl, rfl, rfl, rfl, rfl, rfl, rfl, rfl, rfl, trivial⟩ ?_
                    refine WO_bslice (E := (I1 .i64)) tbok (fun _ => rfl) (by decide) [.int .i64 (w64 (v_13 - v_15))] ([w64 (v_13 - v_15)] : List Int) rfl rfl trivial rfl rfl rfl rfl rfl rfl rfl rfl rfl rfl rfl rfl (fun b55 hb55 => ?_)
                    refine WO.cls (C' := St w0 m m [[⟨b3, 25, [.int .i64 p0_0, .int .i64 p0_1, .int .i64 p0_2, .int .i64 p0_3, .int .i64 p0_4, .slice a_p0_5 p0_5.length c_p0_5]⟩], [⟨b4, 25, [.int .i64 p1_0, .int .i64 p1_1, .int .i64 p1_2, .int .i64 p1_3, .int .i64 p1_4, .slice a_p1_5 p1_5.length c_p1_5]⟩], [⟨b5, 25, [.int .i64 0, .int .i64 0, .int .i64 0, .int .i64 0, .int .i64 0, .slice none 0 0]⟩], L15, [⟨b55, 3, ([w64 (v_13 - v_15)] : List Int).flatMap (I1 .i64)⟩]]) (fun _ h => h) ?_
                    obtain ⟨hc57, hm27⟩ := chk_some hm27
                    refine WO_append (E := (I1 .i64)) tbok (fun _ => rfl) 3 ([w64 (v_13 - v_15)] : List Int) (fun _ _ => rfl) rfl rfl rfl rfl rfl rfl rfl rfl rfl rfl rfl rfl hL15 rfl (src_seg (j := 4) rfl) (ap_ok (by decide) hc57) (ap_max hc57) (fun a58 c59 L60 hL60 => ?_)
                    refine WO.cls (C' := St w0 m m [[⟨b3, 25, [.int .i64 p0_0, .int .i64 p0_1, .int .i64 p0_2, .int .i64 p0_3, .int .i64 p0_4, .slice a_p0_5 p0_5.length c_p0_5]⟩], [⟨b4, 25, [.int .i64 p1_0, .int .i64 p1_1, .int .i64 p1_2, .int .i64 p1_3, .int .i64 p1_4, .slice a_p1_5 p1_5.length c_p1_5]⟩], [⟨b5, 25, [.int .i64 0, .int .i64 0, .int .i64 0, .int .i64 0, .int .i64 0, .slice none 0 0]⟩], L60, [⟨b55, 3, ([w64 (v_13 - v_15)] : List Int).flatMap (I1 .i64)⟩]]) (fun _ h => h) ?_
                    refine WO_pure tbok 1 [(2, .pointer (some ⟨b3, 0, none⟩)), (3, .pointer (some ⟨b4, 0, none⟩)), (4, .pointer (some ⟨b5, 0, none⟩)), (5, .int .i64 0), (8, .slice a58 ((l_4 ++ ([w64 (v_13 - v_15)] : List Int)).length) c59), (58, .slice a_p0_5 p0_5.length c_p0_5), (59, .int .i64 (p0_5.length : Int)), (60, .int .i64 s_5)] rfl ⟨rfl, rfl, rfl, rfl, rfl, rfl, rfl, rfl, trivial⟩ ?_
                    refine WO_end ?_
                    refine WK_blk ?_
                    refine WK_region ?_
                    refine WO_pure tbok 2 [(2, .pointer (some ⟨b3, 0, none⟩)), (3, .pointer (some ⟨b4, 0, none⟩)), (4, .pointer (some ⟨b5, 0, none⟩)), (5, .int .i64 0), (8, .slice a58 ((l_4 ++ ([w64 (v_13 - v_15)] : List Int)).length) c59), (58, .slice a_p0_5 p0_5.length c_p0_5), (59, .int .i64 (p0_5.length : Int)), (60, .int .i64 (w64 (s_5 + 1)))] rfl ⟨rfl, rfl, rfl, rfl, rfl, rfl, rfl, rfl, trivial⟩ ?_
                    refine WO_end ?_
                    cases hm27
                    refine WK.sub ?_ (WK.cls (fun _ h => St.take 4 h) (hn30 _ (a58, (l_4 ++ ([w64 (v_13 - v_15)] : List Int)).length, c59, L60) rfl hL60))
                    exact ⟨rfl, rfl, rfl, rfl, rfl, rfl, rfl, rfl, trivial⟩
                · have hm27 := ifF hb50 hm27
                  refine WK_region ?_
                  refine WO_pure tbok 1 [(2, .pointer (some ⟨b3, 0, none⟩)), (3, .pointer (some ⟨b4, 0, none⟩)), (4, .pointer (some ⟨b5, 0, none⟩)), (5, .int .i64 0), (8, .slice a16 ((l_4).length) c18), (10, .int .i64 (-2147483648)), (58, .slice a_p0_5 p0_5.length c_p0_5), (59, .int .i64 (p0_5.length : Int)), (60, .int .i64 s_5)] rfl ⟨rfl, rfl, rfl, rfl, rfl, rfl, rfl, rfl, rfl, trivial⟩ ?_
                  refine WO_end ?_
                  refine WK_region ?_
                  refine WO_pure tbok 2 [(2, .pointer (some ⟨b3, 0, none⟩)), (3, .pointer (some ⟨b4, 0, none⟩)), (4, .pointer (some ⟨b5, 0, none⟩)), (5, .int .i64 0), (8, .slice a16 ((l_4).length) c18), (58, .slice a_p0_5 p0_5.length c_p0_5), (59, .int .i64 (p0_5.length : Int)), (60, .int .i64 s_5), (85, .slice a16 ((l_4).length) c18), (86, .int .i64 (-2147483648))] rfl ⟨rfl, rfl, rfl, rfl, rfl, rfl, rfl, rfl, rfl, rfl, trivial⟩ ?_
                  refine WO_bslice (E := (I1 .i64)) tbok (fun _ => rfl) (by decide) [.int .i64 (-2147483648)] ([(-2147483648)] : List Int) rfl rfl trivial rfl rfl rfl rfl rfl rfl rfl rfl rfl rfl rfl rfl (fun b62 hb62 => ?_)
                  refine WO.cls (C' := St w0 m m [[⟨b3, 25, [.int .i64 p0_0, .int .i64 p0_1, .int .i64 p0_2, .int .i64 p0_3, .int .i64 p0_4, .slice a_p0_5 p0_5.length c_p0_5]⟩], [⟨b4, 25, [.int .i64 p1_0, .int .i64 p1_1, .int .i64 p1_2, .int .i64 p1_3, .int .i64 p1_4, .slice a_p1_5 p1_5.length c_p1_5]⟩], [⟨b5, 25, [.int .i64 0, .int .i64 0, .int .i64 0, .int .i64 0, .int .i64 0, .slice none 0 0]⟩], L15, [⟨b62, 3, ([(-2147483648)] : List Int).flatMap (I1 .i64)⟩]]) (fun _ h => h) ?_
                  obtain ⟨hc64, hm27⟩ := chk_some hm27
                  refine WO_append (E := (I1 .i64)) tbok (fun _ => rfl) 3 ([(-2147483648)] : List Int) (fun _ _ => rfl) rfl rfl rfl rfl rfl rfl rfl rfl rfl rfl rfl rfl hL15 rfl (src_seg (j := 4) rfl) (ap_ok (by decide) hc64) (ap_max hc64) (fun a65 c66 L67 hL67 => ?_)
                  refine WO.cls (C' := St w0 m m [[⟨b3, 25, [.int .i64 p0_0, .int .i64 p0_1, .int .i64 p0_2, .int .i64 p0_3, .int .i64 p0_4, .slice a_p0_5 p0_5.length c_p0_5]⟩], [⟨b4, 25, [.int .i64 p1_0, .int .i64 p1_1, .int .i64 p1_2, .int .i64 p1_3, .int .i64 p1_4, .slice a_p1_5 p1_5.length c_p1_5]⟩], [⟨b5, 25, [.int .i64 0, .int .i64 0, .int .i64 0, .int .i64 0, .int .i64 0, .slice none 0 0]⟩], L67, [⟨b62, 3, ([(-2147483648)] : List Int).flatMap (I1 .i64)⟩]]) (fun _ h => h) ?_
                  refine WO_pure tbok 1 [(2, .pointer (some ⟨b3, 0, none⟩)), (3, .pointer (some ⟨b4, 0, none⟩)), (4, .pointer (some ⟨b5, 0, none⟩)), (5, .int .i64 0), (8, .slice a65 ((l_4 ++ ([(-2147483648)] : List Int)).length) c66), (58, .slice a_p0_5 p0_5.length c_p0_5), (59, .int .i64 (p0_5.length : Int)), (60, .int .i64 s_5)] rfl ⟨rfl, rfl, rfl, rfl, rfl, rfl, rfl, rfl, trivial⟩ ?_
                  refine WO_end ?_
                  refine WK_blk ?_
                  refine WK_region ?_
                  refine WO_pure tbok 2 [(2, .pointer (some ⟨b3, 0, none⟩)), (3, .pointer (some ⟨b4, 0, none⟩)), (4, .pointer (some ⟨b5, 0, none⟩)), (5, .int .i64 0), (8, .slice a65 ((l_4 ++ ([(-2147483648)] : List Int)).length) c66), (58, .slice a_p0_5 p0_5.length c_p0_5), (59, .int .i64 (p0_5.length : Int)), (60, .int .i64 (w64 (s_5 + 1)))] rfl ⟨rfl, rfl, rfl, rfl, rfl, rfl, rfl, rfl, trivial⟩ ?_
                  refine WO_end ?_
                  cases hm27
                  refine WK.sub ?_ (WK.cls (fun _ h => St.take 4 h) (hn30 _ (a65, (l_4 ++ ([(-2147483648)] : List Int)).length, c66, L67) rfl hL67))
                  exact ⟨rfl, rfl, rfl, rfl, rfl, rfl, rfl, rfl, trivial⟩
              · refine WK_region ?_
                refine WO_pure tbok 3 [(2, .pointer (some ⟨b3, 0, none⟩)), (3, .pointer (some ⟨b4, 0, none⟩)), (4, .pointer (some ⟨b5, 0, none⟩)), (5, .int .i64 0), (8, .slice a16 ((l_4).length) c18), (9, .int .i64 s_5), (10, .int .i64 v_13), (58, .slice a_p0_5 p0_5.length c_p0_5), (59, .int .i64 (p0_5.length : Int)), (60, .int .i64 s_5), (67, .bool (v_13 != (-2147483648)))] rfl ⟨rfl, rfl, rfl, rfl, rfl, rfl, rfl, rfl, rfl, rfl, rfl, trivial⟩ ?_
                refine WO_split (d := 67) (b := v_13 != (-2147483648)) rfl (fun hb69 => ?_) (fun hb69 => ?_)
                · have hx48 := ifT hb69 hx48
                  refine WO_pure tbok 1 [(2, .pointer (some ⟨b3, 0, none⟩)), (3, .pointer (some ⟨b4, 0, none⟩)), (4, .pointer (some ⟨b5, 0, none⟩)), (5, .int .i64 0), (8, .slice a16 ((l_4).length) c18), (9, .int .i64 s_5), (10, .int .i64 v_13), (58, .slice a_p0_5 p0_5.length c_p0_5), (59, .int .i64 (p0_5.length : Int)), (60, .int .i64 s_5), (67, .bool true), (68, .pointer (some ⟨b4, 5, none⟩))] rfl ⟨rfl, rfl, rfl, rfl, rfl, rfl, rfl, rfl, rfl, rfl, rfl, rfl, trivial⟩ ?_
                  refine WO_loadB tbok 1 rfl rfl rfl rfl (fun _ h => h) rfl rfl ?_
                  refine WO_pure tbok 1 [(2, .pointer (some ⟨b3, 0, none⟩)), (3, .pointer (some ⟨b4, 0, none⟩)), (4, .pointer (some ⟨b5, 0, none⟩)), (5, .int .i64 0), (8, .slice a16 ((l_4).length) c18), (9, .int .i64 s_5), (10, .int .i64 v_13), (58, .slice a_p0_5 p0_5.length c_p0_5), (59, .int .i64 (p0_5.length : Int)), (60, .int .i64 s_5), (67, .bool true), (69, .slice a_p1_5 p1_5.length c_p1_5), (70, .int .i64 s_5)] rfl ⟨rfl, rfl, rfl, rfl, rfl, rfl, rfl, rfl, rfl, rfl, rfl, rfl, rfl, trivial⟩ ?_
                  obtain ⟨v_17, hy70, hx48⟩ := bind_some hx48
                  obtain ⟨hc71, hy70⟩ := ix_some hy70
                  refine WO_index tbok rfl rfl rfl rfl rfl rfl rfl rfl (SlR.addr h_p1_5) hc71 ?_
                  refine WO_loadE tbok rfl rfl rfl rfl (fun _ h => St.sat h) h_p1_5 hy70 rfl ?_
                  refine WO_pure tbok 2 [(2, .pointer (some ⟨b3, 0, none⟩)), (3, .pointer (some ⟨b4, 0, none⟩)), (4, .pointer (some ⟨b5, 0, none⟩)), (5, .int .i64 0), (8, .slice a16 ((l_4).length) c18), (9, .int .i64 s_5), (10, .int .i64 v_13), (58, .slice a_p0_5 p0_5.length c_p0_5), (59, .int .i64 (p0_5.length : Int)), (60, .int .i64 s_5), (74, .bool (v_17 != (-2147483648)))] rfl ⟨rfl, rfl, rfl, rfl, rfl, rfl, rfl, rfl, rfl, rfl, rfl, trivial⟩ ?_
                  refine WO_end ?_
                  cases hx48
                  refine WK.sub ?_ (WK.cls (fun _ h => h) hk49)
                  exact ⟨rfl, rfl, rfl, rfl, rfl, rfl, rfl, rfl, rfl, rfl, rfl, trivial⟩
                · have hx48 := ifF hb69 hx48
                  refine WO_pure tbok 7 [(2, .pointer (some ⟨b3, 0, none⟩)), (3, .pointer (some ⟨b4, 0, none⟩)), (4, .pointer (some ⟨b5, 0, none⟩)), (5, .int .i64 0), (8, .slice a16 ((l_4).length) c18), (9, .int .i64 s_5), (10, .int .i64 v_13), (58, .slice a_p0_5 p0_5.length c_p0_5), (59, .int .i64 (p0_5.length : Int)), (60, .int .i64 s_5), (74, .bool false)] rfl ⟨rfl, rfl, rfl, rfl, rfl, rfl, rfl, rfl, rfl, rfl, rfl, trivial⟩ ?_
                  refine WO_end ?_
                  cases hx48
                  refine WK.sub ?_ (WK.cls (fun _ h => h) hk49)
                  exact ⟨rfl, rfl, rfl, rfl, rfl, rfl, rfl, rfl, rfl, rfl, rfl, trivial⟩
            · have hm27 := ifF hb45 hm27
              refine WK_exit rfl ?_
              cases hm27
              refine WK.sub ?_ (WK.cls (fun _ h => h) (hk26 (l_4, (a16, _, c18, L15)) ⟨(hd31 _ rfl), hL15⟩))
              exact ⟨rfl, rfl, rfl, rfl, trivial⟩
      · refine WK_region ?_
        refine WO_pure tbok 1 [(2, .pointer (some ⟨b3, 0, none⟩)), (3, .pointer (some ⟨b4, 0, none⟩)), (4, .pointer (some ⟨b5, 0, none⟩)), (5, .int .i64 0), (23, .pointer (some ⟨b3, 0, none⟩))] rfl ⟨rfl, rfl, rfl, rfl, rfl, trivial⟩ ?_
        refine WO_loadB tbok 0 rfl rfl rfl rfl (fun _ h => h) rfl rfl ?_
        refine WO_pure tbok 1 [(2, .pointer (some ⟨b3, 0, none⟩)), (3, .pointer (some ⟨b4, 0, none⟩)), (4, .pointer (some ⟨b5, 0, none⟩)), (5, .int .i64 0), (24, .int .i64 p0_0), (25, .pointer (some ⟨b4, 0, none⟩))] rfl ⟨rfl, rfl, rfl, rfl, rfl, rfl, trivial⟩ ?_
        refine WO_loadB tbok 1 rfl rfl rfl rfl (fun _ h => h) rfl rfl ?_
        refine WO_pure tbok 2 [(2, .pointer (some ⟨b3, 0, none⟩)), (3, .pointer (some ⟨b4, 0, none⟩)), (4, .pointer (some ⟨b5, 0, none⟩)), (5, .int .i64 0), (28, .bool (p0_0 != p1_0))] rfl ⟨rfl, rfl, rfl, rfl, rfl, trivial⟩ ?_
        refine WO_split (d := 28) (b := p0_0 != p1_0) rfl (fun hb72 => ?_) (fun hb72 => ?_)
        · have hx10 := ifT hb72 hx10
          refine WO_pure tbok 27 [(2, .pointer (some ⟨b3, 0, none⟩)), (3, .pointer (some ⟨b4, 0, none⟩)), (4, .pointer (some ⟨b5, 0, none⟩)), (5, .int .i64 0), (55, .bool true)] rfl ⟨rfl, rfl, rfl, rfl, rfl, trivial⟩ ?_
          refine WO_end ?_
          cases hx10
          refine WK.sub ?_ (WK.cls (fun _ h => h) hk11)
          exact ⟨rfl, rfl, rfl, rfl, rfl, trivial⟩
        · have hx10 := ifF hb72 hx10
          refine WO_pure tbok 1 [(2, .pointer (some ⟨b3, 0, none⟩)), (3, .pointer (some ⟨b4, 0, none⟩)), (4, .pointer (some ⟨b5, 0, none⟩)), (5, .int .i64 0), (28, .bool false), (29, .pointer (some ⟨b3, 1, none⟩))] rfl ⟨rfl, rfl, rfl, rfl, rfl, rfl, trivial⟩ ?_
          refine WO_loadB tbok 0 rfl rfl rfl rfl (fun _ h => h) rfl rfl ?_
          refine WO_pure tbok 1 [(2, .pointer (some ⟨b3, 0, none⟩)), (3, .pointer (some ⟨b4, 0, none⟩)), (4, .pointer (some ⟨b5, 0, none⟩)), (5, .int .i64 0), (28, .bool false), (30, .int .i64 p0_1), (31, .pointer (some ⟨b4, 1, none⟩))] rfl ⟨rfl, rfl, rfl, rfl, rfl, rfl, rfl, trivial⟩ ?_
          refine WO_loadB tbok 1 rfl rfl rfl rfl (fun _ h => h) rfl rfl ?_
          refine WO_pure tbok 3 [(2, .pointer (some ⟨b3, 0, none⟩)), (3, .pointer (some ⟨b4, 0, none⟩)), (4, .pointer (some ⟨b5, 0, none⟩)), (5, .int .i64 0), (35, .bool (p0_1 != p1_1))] rfl ⟨rfl, rfl, rfl, rfl, rfl, trivial⟩ ?_
          refine WO_split (d := 35) (b := p0_1 != p1_1) rfl (fun hb73 => ?_) (fun hb73 => ?_)
          · have hx10 := ifT hb73 hx10
            refine WO_pure tbok 20 [(2, .pointer (some ⟨b3, 0, none⟩)), (3, .pointer (some ⟨b4, 0, none⟩)), (4, .pointer (some ⟨b5, 0, none⟩)), (5, .int .i64 0), (55, .bool true)] rfl ⟨rfl, rfl, rfl, rfl, rfl, trivial⟩ ?_
            refine WO_end ?_
            cases hx10
            refine WK.sub ?_ (WK.cls (fun _ h => h) hk11)
            exact ⟨rfl, rfl, rfl, rfl, rfl, trivial⟩
          · have hx10 := ifF hb73 hx10
            refine WO_pure tbok 1 [(2, .pointer (some ⟨b3, 0, none⟩)), (3, .pointer (some ⟨b4, 0, none⟩)), (4, .pointer (some ⟨b5, 0, none⟩)), (5, .int .i64 0), (35, .bool false), (36, .pointer (some ⟨b3, 2, none⟩))] rfl ⟨rfl, rfl, rfl, rfl, rfl, rfl, trivial⟩ ?_
            refine WO_loadB tbok 0 rfl rfl rfl rfl (fun _ h => h) rfl rfl ?_
            refine WO_pure tbok 1 [(2, .pointer (some ⟨b3, 0, none⟩)), (3, .pointer (some ⟨b4, 0, none⟩)), (4, .pointer (some ⟨b5, 0, none⟩)), (5, .int .i64 0), (35, .bool false), (37, .int .i64 p0_2), (38, .pointer (some ⟨b4, 2, none⟩))] rfl ⟨rfl, rfl, rfl, rfl, rfl, rfl, rfl, trivial⟩ ?_
            refine WO_loadB tbok 1 rfl rfl rfl rfl (fun _ h => h) rfl rfl ?_
            refine WO_pure tbok 3 [(2, .pointer (some ⟨b3, 0, none⟩)), (3, .pointer (some ⟨b4, 0, none⟩)), (4, .pointer (some ⟨b5, 0, none⟩)), (5, .int .i64 0), (42, .bool (p0_2 != p1_2))] rfl ⟨rfl, rfl, rfl, rfl, rfl, trivial⟩ ?_
            refine WO_split (d := 42) (b := p0_2 != p1_2) rfl (fun hb74 => ?_) (fun hb74 => ?_)
            · have hx10 := ifT hb74 hx10
              refine WO_pure tbok 13 [(2, .pointer (some ⟨b3, 0, none⟩)), (3, .pointer (some ⟨b4, 0, none⟩)), (4, .pointer (some ⟨b5, 0, none⟩)), (5, .int .i64 0), (55, .bool true)] rfl ⟨rfl, rfl, rfl, rfl, rfl, trivial⟩ ?_
              refine WO_end ?_
              cases hx10
              refine WK.sub ?_ (WK.cls (fun _ h => h) hk11)
              exact ⟨rfl, rfl, rfl, rfl, rfl, trivial⟩
            · have hx10 := ifF hb74 hx10
              refine WO_pure tbok 1 [(2, .pointer (some ⟨b3, 0, none⟩)), (3, .pointer (some ⟨b4, 0, none⟩)), (4, .pointer (some ⟨b5, 0, none⟩)), (5, .int .i64 0), (42, .bool false), (43, .pointer (some ⟨b3, 3, none⟩))] rfl ⟨rfl, rfl, rfl, rfl, rfl, rfl, trivial⟩ ?_
              refine WO_loadB tbok 0 rfl rfl rfl rfl (fun _ h => h) rfl rfl ?_
              refine WO_pure tbok 1 [(2, .pointer (some ⟨b3, 0, none⟩)), (3, .pointer (some ⟨b4, 0, none⟩)), (4, .pointer (some ⟨b5, 0, none⟩)), (5, .int .i64 0), (42, .bool false), (44, .int .i64 p0_3), (45, .pointer (some ⟨b4, 3, none⟩))] rfl ⟨rfl, rfl, rfl, rfl, rfl, rfl, rfl, trivial⟩ ?_
              refine WO_loadB tbok 1 rfl rfl rfl rfl (fun _ h => h) rfl rfl ?_
              refine WO_pure tbok 3 [(2, .pointer (some ⟨b3, 0, none⟩)), (3, .pointer (some ⟨b4, 0, none⟩)), (4, .pointer (some ⟨b5, 0, none⟩)), (5, .int .i64 0), (49, .bool (p0_3 != p1_3))] rfl ⟨rfl, rfl, rfl, rfl, rfl, trivial⟩ ?_
              refine WO_split (d := 49) (b := p0_3 != p1_3) rfl (fun hb75 => ?_) (fun hb75 => ?_)
              · have hx10 := ifT hb75 hx10
                refine WO_pure tbok 6 [(2, .pointer (some ⟨b3, 0, none⟩)), (3, .pointer (some ⟨b4, 0, none⟩)), (4, .pointer (some ⟨b5, 0, none⟩)), (5, .int .i64 0), (55, .bool true)] rfl ⟨rfl, rfl, rfl, rfl, rfl, trivial⟩ ?_
                refine WO_end ?_
                cases hx10
                refine WK.sub ?_ (WK.cls (fun _ h => h) hk11)
                exact ⟨rfl, rfl, rfl, rfl, rfl, trivial⟩
              · have hx10 := ifF hb75 hx10
                refine WO_pure tbok 1 [(2, .pointer (some ⟨b3, 0, none⟩)), (3, .pointer (some ⟨b4, 0, none⟩)), (4, .pointer (some ⟨b5, 0, none⟩)), (5, .int .i64 0), (49, .bool false), (50, .pointer (some ⟨b3, 4, none⟩))] rfl ⟨rfl, rfl, rfl, rfl, rfl, rfl, trivial⟩ ?_
                refine WO_loadB tbok 0 rfl rfl rfl rfl (fun _ h => h) rfl rfl ?_
                refine WO_pure tbok 1 [(2, .pointer (some ⟨b3, 0, none⟩)), (3, .pointer (some ⟨b4, 0, none⟩)), (4, .pointer (some ⟨b5, 0, none⟩)), (5, .int .i64 0), (49, .bool false), (51, .int .i64 p0_4), (52, .pointer (some ⟨b4, 4, none⟩))] rfl ⟨rfl, rfl, rfl, rfl, rfl, rfl, rfl, trivial⟩ ?_
                refine WO_loadB tbok 1 rfl rfl rfl rfl (fun _ h => h) rfl rfl ?_
                refine WO_pure tbok 2 [(2, .pointer (some ⟨b3, 0, none⟩)), (3, .pointer (some ⟨b4, 0, none⟩)), (4, .pointer (some ⟨b5, 0, none⟩)), (5, .int .i64 0), (55, .bool (p0_4 != p1_4))] rfl ⟨rfl, rfl, rfl, rfl, rfl, trivial⟩ ?_
                refine WO_end ?_
                cases hx10
                refine WK.sub ?_ (WK.cls (fun _ h => h) hk11)
                exact ⟨rfl, rfl, rfl, rfl, rfl, trivial⟩
theorem fiduciallaw48_TerrainDifferences_walk {m : Mu} {p0_0 : Int} {p0_1 : Int} {p0_2 : Int} {p0_3 : Int} {p0_4 : Int} {p0_5 : List Int} {p1_0 : Int} {p1_1 : Int} {p1_2 : Int} {p1_3 : Int} {p1_4 : Int} {p1_5 : List Int} {a_p0_5 : Option Addr} {q_p0_5 c_p0_5 : Nat} {a_p1_5 : Option Addr} {q_p1_5 c_p1_5 : Nat} (h_p0_5 : SlR (FE (I1 .i64)) 1 m (.slice a_p0_5 q_p0_5 c_p0_5) p0_5) (h_p1_5 : SlR (FE (I1 .i64)) 1 m (.slice a_p1_5 q_p1_5 c_p1_5) p1_5) {r : Bool} (hm : fiduciallaw48_TerrainDifferences p0_0 p0_1 p0_2 p0_3 p0_4 p0_5 p1_0 p1_1 p1_2 p1_3 p1_4 p1_5 = some r) :
    Go.E.Spec Try.prog 9 [.agg #[.int .i64 p0_0, .int .i64 p0_1, .int .i64 p0_2, .int .i64 p0_3, .int .i64 p0_4, .slice a_p0_5 q_p0_5 c_p0_5], .agg #[.int .i64 p1_0, .int .i64 p1_1, .int .i64 p1_2, .int .i64 p1_3, .int .i64 p1_4, .slice a_p1_5 q_p1_5 c_p1_5]] m (fun v _ _ => v = .bool r) := by
  refine Spec_enter Try.func9 rfl rfl rfl (fun w0 => ?_)
  refine WK.sub (e' := [(0, .agg #[.int .i64 p0_0, .int .i64 p0_1, .int .i64 p0_2, .int .i64 p0_3, .int .i64 p0_4, .slice a_p0_5 q_p0_5 c_p0_5]), (1, .agg #[.int .i64 p1_0, .int .i64 p1_1, .int .i64 p1_2, .int .i64 p1_3, .int .i64 p1_4, .slice a_p1_5 q_p1_5 c_p1_5])]) ⟨rfl, rfl, trivial⟩ ?_
  obtain rfl := SlR.qlen h_p0_5
  obtain rfl := SlR.qlen h_p1_5
  refine WK.sub (e' := [(0, .agg #[.int .i64 p0_0, .int .i64 p0_1, .int .i64 p0_2, .int .i64 p0_3, .int .i64 p0_4, .slice a_p0_5 p0_5.length c_p0_5]), (1, .agg #[.int .i64 p1_0, .int .i64 p1_1, .int .i64 p1_2, .int .i64 p1_3, .int .i64 p1_4, .slice a_p1_5 p1_5.length c_p1_5])]) ⟨rfl, rfl, trivial⟩ ?_
  unfold fiduciallaw48_TerrainDifferences at hm
  refine WK_seq ?_
  refine WK_region ?_
  refine WO_box [.int .i64 p0_0, .int .i64 p0_1, .int .i64 p0_2, .int .i64 p0_3, .int .i64 p0_4, .slice a_p0_5 p0_5.length c_p0_5] rfl rfl trivial rfl rfl rfl (fun b3 => ?_)
  refine WO.cls (C' := St w0 m m [[⟨b3, 25, [.int .i64 p0_0, .int .i64 p0_1, .int .i64 p0_2, .int .i64 p0_3, .int .i64 p0_4, .slice a_p0_5 p0_5.length c_p0_5]⟩]]) (fun _ h => h) ?_
  refine WO_box [.int .i64 p1_0, .int .i64 p1_1, .int .i64 p1_2, .int .i64 p1_3, .int .i64 p1_4, .slice a_p1_5 p1_5.length c_p1_5] rfl rfl trivial rfl rfl rfl (fun b4 => ?_)
  refine WO.cls (C' := St w0 m m [[⟨b3, 25, [.int .i64 p0_0, .int .i64 p0_1, .int .i64 p0_2, .int .i64 p0_3, .int .i64 p0_4, .slice a_p0_5 p0_5.length c_p0_5]⟩], [⟨b4, 25, [.int .i64 p1_0, .int .i64 p1_1, .int .i64 p1_2, .int .i64 p1_3, .int .i64 p1_4, .slice a_p1_5 p1_5.length c_p1_5]⟩]]) (fun _ h => h) ?_
  refine WO_pure tbok 1 [(2, .pointer (some ⟨b3, 0, none⟩)), (3, .pointer (some ⟨b4, 0, none⟩)), (4, .bool false)] rfl ⟨rfl, rfl, rfl, trivial⟩ ?_
  refine WO_end ?_
  refine WK_seq ?_
  refine WK_seq ?_
  refine WK_region ?_
  obtain ⟨y_1, hc5, hm⟩ := bind_some hm
  refine WO_call0 (.bool y_1) rfl rfl trivial rfl rfl rfl rfl St_closed ⟨11, #[], #[], rfl, callable_11, fun w hw => ⟨_, hw.sat, fiduciallaw48_known_walk hc5⟩⟩ ?_
  refine WO_pure tbok 1 [(2, .pointer (some ⟨b3, 0, none⟩)), (3, .pointer (some ⟨b4, 0, none⟩)), (4, .bool false), (10, .bool (!y_1))] rfl ⟨rfl, rfl, rfl, rfl, trivial⟩ ?_
  refine WO_end ?_
  refine WK_cond (b := !y_1) rfl (fun hb6 => ?_) (fun hb6 => ?_)
  · have hm := ifT hb6 hm
    refine WK_seq ?_
    refine WK_region ?_
    refine WO_pure tbok 1 [(2, .pointer (some ⟨b3, 0, none⟩)), (3, .pointer (some ⟨b4, 0, none⟩)), (4, .bool false)] rfl ⟨rfl, rfl, rfl, trivial⟩ ?_
    refine WO_end ?_
    cases hm
    exact WK_ret (ret_out (L := []) (RLc_tmp rfl RLc_nil) (List.nil_sublist _) rfl)
  · have hm := ifF hb6 hm
    refine WK_skip ?_
    refine WK_seq ?_
    refine WK_seq ?_
    obtain ⟨s_2, hx7, hm⟩ := bind_some hm
    refine WK_meet [(2, .pointer (some ⟨b3, 0, none⟩)), (3, .pointer (some ⟨b4, 0, none⟩)), (4, .bool false), (18, .bool s_2)] (St w0 m m [[⟨b3, 25, [.int .i64 p0_0, .int .i64 p0_1, .int .i64 p0_2, .int .i64 p0_3, .int .i64 p0_4, .slice a_p0_5 p0_5.length c_p0_5]⟩], [⟨b4, 25, [.int .i64 p1_0, .int .i64 p1_1, .int .i64 p1_2, .int .i64 p1_3, .int .i64 p1_4, .slice a_p1_5 p1_5.length c_p1_5]⟩]]) ?_ (fun hk8 => ?_)
    · refine WK_cond (b := s_2) rfl (fun hb9 => ?_) (fun hb9 => ?_)
      · have hm := ifT hb9 hm
        refine WK_seq ?_
        refine WK_region ?_
        refine WO_pure tbok 1 [(2, .pointer (some ⟨b3, 0, none⟩)), (3, .pointer (some ⟨b4, 0, none⟩)), (4, .bool true)] rfl ⟨rfl, rfl, rfl, trivial⟩ ?_
        refine WO_end ?_
        cases hm
        exact WK_ret (ret_out (L := []) (RLc_tmp rfl RLc_nil) (List.nil_sublist _) rfl)
      · have hm := ifF hb9 hm
        refine WK_skip ?_
        refine WK_seq ?_
        refine WK_region ?_
        refine WO_loadB tbok 0 rfl rfl rfl rfl (fun _ h => h) rfl rfl ?_
        refine WO_loadB tbok 1 rfl rfl rfl rfl (fun _ h => h) rfl rfl ?_
        obtain ⟨⟨y_3, y_4, y_5, y_6, y_7, y_8, y_9⟩, hc10, hm⟩ := bind_some hm
        refine WO_call2 (terrain_Difference_Q (y_3, y_4, y_5, y_6, y_7, y_8, y_9)) rfl rfl trivial rfl rfl rfl rfl ⟨31, #[], #[], rfl, callable_31, terrain_Difference_walk h_p0_5 h_p1_5 hc10⟩ (fun v15 m16 L14 hle17 hq => ?_)
        obtain ⟨a11, qa11, c12, rfl, h18⟩ := hq
        obtain rfl := SlR.qlen h18
        refine WO.cls (C' := St w0 m m16 [[⟨b3, 25, [.int .i64 p0_0, .int .i64 p0_1, .int .i64 p0_2, .int .i64 p0_3, .int .i64 p0_4, .slice a_p0_5 p0_5.length c_p0_5]⟩], [⟨b4, 25, [.int .i64 p1_0, .int .i64 p1_1, .int .i64 p1_2, .int .i64 p1_3, .int .i64 p1_4, .slice a_p1_5 p1_5.length c_p1_5]⟩], L14]) (fun _ h => h.sub (by simp)) ?_
        refine WO_pure tbok 3 [(2, .pointer (some ⟨b3, 0, none⟩)), (3, .pointer (some ⟨b4, 0, none⟩)), (4, .bool false), (23, .agg #[.int .i64 y_3, .int .i64 y_4, .int .i64 y_5, .int .i64 y_6, .int .i64 y_7, .slice a11 ((y_8).length) c12]), (24, .int .i64 y_9)] rfl ⟨rfl, rfl, rfl, rfl, rfl, trivial⟩ ?_
        refine WO_alloc tbok [.int .i64 0, .int .i64 0, .int .i64 0, .int .i64 0, .int .i64 0, .slice none 0 0] rfl rfl trivial rfl rfl rfl rfl (fun b19 => ?_)
        refine WO.cls (C' := St w0 m m16 [[⟨b3, 25, [.int .i64 p0_0, .int .i64 p0_1, .int .i64 p0_2, .int .i64 p0_3, .int .i64 p0_4, .slice a_p0_5 p0_5.length c_p0_5]⟩], [⟨b4, 25, [.int .i64 p1_0, .int .i64 p1_1, .int .i64 p1_2, .int .i64 p1_3, .int .i64 p1_4, .slice a_p1_5 p1_5.length c_p1_5]⟩], L14, [⟨b19, 25, [.int .i64 0, .int .i64 0, .int .i64 0, .int .i64 0, .int .i64 0, .slice none 0 0]⟩]]) (fun _ h => h) ?_
        refine WO_storeB tbok 3 [.int .i64 y_3, .int .i64 y_4, .int .i64 y_5, .int .i64 y_6, .int .i64 y_7, .slice a11 ((y_8).length) c12] rfl rfl rfl rfl rfl rfl rfl ?_
        refine WO.cls (C' := St w0 m m16 [[⟨b3, 25, [.int .i64 p0_0, .int .i64 p0_1, .int .i64 p0_2, .int .i64 p0_3, .int .i64 p0_4, .slice a_p0_5 p0_5.length c_p0_5]⟩], [⟨b4, 25, [.int .i64 p1_0, .int .i64 p1_1, .int .i64 p1_2, .int .i64 p1_3, .int .i64 p1_4, .slice a_p1_5 p1_5.length c_p1_5]⟩], L14, [⟨b19, 25, [.int .i64 y_3, .int .i64 y_4, .int .i64 y_5, .int .i64 y_6, .int .i64 y_7, .slice a11 ((y_8).length) c12]⟩]]) (fun _ h => h) ?_
        refine WO_pure tbok 1 [(2, .pointer (some ⟨b3, 0, none⟩)), (3, .pointer (some ⟨b4, 0, none⟩)), (4, .bool false), (5, .pointer (some ⟨b19, 0, none⟩)), (6, .int .i64 y_9)] rfl ⟨rfl, rfl, rfl, rfl, rfl, trivial⟩ ?_
        refine WO_end ?_
        refine WK_seq ?_
        refine WK_region ?_
        refine WO_loadB tbok 0 rfl rfl rfl rfl (fun _ h => h) rfl rfl ?_
        refine WO_loadB tbok 1 rfl rfl rfl rfl (fun _ h => h) rfl rfl ?_
        obtain ⟨⟨y_10, y_11, y_12, y_13, y_14, y_15, y_16⟩, hc20, hm⟩ := bind_some hm
        refine WO_call2 (fiduciallaw48_difference_Q (y_10, y_11, y_12, y_13, y_14, y_15, y_16)) rfl rfl trivial rfl rfl rfl rfl ⟨32, #[], #[], rfl, callable_32, fiduciallaw48_difference_walk (h_p0_5.mono (mono_FE _) hle17) (h_p1_5.mono (mono_FE _) hle17) hc20⟩ (fun v25 m26 L24 hle27 hq => ?_)
        obtain ⟨a21, qa21, c22, rfl, h28⟩ := hq
        obtain rfl := SlR.qlen h28
        refine WO.cls (C' := St w0 m m26 [[⟨b3, 25, [.int .i64 p0_0, .int .i64 p0_1, .int .i64 p0_2, .int .i64 p0_3, .int .i64 p0_4, .slice a_p0_5 p0_5.length c_p0_5]⟩], [⟨b4, 25, [.int .i64 p1_0, .int .i64 p1_1, .int .i64 p1_2, .int .i64 p1_3, .int .i64 p1_4, .slice a_p1_5 p1_5.length c_p1_5]⟩], L14, [⟨b19, 25, [.int .i64 y_3, .int .i64 y_4, .int .i64 y_5, .int .i64 y_6, .int .i64 y_7, .slice a11 ((y_8).length) c12]⟩], L24]) (fun _ h => h.sub (by simp)) ?_
        refine WO_pure tbok 3 [(4, .bool false), (5, .pointer (some ⟨b19, 0, none⟩)), (6, .int .i64 y_9), (29, .agg #[.int .i64 y_10, .int .i64 y_11, .int .i64 y_12, .int .i64 y_13, .int .i64 y_14, .slice a21 ((y_15).length) c22]), (30, .int .i64 y_16)] rfl ⟨rfl, rfl, rfl, rfl, rfl, trivial⟩ ?_
        refine WO_alloc tbok [.int .i64 0, .int .i64 0, .int .i64 0, .int .i64 0, .int .i64 0, .slice none 0 0] rfl rfl trivial rfl rfl rfl rfl (fun b29 => ?_)
        refine WO.cls (C' := St w0 m m26 [[⟨b3, 25, [.int .i64 p0_0, .int .i64 p0_1, .int .i64 p0_2, .int .i64 p0_3, .int .i64 p0_4, .slice a_p0_5 p0_5.length c_p0_5]⟩], [⟨b4, 25, [.int .i64 p1_0, .int .i64 p1_1, .int .i64 p1_2, .int .i64 p1_3, .int .i64 p1_4, .slice a_p1_5 p1_5.length c_p1_5]⟩], L14, [⟨b19, 25, [.int .i64 y_3, .int .i64 y_4, .int .i64 y_5, .int .i64 y_6, .int .i64 y_7, .slice a11 ((y_8).length) c12]⟩], L24, [⟨b29, 25, [.int .i64 0, .int .i64 0, .int .i64 0, .int .i64 0, .int .i64 0, .slice none 0 0]⟩]]) (fun _ h => h) ?_
        refine WO_storeB tbok 5 [.int .i64 y_10, .int .i64 y_11, .int .i64 y_12, .int .i64 y_13, .int .i64 y_14, .slice a21 ((y_15).length) c22] rfl rfl rfl rfl rfl rfl rfl ?_
        refine WO.cls (C' := St w0 m m26 [[⟨b3, 25, [.int .i64 p0_0, .int .i64 p0_1, .int .i64 p0_2, .int .i64 p0_3, .int .i64 p0_4, .slice a_p0_5 p0_5.length c_p0_5]⟩], [⟨b4, 25, [.int .i64 p1_0, .int .i64 p1_1, .int .i64 p1_2, .int .i64 p1_3, .int .i64 p1_4, .slice a_p1_5 p1_5.length c_p1_5]⟩], L14, [⟨b19, 25, [.int .i64 y_3, .int .i64 y_4, .int .i64 y_5, .int .i64 y_6, .int .i64 y_7, .slice a11 ((y_8).length) c12]⟩], L24, [⟨b29, 25, [.int .i64 y_10, .int .i64 y_11, .int .i64 y_12, .int .i64 y_13, .int .i64 y_14, .slice a21 ((y_15).length) c22]⟩]]) (fun _ h => h) ?_
        refine WO_pure tbok 1 [(4, .bool false), (5, .pointer (some ⟨b19, 0, none⟩)), (6, .int .i64 y_9), (7, .pointer (some ⟨b29, 0, none⟩)), (8, .int .i64 y_16)] rfl ⟨rfl, rfl, rfl, rfl, rfl, trivial⟩ ?_
        refine WO_end ?_
        refine WK_seq ?_
        refine WK_region ?_
        refine WO_pure tbok 4 [(4, .bool false), (5, .pointer (some ⟨b19, 0, none⟩)), (7, .pointer (some ⟨b29, 0, none⟩)), (34, .bool (y_9 == y_16))] rfl ⟨rfl, rfl, rfl, rfl, trivial⟩ ?_
        refine WO_split (d := 34) (b := y_9 == y_16) rfl (fun hb30 => ?_) (fun hb30 => ?_)
        · have hm := ifT hb30 hm
          refine WO_loadB tbok 3 rfl rfl rfl rfl (fun _ h => h) rfl rfl ?_
          refine WO_loadB tbok 5 rfl rfl rfl rfl (fun _ h => h) rfl rfl ?_
          obtain ⟨y_17, hc31, hm⟩ := bind_some hm
          refine WO_call0 (.bool y_17) rfl rfl trivial rfl rfl rfl rfl St_closed ⟨15, #[], #[], rfl, callable_15, fun w hw => ⟨_, hw.sat, fiduciallaw48_same_walk (h18.mono (mono_FE _) hle27) h28 hc31⟩⟩ ?_
          refine WO_pure tbok 2 [(4, .bool y_17)] rfl ⟨rfl, trivial⟩ ?_
          refine WO_end ?_
          cases hm
          exact WK_ret (ret_out (L := []) (RLc_tmp rfl RLc_nil) (List.nil_sublist _) rfl)
        · have hm := ifF hb30 hm
          refine WO_pure tbok 2 [(4, .bool false), (34, .bool false)] rfl ⟨rfl, rfl, trivial⟩ ?_
          refine WO_skip rfl rfl ?_
          refine WO_pure tbok 2 [(4, .bool false)] rfl ⟨rfl, trivial⟩ ?_
          refine WO_end ?_
          cases hm
          exact WK_ret (ret_out (L := []) (RLc_tmp rfl RLc_nil) (List.nil_sublist _) rfl)
    · refine WK_region ?_
      refine WO_loadB tbok 0 rfl rfl rfl rfl (fun _ h => h) rfl rfl ?_
      obtain ⟨y_18, hc32, hx7⟩ := bind_some hx7
      refine WO_call0 (.bool y_18) rfl rfl trivial rfl rfl rfl rfl St_closed ⟨12, #[], #[], rfl, callable_12, fun w hw => ⟨_, hw.sat, fiduciallaw48_few_walk h_p0_5 hc32⟩⟩ ?_
      refine WO_pure tbok 2 [(2, .pointer (some ⟨b3, 0, none⟩)), (3, .pointer (some ⟨b4, 0, none⟩)), (4, .bool false), (14, .bool (!y_18))] rfl ⟨rfl, rfl, rfl, rfl, trivial⟩ ?_
      refine WO_split (d := 14) (b := !y_18) rfl (fun hb33 => ?_) (fun hb33 => ?_)
      · have hx7 := ifT hb33 hx7
        refine WO_pure tbok 1 [(2, .pointer (some ⟨b3, 0, none⟩)), (3, .pointer (some ⟨b4, 0, none⟩)), (4, .bool false), (14, .bool true)] rfl ⟨rfl, rfl, rfl, rfl, trivial⟩ ?_
        refine WO_skip rfl rfl ?_
        refine WO_pure tbok 2 [(2, .pointer (some ⟨b3, 0, none⟩)), (3, .pointer (some ⟨b4, 0, none⟩)), (4, .bool false), (18, .bool true)] rfl ⟨rfl, rfl, rfl, rfl, trivial⟩ ?_
        refine WO_end ?_
        cases hx7
        refine WK.sub ?_ (WK.cls (fun _ h => h) hk8)
        exact ⟨rfl, rfl, rfl, rfl, trivial⟩
      · have hx7 := ifF hb33 hx7
        refine WO_loadB tbok 1 rfl rfl rfl rfl (fun _ h => h) rfl rfl ?_
        obtain ⟨y_19, hc34, hx7⟩ := bind_some hx7
        refine WO_call0 (.bool y_19) rfl rfl trivial rfl rfl rfl rfl St_closed ⟨12, #[], #[], rfl, callable_12, fun w hw => ⟨_, hw.sat, fiduciallaw48_few_walk h_p1_5 hc34⟩⟩ ?_
        refine WO_pure tbok 2 [(2, .pointer (some ⟨b3, 0, none⟩)), (3, .pointer (some ⟨b4, 0, none⟩)), (4, .bool false), (18, .bool (!y_19))] rfl ⟨rfl, rfl, rfl, rfl, trivial⟩ ?_
        refine WO_end ?_
        cases hx7
        refine WK.sub ?_ (WK.cls (fun _ h => h) hk8)
        exact ⟨rfl, rfl, rfl, rfl, trivial⟩
def terrain_Keep_Q (r : Int × Int × Int × Int × Int × List Int × Int) : Value → Mu → List Ent → Prop := fun v m L => ∃ (a0 : Option Addr) (q0 c0 : Nat), v = .tuple #[.agg #[.int .i64 r.1, .int .i64 r.2.1, .int .i64 r.2.2.1, .int .i64 r.2.2.2.1, .int .i64 r.2.2.2.2.1, .slice a0 q0 c0], .int .i64 r.2.2.2.2.2.2] ∧ SlR (FE (I1 .i64)) 1 m (.slice a0 q0 c0) r.2.2.2.2.2.1
theorem terrain_Keep_walk {m : Mu} {p0_0 : Int} {p0_1 : Int} {p0_2 : Int} {p0_3 : Int} {p0_4 : Int} {p0_5 : List Int} {p1 : List Bool} {a_p0_5 : Option Addr} {q_p0_5 c_p0_5 : Nat} {a_p1 : Option Addr} {q_p1 c_p1 : Nat} (h_p0_5 : SlR (FE (I1 .i64)) 1 m (.slice a_p0_5 q_p0_5 c_p0_5) p0_5) (h_p1 : SlR (FE B1) 1 m (.slice a_p1 q_p1 c_p1) p1) {r : Int × Int × Int × Int × Int × List Int × Int} (hm : terrain_Keep p0_0 p0_1 p0_2 p0_3 p0_4 p0_5 p1 = some r) :
    Go.E.Spec Try.prog 33 [.agg #[.int .i64 p0_0, .int .i64 p0_1, .int .i64 p0_2, .int .i64 p0_3, .int .i64 p0_4, .slice a_p0_5 q_p0_5 c_p0_5], .slice a_p1 q_p1 c_p1] m (terrain_Keep_Q r) := by
  refine Spec_enter Try.func33 rfl rfl rfl (fun w0 => ?_)
  refine WK.sub (e' := [(0, .agg #[.int .i64 p0_0, .int .i64 p0_1, .int .i64 p0_2, .int .i64 p0_3, .int .i64 p0_4, .slice a_p0_5 q_p0_5 c_p0_5]), (1, .slice a_p1 q_p1 c_p1)]) ⟨rfl, rfl, trivial⟩ ?_
  obtain rfl := SlR.qlen h_p0_5
  obtain rfl := SlR.qlen h_p1
  refine WK.sub (e' := [(0, .agg #[.int .i64 p0_0, .int .i64 p0_1, .int .i64 p0_2, .int .i64 p0_3, .int .i64 p0_4, .slice a_p0_5 p0_5.length c_p0_5]), (1, .slice a_p1 p1.length c_p1)]) ⟨rfl, rfl, trivial⟩ ?_
  unfold terrain_Keep at hm
  refine WK_seq ?_
  refine WK_region ?_
  refine WO_box [.int .i64 p0_0, .int .i64 p0_1, .int .i64 p0_2, .int .i64 p0_3, .int .i64 p0_4, .slice a_p0_5 p0_5.length c_p0_5] rfl rfl trivial rfl rfl rfl (fun b3 => ?_)
  refine WO.cls (C' := St w0 m m [[⟨b3, 25, [.int .i64 p0_0, .int .i64 p0_1, .int .i64 p0_2, .int .i64 p0_3, .int .i64 p0_4, .slice a_p0_5 p0_5.length c_p0_5]⟩]]) (fun _ h => h) ?_
  refine WO_alloc tbok [.int .i64 0, .int .i64 0, .int .i64 0, .int .i64 0, .int .i64 0, .slice none 0 0] rfl rfl trivial rfl rfl rfl rfl (fun b4 => ?_)
  refine WO.cls (C' := St w0 m m [[⟨b3, 25, [.int .i64 p0_0, .int .i64 p0_1, .int .i64 p0_2, .int .i64 p0_3, .int .i64 p0_4, .slice a_p0_5 p0_5.length c_p0_5]⟩], [⟨b4, 25, [.int .i64 0, .int .i64 0, .int .i64 0, .int .i64 0, .int .i64 0, .slice none 0 0]⟩]]) (fun _ h => h) ?_
  refine WO_pure tbok 1 [(1, .slice a_p1 p1.length c_p1), (2, .pointer (some ⟨b3, 0, none⟩)), (4, .pointer (some ⟨b4, 0, none⟩)), (5, .int .i64 0)] rfl ⟨rfl, rfl, rfl, rfl, trivial⟩ ?_
  refine WO_end ?_
  refine WK_seq ?_
  refine WK_seq ?_
  refine WK_region ?_
  refine WO_loadB tbok 0 rfl rfl rfl rfl (fun _ h => h) rfl rfl ?_
  obtain ⟨y_1, hc5, hm⟩ := bind_some hm
  refine WO_call0 (.int .i64 y_1) rfl rfl trivial rfl rfl rfl rfl St_closed ⟨16, #[], #[], rfl, callable_16, fun w hw => ⟨_, hw.sat, terrain_Check_walk h_p0_5 hc5⟩⟩ ?_
  refine WO_pure tbok 1 [(1, .slice a_p1 p1.length c_p1), (2, .pointer (some ⟨b3, 0, none⟩)), (4, .pointer (some ⟨b4, 0, none⟩)), (5, .int .i64 0), (6, .int .i64 y_1)] rfl ⟨rfl, rfl, rfl, rfl, rfl, trivial⟩ ?_
  refine WO_end ?_
  refine WK_seq ?_
  refine WK_region ?_
  refine WO_pure tbok 2 [(1, .slice a_p1 p1.length c_p1), (2, .pointer (some ⟨b3, 0, none⟩)), (4, .pointer (some ⟨b4, 0, none⟩)), (5, .int .i64 0), (6, .int .i64 y_1), (13, .bool (y_1 != 0))] rfl ⟨rfl, rfl, rfl, rfl, rfl, rfl, trivial⟩ ?_
  refine WO_end ?_
  refine WK_cond (b := y_1 != 0) rfl (fun hb6 => ?_) (fun hb6 => ?_)
  · have hm := ifT hb6 hm
    refine WK_seq ?_
    refine WK_region ?_
    refine WO_pure tbok 2 [(1, .slice a_p1 p1.length c_p1), (2, .pointer (some ⟨b3, 0, none⟩)), (4, .pointer (some ⟨b4, 0, none⟩)), (5, .int .i64 0), (14, .agg #[.int .i64 0, .int .i64 0, .int .i64 0, .int .i64 0, .int .i64 0, .slice none 0 0]), (15, .int .i64 y_1)] rfl ⟨rfl, rfl, rfl, rfl, rfl, rfl, trivial⟩ ?_
    refine WO_storeB tbok 1 [.int .i64 0, .int .i64 0, .int .i64 0, .int .i64 0, .int .i64 0, .slice none 0 0] rfl rfl rfl rfl rfl rfl rfl ?_
    refine WO.cls (C' := St w0 m m [[⟨b3, 25, [.int .i64 p0_0, .int .i64 p0_1, .int .i64 p0_2, .int .i64 p0_3, .int .i64 p0_4, .slice a_p0_5 p0_5.length c_p0_5]⟩], [⟨b4, 25, [.int .i64 0, .int .i64 0, .int .i64 0, .int .i64 0, .int .i64 0, .slice none 0 0]⟩]]) (fun _ h => h) ?_
    refine WO_pure tbok 1 [(1, .slice a_p1 p1.length c_p1), (2, .pointer (some ⟨b3, 0, none⟩)), (4, .pointer (some ⟨b4, 0, none⟩)), (5, .int .i64 y_1)] rfl ⟨rfl, rfl, rfl, rfl, trivial⟩ ?_
    refine WO_end ?_
    cases hm
    exact WK_ret (ret_out (L := []) (RLc_cell tbok 1 rfl rfl rfl (RLc_tmp rfl RLc_nil)) (List.nil_sublist _) ⟨none, 0, 0, rfl, SlR_nil⟩)
  · have hm := ifF hb6 hm
    refine WK_skip ?_
    refine WK_seq ?_
    refine WK_seq ?_
    refine WK_region ?_
    refine WO_pure tbok 3 [(1, .slice a_p1 p1.length c_p1), (2, .pointer (some ⟨b3, 0, none⟩)), (4, .pointer (some ⟨b4, 0, none⟩)), (5, .int .i64 0), (17, .int .i64 (p1.length : Int)), (18, .pointer (some ⟨b3, 5, none⟩))] rfl ⟨rfl, rfl, rfl, rfl, rfl, rfl, trivial⟩ ?_
    refine WO_loadB tbok 0 rfl rfl rfl rfl (fun _ h => h) rfl rfl ?_
    refine WO_pure tbok 2 [(1, .slice a_p1 p1.length c_p1), (2, .pointer (some ⟨b3, 0, none⟩)), (4, .pointer (some ⟨b4, 0, none⟩)), (5, .int .i64 0), (21, .bool ((p1.length : Int) != (p0_5.length : Int)))] rfl ⟨rfl, rfl, rfl, rfl, rfl, trivial⟩ ?_
    refine WO_end ?_
    refine WK_cond (b := (p1.length : Int) != (p0_5.length : Int)) rfl (fun hb7 => ?_) (fun hb7 => ?_)
    · have hm := ifT hb7 hm
      refine WK_seq ?_
      refine WK_region ?_
      refine WO_pure tbok 1 [(1, .slice a_p1 p1.length c_p1), (2, .pointer (some ⟨b3, 0, none⟩)), (4, .pointer (some ⟨b4, 0, none⟩)), (5, .int .i64 0), (22, .agg #[.int .i64 0, .int .i64 0, .int .i64 0, .int .i64 0, .int .i64 0, .slice none 0 0])] rfl ⟨rfl, rfl, rfl, rfl, rfl, trivial⟩ ?_
      refine WO_storeB tbok 1 [.int .i64 0, .int .i64 0, .int .i64 0, .int .i64 0, .int .i64 0, .slice none 0 0] rfl rfl rfl rfl rfl rfl rfl ?_
      refine WO.cls (C' := St w0 m m [[⟨b3, 25, [.int .i64 p0_0, .int .i64 p0_1, .int .i64 p0_2, .int .i64 p0_3, .int .i64 p0_4, .slice a_p0_5 p0_5.length c_p0_5]⟩], [⟨b4, 25, [.int .i64 0, .int .i64 0, .int .i64 0, .int .i64 0, .int .i64 0, .slice none 0 0]⟩]]) (fun _ h => h) ?_
      refine WO_pure tbok 1 [(1, .slice a_p1 p1.length c_p1), (2, .pointer (some ⟨b3, 0, none⟩)), (4, .pointer (some ⟨b4, 0, none⟩)), (5, .int .i64 4)] rfl ⟨rfl, rfl, rfl, rfl, trivial⟩ ?_
      refine WO_end ?_
      cases hm
      exact WK_ret (ret_out (L := []) (RLc_cell tbok 1 rfl rfl rfl (RLc_tmp rfl RLc_nil)) (List.nil_sublist _) ⟨none, 0, 0, rfl, SlR_nil⟩)
    · have hm := ifF hb7 hm
      refine WK_skip ?_
      refine WK_seq ?_
      refine WK_region ?_
      refine WO_pure tbok 1 [(1, .slice a_p1 p1.length c_p1), (2, .pointer (some ⟨b3, 0, none⟩)), (4, .pointer (some ⟨b4, 0, none⟩)), (5, .int .i64 0), (23, .pointer (some ⟨b3, 5, none⟩))] rfl ⟨rfl, rfl, rfl, rfl, rfl, trivial⟩ ?_
      refine WO_loadB tbok 0 rfl rfl rfl rfl (fun _ h => h) rfl rfl ?_
      refine WO_pure tbok 1 [(1, .slice a_p1 p1.length c_p1), (2, .pointer (some ⟨b3, 0, none⟩)), (4, .pointer (some ⟨b4, 0, none⟩)), (5, .int .i64 0), (25, .int .i64 (p0_5.length : Int))] rfl ⟨rfl, rfl, rfl, rfl, rfl, trivial⟩ ?_
      obtain ⟨y_2, hc8, hm⟩ := bind_some hm
      refine WO_call1 (terrain_blank_Q y_2) rfl rfl trivial rfl rfl rfl rfl ⟨42, #[], #[], rfl, callable_42, fun w hw => ⟨_, hw.sat, terrain_blank_walk hc8⟩⟩ (fun v13 L12 hq => ?_)
      obtain ⟨a9, qa9, c10, rfl, hL12⟩ := hq
      obtain rfl := OwnE.qlen hL12
      refine WO.cls (C' := St w0 m m [[⟨b3, 25, [.int .i64 p0_0, .int .i64 p0_1, .int .i64 p0_2, .int .i64 p0_3, .int .i64 p0_4, .slice a_p0_5 p0_5.length c_p0_5]⟩], [⟨b4, 25, [.int .i64 0, .int .i64 0, .int .i64 0, .int .i64 0, .int .i64 0, .slice none 0 0]⟩], L12]) (fun _ h => h) ?_
      refine WO_pure tbok 1 [(1, .slice a_p1 p1.length c_p1), (2, .pointer (some ⟨b3, 0, none⟩)), (4, .pointer (some ⟨b4, 0, none⟩)), (5, .int .i64 0), (7, .slice a9 ((y_2).length) c10)] rfl ⟨rfl, rfl, rfl, rfl, rfl, trivial⟩ ?_
      refine WO_end ?_
      refine WK_seq ?_
      refine WK_seq ?_
      refine WK_region ?_
      refine WO_pure tbok 3 [(2, .pointer (some ⟨b3, 0, none⟩)), (4, .pointer (some ⟨b4, 0, none⟩)), (5, .int .i64 0), (7, .slice a9 ((y_2).length) c10), (27, .slice a_p1 p1.length c_p1), (28, .int .i64 (p1.length : Int)), (29, .int .i64 0)] rfl ⟨rfl, rfl, rfl, rfl, rfl, rfl, rfl, trivial⟩ ?_
      refine WO_end ?_
      obtain ⟨x18, hx19, hm⟩ := bind_some hm
      refine WK_join (β := (List Int) × (List Ent)) (fun p => p.1 = x18 ∧ OwnE 3 1 (I1 .i64) (.slice a9 ((y_2).length) c10) p.1 p.2) (fun p => [(2, .pointer (some ⟨b3, 0, none⟩)), (4, .pointer (some ⟨b4, 0, none⟩)), (5, .int .i64 0), (7, .slice a9 ((y_2).length) c10)]) (fun p => St w0 m m [[⟨b3, 25, [.int .i64 p0_0, .int .i64 p0_1, .int .i64 p0_2, .int .i64 p0_3, .int .i64 p0_4, .slice a_p0_5 p0_5.length c_p0_5]⟩], [⟨b4, 25, [.int .i64 0, .int .i64 0, .int .i64 0, .int .i64 0, .int .i64 0, .slice none 0 0]⟩], p.2]) ?_ (fun hk20 => ?_)
      · rintro ⟨l_5, L17⟩ ⟨hq26, hL17⟩
        subst hq26
        refine WK.sub (e' := [(2, .pointer (some ⟨b3, 0, none⟩)), (4, .pointer (some ⟨b4, 0, none⟩)), (5, .int .i64 0), (7, .slice a9 ((y_2).length) c10)]) ⟨rfl, rfl, rfl, rfl, trivial⟩ (WK.cls (C' := St w0 m m [[⟨b3, 25, [.int .i64 p0_0, .int .i64 p0_1, .int .i64 p0_2, .int .i64 p0_3, .int .i64 p0_4, .slice a_p0_5 p0_5.length c_p0_5]⟩], [⟨b4, 25, [.int .i64 0, .int .i64 0, .int .i64 0, .int .i64 0, .int .i64 0, .slice none 0 0]⟩], L17]) (fun _ h => h) ?_)
        refine WK_seq ?_
        refine WK_region ?_
        refine WO_loadB tbok 0 rfl rfl rfl rfl (fun _ h => h) rfl rfl ?_
        refine WO_pure tbok 1 [(4, .pointer (some ⟨b4, 0, none⟩)), (5, .int .i64 0), (44, .agg #[.int .i64 p0_0, .int .i64 p0_1, .int .i64 p0_2, .int .i64 p0_3, .int .i64 p0_4, .slice a_p0_5 p0_5.length c_p0_5]), (45, .slice a9 ((y_2).length) c10)] rfl ⟨rfl, rfl, rfl, rfl, trivial⟩ ?_
        refine WO_freeze 2 rfl (fun m27 hle28 hmm29 => ?_)
        refine WO.cls (C' := St w0 m m27 [[⟨b3, 25, [.int .i64 p0_0, .int .i64 p0_1, .int .i64 p0_2, .int .i64 p0_3, .int .i64 p0_4, .slice a_p0_5 p0_5.length c_p0_5]⟩], [⟨b4, 25, [.int .i64 0, .int .i64 0, .int .i64 0, .int .i64 0, .int .i64 0, .slice none 0 0]⟩], []]) (fun _ h => h) ?_
        obtain ⟨⟨y_6, y_7, y_8, y_9, y_10, y_11⟩, hc30, hm⟩ := bind_some hm
        refine WO_call2 (terrain_with_Q (y_6, y_7, y_8, y_9, y_10, y_11)) rfl rfl trivial rfl rfl rfl rfl ⟨44, #[], #[], rfl, callable_44, terrain_with_walk (h_p0_5.mono (mono_FE _) hle28) (OwnE.rd (E := (I1 .i64)) (k := 1) (fun _ => rfl) hL17 hmm29) hc30⟩ (fun v35 m36 L34 hle37 hq => ?_)
        obtain ⟨a31, qa31, c32, rfl, h38⟩ := hq
        obtain rfl := SlR.qlen h38
        refine WO.cls (C' := St w0 m m36 [[⟨b3, 25, [.int .i64 p0_0, .int .i64 p0_1, .int .i64 p0_2, .int .i64 p0_3, .int .i64 p0_4, .slice a_p0_5 p0_5.length c_p0_5]⟩], [⟨b4, 25, [.int .i64 0, .int .i64 0, .int .i64 0, .int .i64 0, .int .i64 0, .slice none 0 0]⟩], [], L34]) (fun _ h => h.sub (by simp)) ?_
        refine WO_storeB tbok 1 [.int .i64 y_6, .int .i64 y_7, .int .i64 y_8, .int .i64 y_9, .int .i64 y_10, .slice a31 ((y_11).length) c32] rfl rfl rfl rfl rfl rfl rfl ?_
        refine WO.cls (C' := St w0 m m36 [[⟨b3, 25, [.int .i64 p0_0, .int .i64 p0_1, .int .i64 p0_2, .int .i64 p0_3, .int .i64 p0_4, .slice a_p0_5 p0_5.length c_p0_5]⟩], [⟨b4, 25, [.int .i64 y_6, .int .i64 y_7, .int .i64 y_8, .int .i64 y_9, .int .i64 y_10, .slice a31 ((y_11).length) c32]⟩], [], L34]) (fun _ h => h) ?_
        refine WO_pure tbok 1 [(4, .pointer (some ⟨b4, 0, none⟩)), (5, .int .i64 0)] rfl ⟨rfl, rfl, trivial⟩ ?_
        refine WO_end ?_
        cases hm
        exact WK_ret (ret_out (L := []) (RLc_cell tbok 1 rfl rfl rfl (RLc_tmp rfl RLc_nil)) (List.nil_sublist _) ⟨a31, _, c32, rfl, h38⟩)
      · refine WK_block ?_
        refine WK_loop (S := List Int × Int) (G := List Ent) (fun s => terrain_Keep_s1 p0_5 p1 s.1 s.2) (fun s g => [(2, .pointer (some ⟨b3, 0, none⟩)), (4, .pointer (some ⟨b4, 0, none⟩)), (5, .int .i64 0), (7, .slice a9 ((y_2).length) c10), (27, .slice a_p1 p1.length c_p1), (28, .int .i64 (p1.length : Int)), (29, .int .i64 s.2)]) (fun s g => St w0 m m [[⟨b3, 25, [.int .i64 p0_0, .int .i64 p0_1, .int .i64 p0_2, .int .i64 p0_3, .int .i64 p0_4, .slice a_p0_5 p0_5.length c_p0_5]⟩], [⟨b4, 25, [.int .i64 0, .int .i64 0, .int .i64 0, .int .i64 0, .int .i64 0, .slice none 0 0]⟩], g]) (fun s g => OwnE 3 1 (I1 .i64) (.slice a9 ((y_2).length) c10) s.1 g) FUEL (y_2, 0) L12 x18 hx19 hL12 ⟨rfl, rfl, rfl, rfl, rfl, rfl, rfl, trivial⟩ (fun _ h => h) ?_
        rintro ⟨l_3, s_4⟩ L15 o22 fl23 hm21 hL15 hn24 hd25
        have hm21 : terrain_Keep_s1 p0_5 p1 l_3 s_4 = some o22 := hm21
        unfold terrain_Keep_s1 at hm21
        refine WK.sub (e' := [(2, .pointer (some ⟨b3, 0, none⟩)), (4, .pointer (some ⟨b4, 0, none⟩)), (5, .int .i64 0), (7, .slice a9 ((y_2).length) c10), (27, .slice a_p1 p1.length c_p1), (28, .int .i64 (p1.length : Int)), (29, .int .i64 s_4)]) ⟨rfl, rfl, rfl, rfl, rfl, rfl, rfl, trivial⟩ (WK.cls (C' := St w0 m m [[⟨b3, 25, [.int .i64 p0_0, .int .i64 p0_1, .int .i64 p0_2, .int .i64 p0_3, .int .i64 p0_4, .slice a_p0_5 p0_5.length c_p0_5]⟩], [⟨b4, 25, [.int .i64 0, .int .i64 0, .int .i64 0, .int .i64 0, .int .i64 0, .slice none 0 0]⟩], L15]) (fun _ h => h) ?_)
        refine WK_seq ?_
        refine WK_region ?_
        refine WO_pure tbok 1 [(2, .pointer (some ⟨b3, 0, none⟩)), (4, .pointer (some ⟨b4, 0, none⟩)), (5, .int .i64 0), (7, .slice a9 ((y_2).length) c10), (27, .slice a_p1 p1.length c_p1), (28, .int .i64 (p1.length : Int)), (29, .int .i64 s_4), (30, .bool (decide (s_4 < (p1.length : Int))))] rfl ⟨rfl, rfl, rfl, rfl, rfl, rfl, rfl, rfl, trivial⟩ ?_
        refine WO_end ?_
        refine WK_seq ?_
        refine WK_cond (b := decide (s_4 < (p1.length : Int))) rfl (fun hb39 => ?_) (fun hb39 => ?_)
        · have hm21 := ifT hb39 hm21
          refine WK_skip ?_
          refine WK_seq ?_
          refine WK_block ?_
          refine WK_seq ?_
          refine WK_region ?_
          refine WO_pure tbok 1 [(2, .pointer (some ⟨b3, 0, none⟩)), (4, .pointer (some ⟨b4, 0, none⟩)), (5, .int .i64 0), (7, .slice a9 ((y_2).length) c10), (27, .slice a_p1 p1.length c_p1), (28, .int .i64 (p1.length : Int)), (29, .int .i64 s_4), (31, .int .i64 s_4)] rfl ⟨rfl, rfl, rfl, rfl, rfl, rfl, rfl, rfl, trivial⟩ ?_
          obtain ⟨v_12, hy40, hm21⟩ := bind_some hm21
          obtain ⟨hc41, hy40⟩ := ix_some hy40
          refine WO_index tbok rfl rfl rfl rfl rfl rfl rfl rfl (SlR.addr h_p1) hc41 ?_
          refine WO_loadE tbok rfl rfl rfl rfl (fun _ h => St.sat h) h_p1 hy40 rfl ?_
          refine WO_pure tbok 2 [(2, .pointer (some ⟨b3, 0, none⟩)), (4, .pointer (some ⟨b4, 0, none⟩)), (5, .int .i64 0), (7, .slice a9 ((y_2).length) c10), (8, .int .i64 s_4), (9, .bool v_12), (27, .slice a_p1 p1.length c_p1), (28, .int .i64 (p1.length : Int)), (29, .int .i64 s_4)] rfl ⟨rfl, rfl, rfl, rfl, rfl, rfl, rfl, rfl, rfl, trivial⟩ ?_
          refine WO_end ?_
          refine WK_seq ?_
          refine WK_region ?_
          refine WO_pure tbok 1 [(2, .pointer (some ⟨b3, 0, none⟩)), (4, .pointer (some ⟨b4, 0, none⟩)), (5, .int .i64 0), (7, .slice a9 ((y_2).length) c10), (8, .int .i64 s_4), (27, .slice a_p1 p1.length c_p1), (28, .int .i64 (p1.length : Int)), (29, .int .i64 s_4), (34, .bool v_12)] rfl ⟨rfl, rfl, rfl, rfl, rfl, rfl, rfl, rfl, rfl, trivial⟩ ?_
          refine WO_end ?_
          obtain ⟨l_13, hx44, hm21⟩ := bind_some hm21
          refine WK_join (β := List Ent) (fun p => OwnE 3 1 (I1 .i64) (.slice a9 ((y_2).length) c10) l_13 p) (fun p => [(2, .pointer (some ⟨b3, 0, none⟩)), (4, .pointer (some ⟨b4, 0, none⟩)), (5, .int .i64 0), (7, .slice a9 ((y_2).length) c10), (27, .slice a_p1 p1.length c_p1), (28, .int .i64 (p1.length : Int)), (29, .int .i64 s_4)]) (fun p => St w0 m m [[⟨b3, 25, [.int .i64 p0_0, .int .i64 p0_1, .int .i64 p0_2, .int .i64 p0_3, .int .i64 p0_4, .slice a_p0_5 p0_5.length c_p0_5]⟩], [⟨b4, 25, [.int .i64 0, .int .i64 0, .int .i64 0, .int .i64 0, .int .i64 0, .slice none 0 0]⟩], p]) ?_ (fun hk45 => ?_)
          · rintro L43 hL43
            refine WK.sub (e' := [(2, .pointer (some ⟨b3, 0, none⟩)), (4, .pointer (some ⟨b4, 0, none⟩)), (5, .int .i64 0), (7, .slice a9 ((y_2).length) c10), (27, .slice a_p1 p1.length c_p1), (28, .int .i64 (p1.length : Int)), (29, .int .i64 s_4)]) ⟨rfl, rfl, rfl, rfl, rfl, rfl, rfl, trivial⟩ (WK.cls (C' := St w0 m m [[⟨b3, 25, [.int .i64 p0_0, .int .i64 p0_1, .int .i64 p0_2, .int .i64 p0_3, .int .i64 p0_4, .slice a_p0_5 p0_5.length c_p0_5]⟩], [⟨b4, 25, [.int .i64 0, .int .i64 0, .int .i64 0, .int .i64 0, .int .i64 0, .slice none 0 0]⟩], L43]) (fun _ h => h) ?_)
            refine WK_blk ?_
            refine WK_region ?_
            refine WO_pure tbok 2 [(2, .pointer (some ⟨b3, 0, none⟩)), (4, .pointer (some ⟨b4, 0, none⟩)), (5, .int .i64 0), (7, .slice a9 ((y_2).length) c10), (27, .slice a_p1 p1.length c_p1), (28, .int .i64 (p1.length : Int)), (29, .int .i64 (w64 (s_4 + 1)))] rfl ⟨rfl, rfl, rfl, rfl, rfl, rfl, rfl, trivial⟩ ?_
            refine WO_end ?_
            cases hm21
            refine WK.sub ?_ (WK.cls (fun _ h => h) (hn24 _ L43 rfl hL43))
            exact ⟨rfl, rfl, rfl, rfl, rfl, rfl, rfl, trivial⟩
          · refine WK_cond (b := v_12) rfl (fun hb46 => ?_) (fun hb46 => ?_)
            · have hx44 := ifT hb46 hx44
              refine WK_region ?_
              refine WO_pure tbok 3 [(2, .pointer (some ⟨b3, 0, none⟩)), (4, .pointer (some ⟨b4, 0, none⟩)), (5, .int .i64 0), (7, .slice a9 ((y_2).length) c10), (8, .int .i64 s_4), (27, .slice a_p1 p1.length c_p1), (28, .int .i64 (p1.length : Int)), (29, .int .i64 s_4), (35, .slice a9 ((y_2).length) c10), (36, .int .i64 s_4), (37, .pointer (some ⟨b3, 5, none⟩))] rfl ⟨rfl, rfl, rfl, rfl, rfl, rfl, rfl, rfl, rfl, rfl, rfl, trivial⟩ ?_
              refine WO_loadB tbok 0 rfl rfl rfl rfl (fun _ h => h) rfl rfl ?_
              refine WO_pure tbok 1 [(2, .pointer (some ⟨b3, 0, none⟩)), (4, .pointer (some ⟨b4, 0, none⟩)), (5, .int .i64 0), (7, .slice a9 ((y_2).length) c10), (27, .slice a_p1 p1.length c_p1), (28, .int .i64 (p1.length : Int)), (29, .int .i64 s_4), (35, .slice a9 ((y_2).length) c10), (36, .int .i64 s_4), (38, .slice a_p0_5 p0_5.length c_p0_5), (39, .int .i64 s_4)] rfl ⟨rfl, rfl, rfl, rfl, rfl, rfl, rfl, rfl, rfl, rfl, rfl, trivial⟩ ?_
              obtain ⟨v_14, hy47, hx44⟩ := bind_some hx44
              obtain ⟨hc48, hy47⟩ := ix_some hy47
              refine WO_index tbok rfl rfl rfl rfl rfl rfl rfl rfl (SlR.addr h_p0_5) hc48 ?_
              refine WO_loadE tbok rfl rfl rfl rfl (fun _ h => St.sat h) h_p0_5 hy47 rfl ?_
              obtain ⟨hc49, hx44⟩ := chk_some hx44
              refine WO_index tbok rfl rfl rfl rfl rfl rfl rfl rfl (OwnE.addr hL15) (by simpa using hc49) ?_
              refine WO_storeO (E := (I1 .i64)) tbok (fun _ => rfl) 2 v_14 rfl rfl rfl rfl rfl hL15 rfl (by simpa using idx_lt hc49) rfl rfl rfl rfl (fun L50 hL50 => ?_)
              refine WO.cls (C' := St w0 m m [[⟨b3, 25, [.int .i64 p0_0, .int .i64 p0_1, .int .i64 p0_2, .int .i64 p0_3, .int .i64 p0_4, .slice a_p0_5 p0_5.length c_p0_5]⟩], [⟨b4, 25, [.int .i64 0, .int .i64 0, .int .i64 0, .int .i64 0, .int .i64 0, .slice none 0 0]⟩], L50]) (fun _ h => h) ?_
              refine WO_end ?_
              cases hx44
              refine WK.sub ?_ (WK.cls (fun _ h => h) (hk45 L50 hL50))
              exact ⟨rfl, rfl, rfl, rfl, rfl, rfl, rfl, trivial⟩
            · have hx44 := ifF hb46 hx44
              refine WK_skip ?_
              cases hx44
              refine WK.sub ?_ (WK.cls (fun _ h => h) (hk45 L15 hL15))
              exact ⟨rfl, rfl, rfl, rfl, rfl, rfl, rfl, trivial⟩
        · have hm21 := ifF hb39 hm21
          refine WK_exit rfl ?_
          cases hm21
          refine WK.sub ?_ (WK.cls (fun _ h => h) (hk20 (l_3, L15) ⟨(hd25 _ rfl), hL15⟩))
          exact ⟨rfl, rfl, rfl, rfl, trivial⟩
end Go.Proofs.Ytcaeieofjchpjaa
