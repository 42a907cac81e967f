import Derived.Test.YtgakaghdiodakaaTab
import Derived.Test.YtgakaghdiodakaaM
import Derived.Test.YtgakaghdiodakaaW4
set_option linter.unusedVariables false
set_option maxRecDepth 100000
set_option maxHeartbeats 4000000
namespace Go.Proofs.Ytgakaghdiodakaa
open Go.E Go.RowKit
attribute [local irreducible] Go.E.WO Go.E.WK
theorem fiduciallaw45_AggregateGrids_walk {m : Mu} {p0_0 : Int} {p0_1 : Int} {p0_2 : Int} {p0_3 : List Int} {p1_0 : Int} {p1_1 : Int} {p2 : List Int} {a_p0_3 : Option Addr} {q_p0_3 c_p0_3 : Nat} {a_p2 : Option Addr} {q_p2 c_p2 : Nat} (h_p0_3 : SlR (FE (I1 .i64)) 1 m (.slice a_p0_3 q_p0_3 c_p0_3) p0_3) (h_p2 : SlR (FE (I1 .i64)) 1 m (.slice a_p2 q_p2 c_p2) p2) {r : Bool} (hm : fiduciallaw45_AggregateGrids p0_0 p0_1 p0_2 p0_3 p1_0 p1_1 p2 = some r) :
    Go.E.Spec Try.prog 7 [.agg #[.int .i64 p0_0, .int .i64 p0_1, .int .i64 p0_2, .slice a_p0_3 q_p0_3 c_p0_3], .agg #[.int .i64 p1_0, .int .i64 p1_1], .slice a_p2 q_p2 c_p2] m (fun v _ _ => v = .bool r) := by
  refine Spec_enter Try.func7 rfl rfl rfl (fun w0 => ?_)
  refine WK.sub (e' := [(0, .agg #[.int .i64 p0_0, .int .i64 p0_1, .int .i64 p0_2, .slice a_p0_3 q_p0_3 c_p0_3]), (1, .agg #[.int .i64 p1_0, .int .i64 p1_1]), (2, .slice a_p2 q_p2 c_p2)]) ⟨rfl, rfl, rfl, trivial⟩ ?_
  obtain rfl := SlR.qlen h_p0_3
  obtain rfl := SlR.qlen h_p2
  refine WK.sub (e' := [(0, .agg #[.int .i64 p0_0, .int .i64 p0_1, .int .i64 p0_2, .slice a_p0_3 p0_3.length c_p0_3]), (1, .agg #[.int .i64 p1_0, .int .i64 p1_1]), (2, .slice a_p2 p2.length c_p2)]) ⟨rfl, rfl, rfl, trivial⟩ ?_
  unfold fiduciallaw45_AggregateGrids at hm
  refine WK_seq ?_
  refine WK_region ?_
  refine WO_box [.int .i64 p0_0, .int .i64 p0_1, .int .i64 p0_2, .slice a_p0_3 p0_3.length c_p0_3] rfl rfl trivial rfl rfl rfl (fun b1 => ?_)
  refine WO.cls (C' := St w0 m m [[⟨b1, 50, [.int .i64 p0_0, .int .i64 p0_1, .int .i64 p0_2, .slice a_p0_3 p0_3.length c_p0_3]⟩]]) (fun _ h => h) ?_
  refine WO_box [.int .i64 p1_0, .int .i64 p1_1] rfl rfl trivial rfl rfl rfl (fun b2 => ?_)
  refine WO.cls (C' := St w0 m m [[⟨b1, 50, [.int .i64 p0_0, .int .i64 p0_1, .int .i64 p0_2, .slice a_p0_3 p0_3.length c_p0_3]⟩], [⟨b2, 23, [.int .i64 p1_0, .int .i64 p1_1]⟩]]) (fun _ h => h) ?_
  refine WO_pure tbok 1 [(2, .slice a_p2 p2.length c_p2), (3, .pointer (some ⟨b1, 0, none⟩)), (4, .pointer (some ⟨b2, 0, none⟩)), (6, .bool false)] rfl ⟨rfl, rfl, rfl, rfl, trivial⟩ ?_
  refine WO_end ?_
  refine WK_seq ?_
  refine WK_seq ?_
  refine WK_region ?_
  obtain ⟨y_1, hc3, hm⟩ := bind_some hm
  refine WO_call0 (.bool y_1) rfl rfl trivial rfl rfl rfl rfl St_closed ⟨8, #[], #[], rfl, callable_8, fun w hw => ⟨_, hw.sat, fiduciallaw45_known_walk hc3⟩⟩ ?_
  refine WO_pure tbok 1 [(2, .slice a_p2 p2.length c_p2), (3, .pointer (some ⟨b1, 0, none⟩)), (4, .pointer (some ⟨b2, 0, none⟩)), (6, .bool false), (13, .bool (!y_1))] rfl ⟨rfl, rfl, rfl, rfl, rfl, trivial⟩ ?_
  refine WO_end ?_
  refine WK_cond (b := !y_1) rfl (fun hb4 => ?_) (fun hb4 => ?_)
  · have hm := ifT hb4 hm
    refine WK_seq ?_
    refine WK_region ?_
    refine WO_pure tbok 1 [(2, .slice a_p2 p2.length c_p2), (3, .pointer (some ⟨b1, 0, none⟩)), (4, .pointer (some ⟨b2, 0, none⟩)), (6, .bool false)] rfl ⟨rfl, rfl, rfl, rfl, trivial⟩ ?_
    refine WO_end ?_
    cases hm
    exact WK_ret (ret_out (L := []) (RLc_tmp rfl RLc_nil) (List.nil_sublist _) rfl)
  · have hm := ifF hb4 hm
    refine WK_skip ?_
    refine WK_seq ?_
    refine WK_seq ?_
    obtain ⟨s_2, hx5, hm⟩ := bind_some hm
    refine WK_meet [(2, .slice a_p2 p2.length c_p2), (3, .pointer (some ⟨b1, 0, none⟩)), (4, .pointer (some ⟨b2, 0, none⟩)), (6, .bool false), (21, .bool s_2)] (St w0 m m [[⟨b1, 50, [.int .i64 p0_0, .int .i64 p0_1, .int .i64 p0_2, .slice a_p0_3 p0_3.length c_p0_3]⟩], [⟨b2, 23, [.int .i64 p1_0, .int .i64 p1_1]⟩]]) ?_ (fun hk6 => ?_)
    · refine WK_cond (b := s_2) rfl (fun hb7 => ?_) (fun hb7 => ?_)
      · have hm := ifT hb7 hm
        refine WK_seq ?_
        refine WK_region ?_
        refine WO_pure tbok 1 [(2, .slice a_p2 p2.length c_p2), (3, .pointer (some ⟨b1, 0, none⟩)), (4, .pointer (some ⟨b2, 0, none⟩)), (6, .bool true)] rfl ⟨rfl, rfl, rfl, rfl, trivial⟩ ?_
        refine WO_end ?_
        cases hm
        exact WK_ret (ret_out (L := []) (RLc_tmp rfl RLc_nil) (List.nil_sublist _) rfl)
      · have hm := ifF hb7 hm
        refine WK_skip ?_
        refine WK_seq ?_
        refine WK_region ?_
        refine WO_loadB tbok 0 rfl rfl rfl rfl (fun _ h => h) rfl rfl ?_
        refine WO_pure tbok 1 [(2, .slice a_p2 p2.length c_p2), (3, .pointer (some ⟨b1, 0, none⟩)), (4, .pointer (some ⟨b2, 0, none⟩)), (6, .bool false), (23, .agg #[.int .i64 p0_0, .int .i64 p0_1, .int .i64 p0_2, .slice a_p0_3 p0_3.length c_p0_3]), (24, .pointer (some ⟨b2, 0, none⟩))] rfl ⟨rfl, rfl, rfl, rfl, rfl, rfl, trivial⟩ ?_
        refine WO_loadB tbok 1 rfl rfl rfl rfl (fun _ h => h) rfl rfl ?_
        refine WO_pure tbok 1 [(2, .slice a_p2 p2.length c_p2), (3, .pointer (some ⟨b1, 0, none⟩)), (4, .pointer (some ⟨b2, 0, none⟩)), (6, .bool false), (23, .agg #[.int .i64 p0_0, .int .i64 p0_1, .int .i64 p0_2, .slice a_p0_3 p0_3.length c_p0_3]), (25, .int .i64 p1_0), (26, .pointer (some ⟨b2, 1, none⟩))] rfl ⟨rfl, rfl, rfl, rfl, rfl, rfl, rfl, trivial⟩ ?_
        refine WO_loadB tbok 1 rfl rfl rfl rfl (fun _ h => h) rfl rfl ?_
        refine WO_pure tbok 1 [(2, .slice a_p2 p2.length c_p2), (3, .pointer (some ⟨b1, 0, none⟩)), (4, .pointer (some ⟨b2, 0, none⟩)), (6, .bool false), (23, .agg #[.int .i64 p0_0, .int .i64 p0_1, .int .i64 p0_2, .slice a_p0_3 p0_3.length c_p0_3]), (25, .int .i64 p1_0), (27, .int .i64 p1_1), (28, .slice a_p2 p2.length c_p2)] rfl ⟨rfl, rfl, rfl, rfl, rfl, rfl, rfl, rfl, trivial⟩ ?_
        obtain ⟨⟨y_3, y_4⟩, hc8, hm⟩ := bind_some hm
        refine WO_call0 (.tuple #[.int .i64 y_3, .int .i64 y_4]) rfl rfl trivial rfl rfl rfl rfl St_closed ⟨24, #[], #[], rfl, callable_24, fun w hw => ⟨_, hw.sat, aggregate_Grid_walk h_p0_3 h_p2 hc8⟩⟩ ?_
        refine WO_pure tbok 5 [(2, .slice a_p2 p2.length c_p2), (3, .pointer (some ⟨b1, 0, none⟩)), (4, .pointer (some ⟨b2, 0, none⟩)), (6, .bool false), (7, .int .i64 y_3), (8, .int .i64 y_4)] rfl ⟨rfl, rfl, rfl, rfl, rfl, rfl, trivial⟩ ?_
        refine WO_end ?_
        refine WK_seq ?_
        refine WK_region ?_
        refine WO_loadB tbok 0 rfl rfl rfl rfl (fun _ h => h) rfl rfl ?_
        refine WO_pure tbok 1 [(2, .slice a_p2 p2.length c_p2), (3, .pointer (some ⟨b1, 0, none⟩)), (4, .pointer (some ⟨b2, 0, none⟩)), (6, .bool false), (7, .int .i64 y_3), (8, .int .i64 y_4), (33, .agg #[.int .i64 p0_0, .int .i64 p0_1, .int .i64 p0_2, .slice a_p0_3 p0_3.length c_p0_3]), (34, .pointer (some ⟨b2, 0, none⟩))] rfl ⟨rfl, rfl, rfl, rfl, rfl, rfl, rfl, rfl, trivial⟩ ?_
        refine WO_loadB tbok 1 rfl rfl rfl rfl (fun _ h => h) rfl rfl ?_
        refine WO_pure tbok 1 [(2, .slice a_p2 p2.length c_p2), (3, .pointer (some ⟨b1, 0, none⟩)), (4, .pointer (some ⟨b2, 0, none⟩)), (6, .bool false), (7, .int .i64 y_3), (8, .int .i64 y_4), (33, .agg #[.int .i64 p0_0, .int .i64 p0_1, .int .i64 p0_2, .slice a_p0_3 p0_3.length c_p0_3]), (35, .int .i64 p1_0), (36, .pointer (some ⟨b2, 1, none⟩))] rfl ⟨rfl, rfl, rfl, rfl, rfl, rfl, rfl, rfl, rfl, trivial⟩ ?_
        refine WO_loadB tbok 1 rfl rfl rfl rfl (fun _ h => h) rfl rfl ?_
        obtain ⟨⟨y_5, y_6⟩, hc9, hm⟩ := bind_some hm
        refine WO_call0 (.tuple #[.int .i64 y_5, .int .i64 y_6]) rfl rfl trivial rfl rfl rfl rfl St_closed ⟨25, #[], #[], rfl, callable_25, fun w hw => ⟨_, hw.sat, aggregate_Bound_walk h_p0_3 hc9⟩⟩ ?_
        refine WO_pure tbok 5 [(2, .slice a_p2 p2.length c_p2), (3, .pointer (some ⟨b1, 0, none⟩)), (4, .pointer (some ⟨b2, 0, none⟩)), (6, .bool false), (7, .int .i64 y_3), (8, .int .i64 y_4), (9, .int .i64 y_5), (10, .int .i64 y_6)] rfl ⟨rfl, rfl, rfl, rfl, rfl, rfl, rfl, rfl, trivial⟩ ?_
        refine WO_end ?_
        refine WK_seq ?_
        refine WK_region ?_
        refine WO_loadB tbok 0 rfl rfl rfl rfl (fun _ h => h) rfl rfl ?_
        refine WO_pure tbok 1 [(2, .slice a_p2 p2.length c_p2), (3, .pointer (some ⟨b1, 0, none⟩)), (4, .pointer (some ⟨b2, 0, none⟩)), (6, .bool false), (7, .int .i64 y_3), (8, .int .i64 y_4), (9, .int .i64 y_5), (10, .int .i64 y_6), (41, .agg #[.int .i64 p0_0, .int .i64 p0_1, .int .i64 p0_2, .slice a_p0_3 p0_3.length c_p0_3]), (42, .pointer (some ⟨b2, 0, none⟩))] rfl ⟨rfl, rfl, rfl, rfl, rfl, rfl, rfl, rfl, rfl, rfl, trivial⟩ ?_
        refine WO_loadB tbok 1 rfl rfl rfl rfl (fun _ h => h) rfl rfl ?_
        refine WO_pure tbok 1 [(2, .slice a_p2 p2.length c_p2), (3, .pointer (some ⟨b1, 0, none⟩)), (4, .pointer (some ⟨b2, 0, none⟩)), (6, .bool false), (7, .int .i64 y_3), (8, .int .i64 y_4), (9, .int .i64 y_5), (10, .int .i64 y_6), (41, .agg #[.int .i64 p0_0, .int .i64 p0_1, .int .i64 p0_2, .slice a_p0_3 p0_3.length c_p0_3]), (43, .int .i64 p1_0), (44, .pointer (some ⟨b2, 1, none⟩))] rfl ⟨rfl, rfl, rfl, rfl, rfl, rfl, rfl, rfl, rfl, rfl, rfl, trivial⟩ ?_
        refine WO_loadB tbok 1 rfl rfl rfl rfl (fun _ h => h) rfl rfl ?_
        obtain ⟨y_7, hc10, hm⟩ := bind_some hm
        refine WO_call0 (.int .i64 y_7) rfl rfl trivial rfl rfl rfl rfl St_closed ⟨26, #[], #[], rfl, callable_26, fun w hw => ⟨_, hw.sat, fiduciallaw45_image_walk h_p0_3 hc10⟩⟩ ?_
        refine WO_pure tbok 1 [(2, .slice a_p2 p2.length c_p2), (3, .pointer (some ⟨b1, 0, none⟩)), (4, .pointer (some ⟨b2, 0, none⟩)), (6, .bool false), (7, .int .i64 y_3), (8, .int .i64 y_4), (9, .int .i64 y_5), (10, .int .i64 y_6), (11, .int .i64 y_7)] rfl ⟨rfl, rfl, rfl, rfl, rfl, rfl, rfl, rfl, rfl, trivial⟩ ?_
        refine WO_end ?_
        refine WK_seq ?_
        refine WK_seq ?_
        refine WK_region ?_
        refine WO_pure tbok 2 [(2, .slice a_p2 p2.length c_p2), (3, .pointer (some ⟨b1, 0, none⟩)), (4, .pointer (some ⟨b2, 0, none⟩)), (6, .bool false), (7, .int .i64 y_3), (8, .int .i64 y_4), (9, .int .i64 y_5), (10, .int .i64 y_6), (11, .int .i64 y_7), (48, .bool (y_7 == 0))] rfl ⟨rfl, rfl, rfl, rfl, rfl, rfl, rfl, rfl, rfl, rfl, trivial⟩ ?_
        refine WO_end ?_
        refine WK_cond (b := y_7 == 0) rfl (fun hb11 => ?_) (fun hb11 => ?_)
        · have hm := ifT hb11 hm
          refine WK_seq ?_
          refine WK_seq ?_
          refine WK_region ?_
          refine WO_pure tbok 1 [(2, .slice a_p2 p2.length c_p2), (3, .pointer (some ⟨b1, 0, none⟩)), (4, .pointer (some ⟨b2, 0, none⟩)), (6, .bool false), (7, .int .i64 y_3), (8, .int .i64 y_4), (9, .int .i64 y_5), (10, .int .i64 y_6), (11, .int .i64 y_7), (49, .pointer (some ⟨b2, 1, none⟩))] rfl ⟨rfl, rfl, rfl, rfl, rfl, rfl, rfl, rfl, rfl, rfl, trivial⟩ ?_
          refine WO_loadB tbok 1 rfl rfl rfl rfl (fun _ h => h) rfl rfl ?_
          refine WO_pure tbok 2 [(2, .slice a_p2 p2.length c_p2), (3, .pointer (some ⟨b1, 0, none⟩)), (4, .pointer (some ⟨b2, 0, none⟩)), (6, .bool false), (7, .int .i64 y_3), (8, .int .i64 y_4), (9, .int .i64 y_5), (10, .int .i64 y_6), (11, .int .i64 y_7), (52, .bool (decide (1048576 < (w64 (2 * p1_1)))))] rfl ⟨rfl, rfl, rfl, rfl, rfl, rfl, rfl, rfl, rfl, rfl, trivial⟩ ?_
          refine WO_end ?_
          refine WK_cond (b := decide (1048576 < (w64 (2 * p1_1)))) rfl (fun hb12 => ?_) (fun hb12 => ?_)
          · have hm := ifT hb12 hm
            refine WK_seq ?_
            obtain ⟨s_8, hx13, hm⟩ := bind_some hm
            refine WK_meet [(2, .slice a_p2 p2.length c_p2), (3, .pointer (some ⟨b1, 0, none⟩)), (4, .pointer (some ⟨b2, 0, none⟩)), (6, .bool false), (7, .int .i64 y_3), (8, .int .i64 y_4), (9, .int .i64 y_5), (10, .int .i64 y_6), (11, .int .i64 y_7), (58, .bool s_8)] (St w0 m m [[⟨b1, 50, [.int .i64 p0_0, .int .i64 p0_1, .int .i64 p0_2, .slice a_p0_3 p0_3.length c_p0_3]⟩], [⟨b2, 23, [.int .i64 p1_0, .int .i64 p1_1]⟩]]) ?_ (fun hk14 => ?_)
            · refine WK_cond (b := s_8) rfl (fun hb15 => ?_) (fun hb15 => ?_)
              · have hm := ifT hb15 hm
                refine WK_seq ?_
                refine WK_region ?_
                refine WO_pure tbok 1 [(2, .slice a_p2 p2.length c_p2), (3, .pointer (some ⟨b1, 0, none⟩)), (4, .pointer (some ⟨b2, 0, none⟩)), (6, .bool false), (7, .int .i64 y_3), (8, .int .i64 y_4), (9, .int .i64 y_5), (10, .int .i64 y_6), (11, .int .i64 y_7)] rfl ⟨rfl, rfl, rfl, rfl, rfl, rfl, rfl, rfl, rfl, trivial⟩ ?_
                refine WO_end ?_
                cases hm
                exact WK_ret (ret_out (L := []) (RLc_tmp rfl RLc_nil) (List.nil_sublist _) rfl)
              · have hm := ifF hb15 hm
                refine WK_skip ?_
                refine WK_region ?_
                refine WO_pure tbok 2 [(2, .slice a_p2 p2.length c_p2), (3, .pointer (some ⟨b1, 0, none⟩)), (4, .pointer (some ⟨b2, 0, none⟩)), (6, .bool false), (7, .int .i64 y_3), (8, .int .i64 y_4), (9, .int .i64 y_5), (10, .int .i64 y_6), (11, .int .i64 y_7), (71, .slice a_p2 p2.length c_p2), (72, .pointer (some ⟨b1, 0, none⟩))] rfl ⟨rfl, rfl, rfl, rfl, rfl, rfl, rfl, rfl, rfl, rfl, rfl, trivial⟩ ?_
                refine WO_loadB tbok 0 rfl rfl rfl rfl (fun _ h => h) rfl rfl ?_
                refine WO_pure tbok 1 [(2, .slice a_p2 p2.length c_p2), (3, .pointer (some ⟨b1, 0, none⟩)), (4, .pointer (some ⟨b2, 0, none⟩)), (6, .bool false), (7, .int .i64 y_3), (8, .int .i64 y_4), (9, .int .i64 y_5), (10, .int .i64 y_6), (11, .int .i64 y_7), (71, .slice a_p2 p2.length c_p2), (73, .int .i64 p0_0), (74, .pointer (some ⟨b1, 1, none⟩))] rfl ⟨rfl, rfl, rfl, rfl, rfl, rfl, rfl, rfl, rfl, rfl, rfl, rfl, trivial⟩ ?_
                refine WO_loadB tbok 0 rfl rfl rfl rfl (fun _ h => h) rfl rfl ?_
                refine WO_pure tbok 2 [(2, .slice a_p2 p2.length c_p2), (3, .pointer (some ⟨b1, 0, none⟩)), (4, .pointer (some ⟨b2, 0, none⟩)), (6, .bool false), (7, .int .i64 y_3), (8, .int .i64 y_4), (9, .int .i64 y_5), (10, .int .i64 y_6), (11, .int .i64 y_7), (71, .slice a_p2 p2.length c_p2), (76, .int .i64 (w64 (p0_0 * p0_1))), (77, .pointer (some ⟨b1, 2, none⟩))] rfl ⟨rfl, rfl, rfl, rfl, rfl, rfl, rfl, rfl, rfl, rfl, rfl, rfl, trivial⟩ ?_
                refine WO_loadB tbok 0 rfl rfl rfl rfl (fun _ h => h) rfl rfl ?_
                obtain ⟨y_9, hc16, hm⟩ := bind_some hm
                refine WO_call0 (.int .i64 y_9) rfl rfl trivial rfl rfl rfl rfl St_closed ⟨16, #[], #[], rfl, callable_16, fun w hw => ⟨_, hw.sat, fiduciallaw45_labelled_walk h_p2 hc16⟩⟩ ?_
                refine WO_pure tbok 1 [(2, .slice a_p2 p2.length c_p2), (3, .pointer (some ⟨b1, 0, none⟩)), (4, .pointer (some ⟨b2, 0, none⟩)), (6, .bool false), (7, .int .i64 y_3), (8, .int .i64 y_4), (9, .int .i64 y_5), (10, .int .i64 y_6), (11, .int .i64 y_9)] rfl ⟨rfl, rfl, rfl, rfl, rfl, rfl, rfl, rfl, rfl, trivial⟩ ?_
                refine WO_end ?_
                refine WK_seq ?_
                refine WK_seq ?_
                refine WK_region ?_
                refine WO_pure tbok 2 [(2, .slice a_p2 p2.length c_p2), (3, .pointer (some ⟨b1, 0, none⟩)), (4, .pointer (some ⟨b2, 0, none⟩)), (6, .bool false), (7, .int .i64 y_3), (8, .int .i64 y_4), (9, .int .i64 y_5), (10, .int .i64 y_6), (11, .int .i64 y_9), (88, .bool (y_9 != 0))] rfl ⟨rfl, rfl, rfl, rfl, rfl, rfl, rfl, rfl, rfl, rfl, trivial⟩ ?_
                refine WO_end ?_
                refine WK_cond (b := y_9 != 0) rfl (fun hb17 => ?_) (fun hb17 => ?_)
                · have hm := ifT hb17 hm
                  refine WK_seq ?_
                  refine WK_region ?_
                  refine WO_pure tbok 4 [(2, .slice a_p2 p2.length c_p2), (3, .pointer (some ⟨b1, 0, none⟩)), (4, .pointer (some ⟨b2, 0, none⟩)), (6, .bool false), (7, .int .i64 y_3), (8, .int .i64 y_4), (9, .int .i64 y_5), (10, .int .i64 y_6), (92, .bool (y_4 == y_9))] rfl ⟨rfl, rfl, rfl, rfl, rfl, rfl, rfl, rfl, rfl, trivial⟩ ?_
                  refine WO_split (d := 92) (b := y_4 == y_9) rfl (fun hb18 => ?_) (fun hb18 => ?_)
                  · have hm := ifT hb18 hm
                    refine WO_pure tbok 4 [(2, .slice a_p2 p2.length c_p2), (3, .pointer (some ⟨b1, 0, none⟩)), (4, .pointer (some ⟨b2, 0, none⟩)), (6, .bool (y_3 == 0)), (7, .int .i64 y_3), (8, .int .i64 y_4), (9, .int .i64 y_5), (10, .int .i64 y_6)] rfl ⟨rfl, rfl, rfl, rfl, rfl, rfl, rfl, rfl, trivial⟩ ?_
                    refine WO_end ?_
                    cases hm
                    exact WK_ret (ret_out (L := []) (RLc_tmp rfl RLc_nil) (List.nil_sublist _) rfl)
                  · have hm := ifF hb18 hm
                    refine WO_pure tbok 4 [(2, .slice a_p2 p2.length c_p2), (3, .pointer (some ⟨b1, 0, none⟩)), (4, .pointer (some ⟨b2, 0, none⟩)), (6, .bool false), (7, .int .i64 y_3), (8, .int .i64 y_4), (9, .int .i64 y_5), (10, .int .i64 y_6)] rfl ⟨rfl, rfl, rfl, rfl, rfl, rfl, rfl, rfl, trivial⟩ ?_
                    refine WO_end ?_
                    cases hm
                    exact WK_ret (ret_out (L := []) (RLc_tmp rfl RLc_nil) (List.nil_sublist _) rfl)
                · have hm := ifF hb17 hm
                  refine WK_skip ?_
                  refine WK_seq ?_
                  refine WK_region ?_
                  refine WO_pure tbok 3 [(2, .slice a_p2 p2.length c_p2), (3, .pointer (some ⟨b1, 0, none⟩)), (4, .pointer (some ⟨b2, 0, none⟩)), (6, .bool false), (7, .int .i64 y_3), (9, .int .i64 y_5), (10, .int .i64 y_6), (98, .bool (y_4 == 0))] rfl ⟨rfl, rfl, rfl, rfl, rfl, rfl, rfl, rfl, trivial⟩ ?_
                  refine WO_split (d := 98) (b := y_4 == 0) rfl (fun hb19 => ?_) (fun hb19 => ?_)
                  · have hm := ifT hb19 hm
                    refine WO_pure tbok 1 [(2, .slice a_p2 p2.length c_p2), (3, .pointer (some ⟨b1, 0, none⟩)), (4, .pointer (some ⟨b2, 0, none⟩)), (6, .bool false), (7, .int .i64 y_3), (9, .int .i64 y_5), (10, .int .i64 y_6), (98, .bool true), (99, .int .i64 y_3)] rfl ⟨rfl, rfl, rfl, rfl, rfl, rfl, rfl, rfl, rfl, trivial⟩ ?_
                    refine WO_loadB tbok 0 rfl rfl rfl rfl (fun _ h => h) rfl rfl ?_
                    refine WO_pure tbok 1 [(2, .slice a_p2 p2.length c_p2), (4, .pointer (some ⟨b2, 0, none⟩)), (6, .bool false), (7, .int .i64 y_3), (9, .int .i64 y_5), (10, .int .i64 y_6), (98, .bool true), (99, .int .i64 y_3), (100, .agg #[.int .i64 p0_0, .int .i64 p0_1, .int .i64 p0_2, .slice a_p0_3 p0_3.length c_p0_3]), (101, .pointer (some ⟨b2, 0, none⟩))] rfl ⟨rfl, rfl, rfl, rfl, rfl, rfl, rfl, rfl, rfl, rfl, trivial⟩ ?_
                    refine WO_loadB tbok 1 rfl rfl rfl rfl (fun _ h => h) rfl rfl ?_
                    refine WO_pure tbok 1 [(2, .slice a_p2 p2.length c_p2), (6, .bool false), (7, .int .i64 y_3), (9, .int .i64 y_5), (10, .int .i64 y_6), (98, .bool true), (99, .int .i64 y_3), (100, .agg #[.int .i64 p0_0, .int .i64 p0_1, .int .i64 p0_2, .slice a_p0_3 p0_3.length c_p0_3]), (102, .int .i64 p1_0), (103, .pointer (some ⟨b2, 1, none⟩))] rfl ⟨rfl, rfl, rfl, rfl, rfl, rfl, rfl, rfl, rfl, rfl, trivial⟩ ?_
                    refine WO_loadB tbok 1 rfl rfl rfl rfl (fun _ h => h) rfl rfl ?_
                    refine WO_pure tbok 1 [(6, .bool false), (7, .int .i64 y_3), (9, .int .i64 y_5), (10, .int .i64 y_6), (98, .bool true), (99, .int .i64 y_3), (100, .agg #[.int .i64 p0_0, .int .i64 p0_1, .int .i64 p0_2, .slice a_p0_3 p0_3.length c_p0_3]), (102, .int .i64 p1_0), (104, .int .i64 p1_1), (105, .slice a_p2 p2.length c_p2)] rfl ⟨rfl, rfl, rfl, rfl, rfl, rfl, rfl, rfl, rfl, rfl, trivial⟩ ?_
                    obtain ⟨y_10, hc20, hm⟩ := bind_some hm
                    refine WO_call0 (.int .i64 y_10) rfl rfl trivial rfl rfl rfl rfl St_closed ⟨28, #[], #[], rfl, callable_28, fun w hw => ⟨_, hw.sat, fiduciallaw45_grid_walk h_p0_3 h_p2 hc20⟩⟩ ?_
                    refine WO_pure tbok 3 [(6, .bool false), (7, .int .i64 y_3), (9, .int .i64 y_5), (10, .int .i64 y_6), (109, .bool (y_3 == y_10))] rfl ⟨rfl, rfl, rfl, rfl, rfl, trivial⟩ ?_
                    refine WO_split (d := 109) (b := y_3 == y_10) rfl (fun hb21 => ?_) (fun hb21 => ?_)
                    · have hm := ifT hb21 hm
                      refine WO_pure tbok 3 [(6, .bool false), (7, .int .i64 y_3), (9, .int .i64 y_5), (109, .bool true), (112, .bool (y_6 != 0))] rfl ⟨rfl, rfl, rfl, rfl, rfl, trivial⟩ ?_
                      refine WO_split (d := 112) (b := y_6 != 0) rfl (fun hb22 => ?_) (fun hb22 => ?_)
                      · have hm := ifT hb22 hm
                        refine WO_pure tbok 7 [(6, .bool true)] rfl ⟨rfl, trivial⟩ ?_
                        refine WO_end ?_
                        cases hm
                        exact WK_ret (ret_out (L := []) (RLc_tmp rfl RLc_nil) (List.nil_sublist _) rfl)
                      · have hm := ifF hb22 hm
                        refine WO_pure tbok 7 [(6, .bool (decide (y_5 ≤ (w64 (2 * y_3)))))] rfl ⟨rfl, trivial⟩ ?_
                        refine WO_end ?_
                        cases hm
                        exact WK_ret (ret_out (L := []) (RLc_tmp rfl RLc_nil) (List.nil_sublist _) rfl)
                    · have hm := ifF hb21 hm
                      refine WO_pure tbok 10 [(6, .bool false)] rfl ⟨rfl, trivial⟩ ?_
                      refine WO_end ?_
                      cases hm
                      exact WK_ret (ret_out (L := []) (RLc_tmp rfl RLc_nil) (List.nil_sublist _) rfl)
                  · have hm := ifF hb19 hm
                    refine WO_pure tbok 7 [(6, .bool false), (7, .int .i64 y_3), (9, .int .i64 y_5), (10, .int .i64 y_6), (98, .bool false)] rfl ⟨rfl, rfl, rfl, rfl, rfl, trivial⟩ ?_
                    refine WO_skip rfl rfl ?_
                    refine WO_pure tbok 13 [(6, .bool false)] rfl ⟨rfl, trivial⟩ ?_
                    refine WO_end ?_
                    cases hm
                    exact WK_ret (ret_out (L := []) (RLc_tmp rfl RLc_nil) (List.nil_sublist _) rfl)
            · refine WK_region ?_
              refine WO_pure tbok 3 [(2, .slice a_p2 p2.length c_p2), (3, .pointer (some ⟨b1, 0, none⟩)), (4, .pointer (some ⟨b2, 0, none⟩)), (6, .bool false), (7, .int .i64 y_3), (8, .int .i64 y_4), (9, .int .i64 y_5), (10, .int .i64 y_6), (11, .int .i64 y_7), (55, .bool (y_6 != 2))] rfl ⟨rfl, rfl, rfl, rfl, rfl, rfl, rfl, rfl, rfl, rfl, trivial⟩ ?_
              refine WO_split (d := 55) (b := y_6 != 2) rfl (fun hb23 => ?_) (fun hb23 => ?_)
              · have hx13 := ifT hb23 hx13
                refine WO_pure tbok 3 [(2, .slice a_p2 p2.length c_p2), (3, .pointer (some ⟨b1, 0, none⟩)), (4, .pointer (some ⟨b2, 0, none⟩)), (6, .bool false), (7, .int .i64 y_3), (8, .int .i64 y_4), (9, .int .i64 y_5), (10, .int .i64 y_6), (11, .int .i64 y_7), (58, .bool true)] rfl ⟨rfl, rfl, rfl, rfl, rfl, rfl, rfl, rfl, rfl, rfl, trivial⟩ ?_
                refine WO_end ?_
                cases hx13
                refine WK.sub ?_ (WK.cls (fun _ h => h) hk14)
                exact ⟨rfl, rfl, rfl, rfl, rfl, rfl, rfl, rfl, rfl, rfl, trivial⟩
              · have hx13 := ifF hb23 hx13
                refine WO_pure tbok 3 [(2, .slice a_p2 p2.length c_p2), (3, .pointer (some ⟨b1, 0, none⟩)), (4, .pointer (some ⟨b2, 0, none⟩)), (6, .bool false), (7, .int .i64 y_3), (8, .int .i64 y_4), (9, .int .i64 y_5), (10, .int .i64 y_6), (11, .int .i64 y_7), (58, .bool (y_5 != 0))] rfl ⟨rfl, rfl, rfl, rfl, rfl, rfl, rfl, rfl, rfl, rfl, trivial⟩ ?_
                refine WO_end ?_
                cases hx13
                refine WK.sub ?_ (WK.cls (fun _ h => h) hk14)
                exact ⟨rfl, rfl, rfl, rfl, rfl, rfl, rfl, rfl, rfl, rfl, trivial⟩
          · have hm := ifF hb12 hm
            refine WK_seq ?_
            obtain ⟨s_11, hx24, hm⟩ := bind_some hm
            refine WK_meet [(2, .slice a_p2 p2.length c_p2), (3, .pointer (some ⟨b1, 0, none⟩)), (4, .pointer (some ⟨b2, 0, none⟩)), (6, .bool false), (7, .int .i64 y_3), (8, .int .i64 y_4), (9, .int .i64 y_5), (10, .int .i64 y_6), (11, .int .i64 y_7), (70, .bool s_11)] (St w0 m m [[⟨b1, 50, [.int .i64 p0_0, .int .i64 p0_1, .int .i64 p0_2, .slice a_p0_3 p0_3.length c_p0_3]⟩], [⟨b2, 23, [.int .i64 p1_0, .int .i64 p1_1]⟩]]) ?_ (fun hk25 => ?_)
            · refine WK_cond (b := s_11) rfl (fun hb26 => ?_) (fun hb26 => ?_)
              · have hm := ifT hb26 hm
                refine WK_seq ?_
                refine WK_region ?_
                refine WO_pure tbok 1 [(2, .slice a_p2 p2.length c_p2), (3, .pointer (some ⟨b1, 0, none⟩)), (4, .pointer (some ⟨b2, 0, none⟩)), (6, .bool false), (7, .int .i64 y_3), (8, .int .i64 y_4), (9, .int .i64 y_5), (10, .int .i64 y_6), (11, .int .i64 y_7)] rfl ⟨rfl, rfl, rfl, rfl, rfl, rfl, rfl, rfl, rfl, trivial⟩ ?_
                refine WO_end ?_
                cases hm
                exact WK_ret (ret_out (L := []) (RLc_tmp rfl RLc_nil) (List.nil_sublist _) rfl)
              · have hm := ifF hb26 hm
                refine WK_skip ?_
                refine WK_region ?_
                refine WO_pure tbok 2 [(2, .slice a_p2 p2.length c_p2), (3, .pointer (some ⟨b1, 0, none⟩)), (4, .pointer (some ⟨b2, 0, none⟩)), (6, .bool false), (7, .int .i64 y_3), (8, .int .i64 y_4), (9, .int .i64 y_5), (10, .int .i64 y_6), (11, .int .i64 y_7), (71, .slice a_p2 p2.length c_p2), (72, .pointer (some ⟨b1, 0, none⟩))] rfl ⟨rfl, rfl, rfl, rfl, rfl, rfl, rfl, rfl, rfl, rfl, rfl, trivial⟩ ?_
                refine WO_loadB tbok 0 rfl rfl rfl rfl (fun _ h => h) rfl rfl ?_
                refine WO_pure tbok 1 [(2, .slice a_p2 p2.length c_p2), (3, .pointer (some ⟨b1, 0, none⟩)), (4, .pointer (some ⟨b2, 0, none⟩)), (6, .bool false), (7, .int .i64 y_3), (8, .int .i64 y_4), (9, .int .i64 y_5), (10, .int .i64 y_6), (11, .int .i64 y_7), (71, .slice a_p2 p2.length c_p2), (73, .int .i64 p0_0), (74, .pointer (some ⟨b1, 1, none⟩))] rfl ⟨rfl, rfl, rfl, rfl, rfl, rfl, rfl, rfl, rfl, rfl, rfl, rfl, trivial⟩ ?_
                refine WO_loadB tbok 0 rfl rfl rfl rfl (fun _ h => h) rfl rfl ?_
                refine WO_pure tbok 2 [(2, .slice a_p2 p2.length c_p2), (3, .pointer (some ⟨b1, 0, none⟩)), (4, .pointer (some ⟨b2, 0, none⟩)), (6, .bool false), (7, .int .i64 y_3), (8, .int .i64 y_4), (9, .int .i64 y_5), (10, .int .i64 y_6), (11, .int .i64 y_7), (71, .slice a_p2 p2.length c_p2), (76, .int .i64 (w64 (p0_0 * p0_1))), (77, .pointer (some ⟨b1, 2, none⟩))] rfl ⟨rfl, rfl, rfl, rfl, rfl, rfl, rfl, rfl, rfl, rfl, rfl, rfl, trivial⟩ ?_
                refine WO_loadB tbok 0 rfl rfl rfl rfl (fun _ h => h) rfl rfl ?_
                obtain ⟨y_12, hc27, hm⟩ := bind_some hm
                refine WO_call0 (.int .i64 y_12) rfl rfl trivial rfl rfl rfl rfl St_closed ⟨16, #[], #[], rfl, callable_16, fun w hw => ⟨_, hw.sat, fiduciallaw45_labelled_walk h_p2 hc27⟩⟩ ?_
                refine WO_pure tbok 1 [(2, .slice a_p2 p2.length c_p2), (3, .pointer (some ⟨b1, 0, none⟩)), (4, .pointer (some ⟨b2, 0, none⟩)), (6, .bool false), (7, .int .i64 y_3), (8, .int .i64 y_4), (9, .int .i64 y_5), (10, .int .i64 y_6), (11, .int .i64 y_12)] rfl ⟨rfl, rfl, rfl, rfl, rfl, rfl, rfl, rfl, rfl, trivial⟩ ?_
                refine WO_end ?_
                refine WK_seq ?_
                refine WK_seq ?_
                refine WK_region ?_
                refine WO_pure tbok 2 [(2, .slice a_p2 p2.length c_p2), (3, .pointer (some ⟨b1, 0, none⟩)), (4, .pointer (some ⟨b2, 0, none⟩)), (6, .bool false), (7, .int .i64 y_3), (8, .int .i64 y_4), (9, .int .i64 y_5), (10, .int .i64 y_6), (11, .int .i64 y_12), (88, .bool (y_12 != 0))] rfl ⟨rfl, rfl, rfl, rfl, rfl, rfl, rfl, rfl, rfl, rfl, trivial⟩ ?_
                refine WO_end ?_
                refine WK_cond (b := y_12 != 0) rfl (fun hb28 => ?_) (fun hb28 => ?_)
                · have hm := ifT hb28 hm
                  refine WK_seq ?_
                  refine WK_region ?_
                  refine WO_pure tbok 4 [(2, .slice a_p2 p2.length c_p2), (3, .pointer (some ⟨b1, 0, none⟩)), (4, .pointer (some ⟨b2, 0, none⟩)), (6, .bool false), (7, .int .i64 y_3), (8, .int .i64 y_4), (9, .int .i64 y_5), (10, .int .i64 y_6), (92, .bool (y_4 == y_12))] rfl ⟨rfl, rfl, rfl, rfl, rfl, rfl, rfl, rfl, rfl, trivial⟩ ?_
                  refine WO_split (d := 92) (b := y_4 == y_12) rfl (fun hb29 => ?_) (fun hb29 => ?_)
                  · have hm := ifT hb29 hm
                    refine WO_pure tbok 4 [(2, .slice a_p2 p2.length c_p2), (3, .pointer (some ⟨b1, 0, none⟩)), (4, .pointer (some ⟨b2, 0, none⟩)), (6, .bool (y_3 == 0)), (7, .int .i64 y_3), (8, .int .i64 y_4), (9, .int .i64 y_5), (10, .int .i64 y_6)] rfl ⟨rfl, rfl, rfl, rfl, rfl, rfl, rfl, rfl, trivial⟩ ?_
                    refine WO_end ?_
                    cases hm
                    exact WK_ret (ret_out (L := []) (RLc_tmp rfl RLc_nil) (List.nil_sublist _) rfl)
                  · have hm := ifF hb29 hm
                    refine WO_pure tbok 4 [(2, .slice a_p2 p2.length c_p2), (3, .pointer (some ⟨b1, 0, none⟩)), (4, .pointer (some ⟨b2, 0, none⟩)), (6, .bool false), (7, .int .i64 y_3), (8, .int .i64 y_4), (9, .int .i64 y_5), (10, .int .i64 y_6)] rfl ⟨rfl, rfl, rfl, rfl, rfl, rfl, rfl, rfl, trivial⟩ ?_
                    refine WO_end ?_
                    cases hm
                    exact WK_ret (ret_out (L := []) (RLc_tmp rfl RLc_nil) (List.nil_sublist _) rfl)
                · have hm := ifF hb28 hm
                  refine WK_skip ?_
                  refine WK_seq ?_
                  refine WK_region ?_
                  refine WO_pure tbok 3 [(2, .slice a_p2 p2.length c_p2), (3, .pointer (some ⟨b1, 0, none⟩)), (4, .pointer (some ⟨b2, 0, none⟩)), (6, .bool false), (7, .int .i64 y_3), (9, .int .i64 y_5), (10, .int .i64 y_6), (98, .bool (y_4 == 0))] rfl ⟨rfl, rfl, rfl, rfl, rfl, rfl, rfl, rfl, trivial⟩ ?_
                  refine WO_split (d := 98) (b := y_4 == 0) rfl (fun hb30 => ?_) (fun hb30 => ?_)
                  · have hm := ifT hb30 hm
                    refine WO_pure tbok 1 [(2, .slice a_p2 p2.length c_p2), (3, .pointer (some ⟨b1, 0, none⟩)), (4, .pointer (some ⟨b2, 0, none⟩)), (6, .bool false), (7, .int .i64 y_3), (9, .int .i64 y_5), (10, .int .i64 y_6), (98, .bool true), (99, .int .i64 y_3)] rfl ⟨rfl, rfl, rfl, rfl, rfl, rfl, rfl, rfl, rfl, trivial⟩ ?_
                    refine WO_loadB tbok 0 rfl rfl rfl rfl (fun _ h => h) rfl rfl ?_
                    refine WO_pure tbok 1 [(2, .slice a_p2 p2.length c_p2), (4, .pointer (some ⟨b2, 0, none⟩)), (6, .bool false), (7, .int .i64 y_3), (9, .int .i64 y_5), (10, .int .i64 y_6), (98, .bool true), (99, .int .i64 y_3), (100, .agg #[.int .i64 p0_0, .int .i64 p0_1, .int .i64 p0_2, .slice a_p0_3 p0_3.length c_p0_3]), (101, .pointer (some ⟨b2, 0, none⟩))] rfl ⟨rfl, rfl, rfl, rfl, rfl, rfl, rfl, rfl, rfl, rfl, trivial⟩ ?_
                    refine WO_loadB tbok 1 rfl rfl rfl rfl (fun _ h => h) rfl rfl ?_
                    refine WO_pure tbok 1 [(2, .slice a_p2 p2.length c_p2), (6, .bool false), (7, .int .i64 y_3), (9, .int .i64 y_5), (10, .int .i64 y_6), (98, .bool true), (99, .int .i64 y_3), (100, .agg #[.int .i64 p0_0, .int .i64 p0_1, .int .i64 p0_2, .slice a_p0_3 p0_3.length c_p0_3]), (102, .int .i64 p1_0), (103, .pointer (some ⟨b2, 1, none⟩))] rfl ⟨rfl, rfl, rfl, rfl, rfl, rfl, rfl, rfl, rfl, rfl, trivial⟩ ?_
                    refine WO_loadB tbok 1 rfl rfl rfl rfl (fun _ h => h) rfl rfl ?_
                    refine WO_pure tbok 1 [(6, .bool false), (7, .int .i64 y_3), (9, .int .i64 y_5), (10, .int .i64 y_6), (98, .bool true), (99, .int .i64 y_3), (100, .agg #[.int .i64 p0_0, .int .i64 p0_1, .int .i64 p0_2, .slice a_p0_3 p0_3.length c_p0_3]), (102, .int .i64 p1_0), (104, .int .i64 p1_1), (105, .slice a_p2 p2.length c_p2)] rfl ⟨rfl, rfl, rfl, rfl, rfl, rfl, rfl, rfl, rfl, rfl, trivial⟩ ?_
                    obtain ⟨y_13, hc31, hm⟩ := bind_some hm
                    refine WO_call0 (.int .i64 y_13) rfl rfl trivial rfl rfl rfl rfl St_closed ⟨28, #[], #[], rfl, callable_28, fun w hw => ⟨_, hw.sat, fiduciallaw45_grid_walk h_p0_3 h_p2 hc31⟩⟩ ?_
                    refine WO_pure tbok 3 [(6, .bool false), (7, .int .i64 y_3), (9, .int .i64 y_5), (10, .int .i64 y_6), (109, .bool (y_3 == y_13))] rfl ⟨rfl, rfl, rfl, rfl, rfl, trivial⟩ ?_
                    refine WO_split (d := 109) (b := y_3 == y_13) rfl (fun hb32 => ?_) (fun hb32 => ?_)
                    · have hm := ifT hb32 hm
                      refine WO_pure tbok 3 [(6, .bool false), (7, .int .i64 y_3), (9, .int .i64 y_5), (109, .bool true), (112, .bool (y_6 != 0))] rfl ⟨rfl, rfl, rfl, rfl, rfl, trivial⟩ ?_
                      refine WO_split (d := 112) (b := y_6 != 0) rfl (fun hb33 => ?_) (fun hb33 => ?_)
                      · have hm := ifT hb33 hm
                        refine WO_pure tbok 7 [(6, .bool true)] rfl ⟨rfl, trivial⟩ ?_
                        refine WO_end ?_
                        cases hm
                        exact WK_ret (ret_out (L := []) (RLc_tmp rfl RLc_nil) (List.nil_sublist _) rfl)
                      · have hm := ifF hb33 hm
                        refine WO_pure tbok 7 [(6, .bool (decide (y_5 ≤ (w64 (2 * y_3)))))] rfl ⟨rfl, trivial⟩ ?_
                        refine WO_end ?_
                        cases hm
                        exact WK_ret (ret_out (L := []) (RLc_tmp rfl RLc_nil) (List.nil_sublist _) rfl)
                    · have hm := ifF hb32 hm
                      refine WO_pure tbok 10 [(6, .bool false)] rfl ⟨rfl, trivial⟩ ?_
                      refine WO_end ?_
                      cases hm
                      exact WK_ret (ret_out (L := []) (RLc_tmp rfl RLc_nil) (List.nil_sublist _) rfl)
                  · have hm := ifF hb30 hm
                    refine WO_pure tbok 7 [(6, .bool false), (7, .int .i64 y_3), (9, .int .i64 y_5), (10, .int .i64 y_6), (98, .bool false)] rfl ⟨rfl, rfl, rfl, rfl, rfl, trivial⟩ ?_
                    refine WO_skip rfl rfl ?_
                    refine WO_pure tbok 13 [(6, .bool false)] rfl ⟨rfl, trivial⟩ ?_
                    refine WO_end ?_
                    cases hm
                    exact WK_ret (ret_out (L := []) (RLc_tmp rfl RLc_nil) (List.nil_sublist _) rfl)
            · refine WK_region ?_
              refine WO_pure tbok 3 [(2, .slice a_p2 p2.length c_p2), (3, .pointer (some ⟨b1, 0, none⟩)), (4, .pointer (some ⟨b2, 0, none⟩)), (6, .bool false), (7, .int .i64 y_3), (8, .int .i64 y_4), (9, .int .i64 y_5), (10, .int .i64 y_6), (11, .int .i64 y_7), (61, .bool (y_6 != 0))] rfl ⟨rfl, rfl, rfl, rfl, rfl, rfl, rfl, rfl, rfl, rfl, trivial⟩ ?_
              refine WO_split (d := 61) (b := y_6 != 0) rfl (fun hb34 => ?_) (fun hb34 => ?_)
              · have hx24 := ifT hb34 hx24
                refine WO_pure tbok 6 [(2, .slice a_p2 p2.length c_p2), (3, .pointer (some ⟨b1, 0, none⟩)), (4, .pointer (some ⟨b2, 0, none⟩)), (6, .bool false), (7, .int .i64 y_3), (8, .int .i64 y_4), (9, .int .i64 y_5), (10, .int .i64 y_6), (11, .int .i64 y_7), (61, .bool true)] rfl ⟨rfl, rfl, rfl, rfl, rfl, rfl, rfl, rfl, rfl, rfl, trivial⟩ ?_
                refine WO_skip rfl rfl ?_
                refine WO_pure tbok 2 [(2, .slice a_p2 p2.length c_p2), (3, .pointer (some ⟨b1, 0, none⟩)), (4, .pointer (some ⟨b2, 0, none⟩)), (6, .bool false), (7, .int .i64 y_3), (8, .int .i64 y_4), (9, .int .i64 y_5), (10, .int .i64 y_6), (11, .int .i64 y_7), (70, .bool true)] rfl ⟨rfl, rfl, rfl, rfl, rfl, rfl, rfl, rfl, rfl, rfl, trivial⟩ ?_
                refine WO_end ?_
                cases hx24
                refine WK.sub ?_ (WK.cls (fun _ h => h) hk25)
                exact ⟨rfl, rfl, rfl, rfl, rfl, rfl, rfl, rfl, rfl, rfl, trivial⟩
              · have hx24 := ifF hb34 hx24
                refine WO_pure tbok 1 [(2, .slice a_p2 p2.length c_p2), (3, .pointer (some ⟨b1, 0, none⟩)), (4, .pointer (some ⟨b2, 0, none⟩)), (6, .bool false), (7, .int .i64 y_3), (8, .int .i64 y_4), (9, .int .i64 y_5), (10, .int .i64 y_6), (11, .int .i64 y_7), (61, .bool false), (62, .int .i64 y_5)] rfl ⟨rfl, rfl, rfl, rfl, rfl, rfl, rfl, rfl, rfl, rfl, rfl, trivial⟩ ?_
                refine WO_loadB tbok 0 rfl rfl rfl rfl (fun _ h => h) rfl rfl ?_
                refine WO_pure tbok 1 [(2, .slice a_p2 p2.length c_p2), (3, .pointer (some ⟨b1, 0, none⟩)), (4, .pointer (some ⟨b2, 0, none⟩)), (6, .bool false), (7, .int .i64 y_3), (8, .int .i64 y_4), (9, .int .i64 y_5), (10, .int .i64 y_6), (11, .int .i64 y_7), (61, .bool false), (62, .int .i64 y_5), (63, .agg #[.int .i64 p0_0, .int .i64 p0_1, .int .i64 p0_2, .slice a_p0_3 p0_3.length c_p0_3]), (64, .pointer (some ⟨b2, 0, none⟩))] rfl ⟨rfl, rfl, rfl, rfl, rfl, rfl, rfl, rfl, rfl, rfl, rfl, rfl, rfl, trivial⟩ ?_
                refine WO_loadB tbok 1 rfl rfl rfl rfl (fun _ h => h) rfl rfl ?_
                refine WO_pure tbok 1 [(2, .slice a_p2 p2.length c_p2), (3, .pointer (some ⟨b1, 0, none⟩)), (4, .pointer (some ⟨b2, 0, none⟩)), (6, .bool false), (7, .int .i64 y_3), (8, .int .i64 y_4), (9, .int .i64 y_5), (10, .int .i64 y_6), (11, .int .i64 y_7), (61, .bool false), (62, .int .i64 y_5), (63, .agg #[.int .i64 p0_0, .int .i64 p0_1, .int .i64 p0_2, .slice a_p0_3 p0_3.length c_p0_3]), (65, .int .i64 p1_0), (66, .pointer (some ⟨b2, 1, none⟩))] rfl ⟨rfl, rfl, rfl, rfl, rfl, rfl, rfl, rfl, rfl, rfl, rfl, rfl, rfl, rfl, trivial⟩ ?_
                refine WO_loadB tbok 1 rfl rfl rfl rfl (fun _ h => h) rfl rfl ?_
                obtain ⟨y_14, hc35, hx24⟩ := bind_some hx24
                refine WO_call0 (.int .i64 y_14) rfl rfl trivial rfl rfl rfl rfl St_closed ⟨27, #[], #[], rfl, callable_27, fun w hw => ⟨_, hw.sat, fiduciallaw45_bound_walk h_p0_3 hc35⟩⟩ ?_
                refine WO_pure tbok 2 [(2, .slice a_p2 p2.length c_p2), (3, .pointer (some ⟨b1, 0, none⟩)), (4, .pointer (some ⟨b2, 0, none⟩)), (6, .bool false), (7, .int .i64 y_3), (8, .int .i64 y_4), (9, .int .i64 y_5), (10, .int .i64 y_6), (11, .int .i64 y_7), (70, .bool (y_5 != y_14))] rfl ⟨rfl, rfl, rfl, rfl, rfl, rfl, rfl, rfl, rfl, rfl, trivial⟩ ?_
                refine WO_end ?_
                cases hx24
                refine WK.sub ?_ (WK.cls (fun _ h => h) hk25)
                exact ⟨rfl, rfl, rfl, rfl, rfl, rfl, rfl, rfl, rfl, rfl, trivial⟩
        · have hm := ifF hb11 hm
          refine WK_seq ?_
          obtain ⟨s_15, hx36, hm⟩ := bind_some hm
          refine WK_meet [(2, .slice a_p2 p2.length c_p2), (3, .pointer (some ⟨b1, 0, none⟩)), (4, .pointer (some ⟨b2, 0, none⟩)), (6, .bool false), (7, .int .i64 y_3), (8, .int .i64 y_4), (9, .int .i64 y_5), (10, .int .i64 y_6), (11, .int .i64 y_7), (86, .bool s_15)] (St w0 m m [[⟨b1, 50, [.int .i64 p0_0, .int .i64 p0_1, .int .i64 p0_2, .slice a_p0_3 p0_3.length c_p0_3]⟩], [⟨b2, 23, [.int .i64 p1_0, .int .i64 p1_1]⟩]]) ?_ (fun hk37 => ?_)
          · refine WK_cond (b := s_15) rfl (fun hb38 => ?_) (fun hb38 => ?_)
            · have hm := ifT hb38 hm
              refine WK_seq ?_
              refine WK_region ?_
              refine WO_pure tbok 1 [(2, .slice a_p2 p2.length c_p2), (3, .pointer (some ⟨b1, 0, none⟩)), (4, .pointer (some ⟨b2, 0, none⟩)), (6, .bool false), (7, .int .i64 y_3), (8, .int .i64 y_4), (9, .int .i64 y_5), (10, .int .i64 y_6), (11, .int .i64 y_7)] rfl ⟨rfl, rfl, rfl, rfl, rfl, rfl, rfl, rfl, rfl, trivial⟩ ?_
              refine WO_end ?_
              cases hm
              exact WK_ret (ret_out (L := []) (RLc_tmp rfl RLc_nil) (List.nil_sublist _) rfl)
            · have hm := ifF hb38 hm
              refine WK_skip ?_
              refine WK_seq ?_
              refine WK_seq ?_
              refine WK_region ?_
              refine WO_pure tbok 2 [(2, .slice a_p2 p2.length c_p2), (3, .pointer (some ⟨b1, 0, none⟩)), (4, .pointer (some ⟨b2, 0, none⟩)), (6, .bool false), (7, .int .i64 y_3), (8, .int .i64 y_4), (9, .int .i64 y_5), (10, .int .i64 y_6), (11, .int .i64 y_7), (88, .bool (y_7 != 0))] rfl ⟨rfl, rfl, rfl, rfl, rfl, rfl, rfl, rfl, rfl, rfl, trivial⟩ ?_
              refine WO_end ?_
              refine WK_cond (b := y_7 != 0) rfl (fun hb39 => ?_) (fun hb39 => ?_)
              · have hm := ifT hb39 hm
                refine WK_seq ?_
                refine WK_region ?_
                refine WO_pure tbok 4 [(2, .slice a_p2 p2.length c_p2), (3, .pointer (some ⟨b1, 0, none⟩)), (4, .pointer (some ⟨b2, 0, none⟩)), (6, .bool false), (7, .int .i64 y_3), (8, .int .i64 y_4), (9, .int .i64 y_5), (10, .int .i64 y_6), (92, .bool (y_4 == y_7))] rfl ⟨rfl, rfl, rfl, rfl, rfl, rfl, rfl, rfl, rfl, trivial⟩ ?_
                refine WO_split (d := 92) (b := y_4 == y_7) rfl (fun hb40 => ?_) (fun hb40 => ?_)
                · have hm := ifT hb40 hm
                  refine WO_pure tbok 4 [(2, .slice a_p2 p2.length c_p2), (3, .pointer (some ⟨b1, 0, none⟩)), (4, .pointer (some ⟨b2, 0, none⟩)), (6, .bool (y_3 == 0)), (7, .int .i64 y_3), (8, .int .i64 y_4), (9, .int .i64 y_5), (10, .int .i64 y_6)] rfl ⟨rfl, rfl, rfl, rfl, rfl, rfl, rfl, rfl, trivial⟩ ?_
                  refine WO_end ?_
                  cases hm
                  exact WK_ret (ret_out (L := []) (RLc_tmp rfl RLc_nil) (List.nil_sublist _) rfl)
                · have hm := ifF hb40 hm
                  refine WO_pure tbok 4 [(2, .slice a_p2 p2.length c_p2), (3, .pointer (some ⟨b1, 0, none⟩)), (4, .pointer (some ⟨b2, 0, none⟩)), (6, .bool false), (7, .int .i64 y_3), (8, .int .i64 y_4), (9, .int .i64 y_5), (10, .int .i64 y_6)] rfl ⟨rfl, rfl, rfl, rfl, rfl, rfl, rfl, rfl, trivial⟩ ?_
                  refine WO_end ?_
                  cases hm
                  exact WK_ret (ret_out (L := []) (RLc_tmp rfl RLc_nil) (List.nil_sublist _) rfl)
              · have hm := ifF hb39 hm
                refine WK_skip ?_
                refine WK_seq ?_
                refine WK_region ?_
                refine WO_pure tbok 3 [(2, .slice a_p2 p2.length c_p2), (3, .pointer (some ⟨b1, 0, none⟩)), (4, .pointer (some ⟨b2, 0, none⟩)), (6, .bool false), (7, .int .i64 y_3), (9, .int .i64 y_5), (10, .int .i64 y_6), (98, .bool (y_4 == 0))] rfl ⟨rfl, rfl, rfl, rfl, rfl, rfl, rfl, rfl, trivial⟩ ?_
                refine WO_split (d := 98) (b := y_4 == 0) rfl (fun hb41 => ?_) (fun hb41 => ?_)
                · have hm := ifT hb41 hm
                  refine WO_pure tbok 1 [(2, .slice a_p2 p2.length c_p2), (3, .pointer (some ⟨b1, 0, none⟩)), (4, .pointer (some ⟨b2, 0, none⟩)), (6, .bool false), (7, .int .i64 y_3), (9, .int .i64 y_5), (10, .int .i64 y_6), (98, .bool true), (99, .int .i64 y_3)] rfl ⟨rfl, rfl, rfl, rfl, rfl, rfl, rfl, rfl, rfl, trivial⟩ ?_
                  refine WO_loadB tbok 0 rfl rfl rfl rfl (fun _ h => h) rfl rfl ?_
                  refine WO_pure tbok 1 [(2, .slice a_p2 p2.length c_p2), (4, .pointer (some ⟨b2, 0, none⟩)), (6, .bool false), (7, .int .i64 y_3), (9, .int .i64 y_5), (10, .int .i64 y_6), (98, .bool true), (99, .int .i64 y_3), (100, .agg #[.int .i64 p0_0, .int .i64 p0_1, .int .i64 p0_2, .slice a_p0_3 p0_3.length c_p0_3]), (101, .pointer (some ⟨b2, 0, none⟩))] rfl ⟨rfl, rfl, rfl, rfl, rfl, rfl, rfl, rfl, rfl, rfl, trivial⟩ ?_
                  refine WO_loadB tbok 1 rfl rfl rfl rfl (fun _ h => h) rfl rfl ?_
                  refine WO_pure tbok 1 [(2, .slice a_p2 p2.length c_p2), (6, .bool false), (7, .int .i64 y_3), (9, .int .i64 y_5), (10, .int .i64 y_6), (98, .bool true), (99, .int .i64 y_3), (100, .agg #[.int .i64 p0_0, .int .i64 p0_1, .int .i64 p0_2, .slice a_p0_3 p0_3.length c_p0_3]), (102, .int .i64 p1_0), (103, .pointer (some ⟨b2, 1, none⟩))] rfl ⟨rfl, rfl, rfl, rfl, rfl, rfl, rfl, rfl, rfl, rfl, trivial⟩ ?_
                  refine WO_loadB tbok 1 rfl rfl rfl rfl (fun _ h => h) rfl rfl ?_
                  refine WO_pure tbok 1 [(6, .bool false), (7, .int .i64 y_3), (9, .int .i64 y_5), (10, .int .i64 y_6), (98, .bool true), (99, .int .i64 y_3), (100, .agg #[.int .i64 p0_0, .int .i64 p0_1, .int .i64 p0_2, .slice a_p0_3 p0_3.length c_p0_3]), (102, .int .i64 p1_0), (104, .int .i64 p1_1), (105, .slice a_p2 p2.length c_p2)] rfl ⟨rfl, rfl, rfl, rfl, rfl, rfl, rfl, rfl, rfl, rfl, trivial⟩ ?_
                  obtain ⟨y_16, hc42, hm⟩ := bind_some hm
                  refine WO_call0 (.int .i64 y_16) rfl rfl trivial rfl rfl rfl rfl St_closed ⟨28, #[], #[], rfl, callable_28, fun w hw => ⟨_, hw.sat, fiduciallaw45_grid_walk h_p0_3 h_p2 hc42⟩⟩ ?_
                  refine WO_pure tbok 3 [(6, .bool false), (7, .int .i64 y_3), (9, .int .i64 y_5), (10, .int .i64 y_6), (109, .bool (y_3 == y_16))] rfl ⟨rfl, rfl, rfl, rfl, rfl, trivial⟩ ?_
                  refine WO_split (d := 109) (b := y_3 == y_16) rfl (fun hb43 => ?_) (fun hb43 => ?_)
                  · have hm := ifT hb43 hm
                    refine WO_pure tbok 3 [(6, .bool false), (7, .int .i64 y_3), (9, .int .i64 y_5), (109, .bool true), (112, .bool (y_6 != 0))] rfl ⟨rfl, rfl, rfl, rfl, rfl, trivial⟩ ?_
                    refine WO_split (d := 112) (b := y_6 != 0) rfl (fun hb44 => ?_) (fun hb44 => ?_)
                    · have hm := ifT hb44 hm
                      refine WO_pure tbok 7 [(6, .bool true)] rfl ⟨rfl, trivial⟩ ?_
                      refine WO_end ?_
                      cases hm
                      exact WK_ret (ret_out (L := []) (RLc_tmp rfl RLc_nil) (List.nil_sublist _) rfl)
                    · have hm := ifF hb44 hm
                      refine WO_pure tbok 7 [(6, .bool (decide (y_5 ≤ (w64 (2 * y_3)))))] rfl ⟨rfl, trivial⟩ ?_
                      refine WO_end ?_
                      cases hm
                      exact WK_ret (ret_out (L := []) (RLc_tmp rfl RLc_nil) (List.nil_sublist _) rfl)
                  · have hm := ifF hb43 hm
                    refine WO_pure tbok 10 [(6, .bool false)] rfl ⟨rfl, trivial⟩ ?_
                    refine WO_end ?_
                    cases hm
                    exact WK_ret (ret_out (L := []) (RLc_tmp rfl RLc_nil) (List.nil_sublist _) rfl)
                · have hm := ifF hb41 hm
                  refine WO_pure tbok 7 [(6, .bool false), (7, .int .i64 y_3), (9, .int .i64 y_5), (10, .int .i64 y_6), (98, .bool false)] rfl ⟨rfl, rfl, rfl, rfl, rfl, trivial⟩ ?_
                  refine WO_skip rfl rfl ?_
                  refine WO_pure tbok 13 [(6, .bool false)] rfl ⟨rfl, trivial⟩ ?_
                  refine WO_end ?_
                  cases hm
                  exact WK_ret (ret_out (L := []) (RLc_tmp rfl RLc_nil) (List.nil_sublist _) rfl)
          · refine WK_region ?_
            refine WO_pure tbok 4 [(2, .slice a_p2 p2.length c_p2), (3, .pointer (some ⟨b1, 0, none⟩)), (4, .pointer (some ⟨b2, 0, none⟩)), (6, .bool false), (7, .int .i64 y_3), (8, .int .i64 y_4), (9, .int .i64 y_5), (10, .int .i64 y_6), (11, .int .i64 y_7), (83, .bool (y_6 != y_7))] rfl ⟨rfl, rfl, rfl, rfl, rfl, rfl, rfl, rfl, rfl, rfl, trivial⟩ ?_
            refine WO_split (d := 83) (b := y_6 != y_7) rfl (fun hb45 => ?_) (fun hb45 => ?_)
            · have hx36 := ifT hb45 hx36
              refine WO_pure tbok 3 [(2, .slice a_p2 p2.length c_p2), (3, .pointer (some ⟨b1, 0, none⟩)), (4, .pointer (some ⟨b2, 0, none⟩)), (6, .bool false), (7, .int .i64 y_3), (8, .int .i64 y_4), (9, .int .i64 y_5), (10, .int .i64 y_6), (11, .int .i64 y_7), (86, .bool true)] rfl ⟨rfl, rfl, rfl, rfl, rfl, rfl, rfl, rfl, rfl, rfl, trivial⟩ ?_
              refine WO_end ?_
              cases hx36
              refine WK.sub ?_ (WK.cls (fun _ h => h) hk37)
              exact ⟨rfl, rfl, rfl, rfl, rfl, rfl, rfl, rfl, rfl, rfl, trivial⟩
            · have hx36 := ifF hb45 hx36
              refine WO_pure tbok 3 [(2, .slice a_p2 p2.length c_p2), (3, .pointer (some ⟨b1, 0, none⟩)), (4, .pointer (some ⟨b2, 0, none⟩)), (6, .bool false), (7, .int .i64 y_3), (8, .int .i64 y_4), (9, .int .i64 y_5), (10, .int .i64 y_6), (11, .int .i64 y_7), (86, .bool (y_5 != 0))] rfl ⟨rfl, rfl, rfl, rfl, rfl, rfl, rfl, rfl, rfl, rfl, trivial⟩ ?_
              refine WO_end ?_
              cases hx36
              refine WK.sub ?_ (WK.cls (fun _ h => h) hk37)
              exact ⟨rfl, rfl, rfl, rfl, rfl, rfl, rfl, rfl, rfl, rfl, trivial⟩
    · refine WK_region ?_
      refine WO_loadB tbok 0 rfl rfl rfl rfl (fun _ h => h) rfl rfl ?_
      obtain ⟨y_17, hc46, hx5⟩ := bind_some hx5
      refine WO_call0 (.bool y_17) rfl rfl trivial rfl rfl rfl rfl St_closed ⟨23, #[], #[], rfl, callable_23, fun w hw => ⟨_, hw.sat, fiduciallaw45_small_walk h_p0_3 hc46⟩⟩ ?_
      refine WO_pure tbok 2 [(2, .slice a_p2 p2.length c_p2), (3, .pointer (some ⟨b1, 0, none⟩)), (4, .pointer (some ⟨b2, 0, none⟩)), (6, .bool false), (17, .bool (!y_17))] rfl ⟨rfl, rfl, rfl, rfl, rfl, trivial⟩ ?_
      refine WO_split (d := 17) (b := !y_17) rfl (fun hb47 => ?_) (fun hb47 => ?_)
      · have hx5 := ifT hb47 hx5
        refine WO_pure tbok 4 [(2, .slice a_p2 p2.length c_p2), (3, .pointer (some ⟨b1, 0, none⟩)), (4, .pointer (some ⟨b2, 0, none⟩)), (6, .bool false), (21, .bool true)] rfl ⟨rfl, rfl, rfl, rfl, rfl, trivial⟩ ?_
        refine WO_end ?_
        cases hx5
        refine WK.sub ?_ (WK.cls (fun _ h => h) hk6)
        exact ⟨rfl, rfl, rfl, rfl, rfl, trivial⟩
      · have hx5 := ifF hb47 hx5
        refine WO_pure tbok 4 [(2, .slice a_p2 p2.length c_p2), (3, .pointer (some ⟨b1, 0, none⟩)), (4, .pointer (some ⟨b2, 0, none⟩)), (6, .bool false), (21, .bool (decide (700 < (p2.length : Int))))] rfl ⟨rfl, rfl, rfl, rfl, rfl, trivial⟩ ?_
        refine WO_end ?_
        cases hx5
        refine WK.sub ?_ (WK.cls (fun _ h => h) hk6)
        exact ⟨rfl, rfl, rfl, rfl, rfl, trivial⟩
theorem fiduciallaw45_AggregateChanges_walk {m : Mu} {p0 : List (List Int)} {p1_0 : Int} {p1_1 : Int} {p1_2 : Int} {p1_3 : Int} {p2_0 : Int} {p2_1 : Int} {a_p0 : Option Addr} {q_p0 c_p0 : Nat} (h_p0 : SlR (RowE (FE (I1 .i64)) 1) 1 m (.slice a_p0 q_p0 c_p0) p0) {r : Bool} (hm : fiduciallaw45_AggregateChanges p0 p1_0 p1_1 p1_2 p1_3 p2_0 p2_1 = some r) :
    Go.E.Spec Try.prog 5 [.slice a_p0 q_p0 c_p0, .agg #[.int .i64 p1_0, .int .i64 p1_1, .int .i64 p1_2, .int .i64 p1_3], .agg #[.int .u8 p2_0, .int .u8 p2_1]] m (fun v _ _ => v = .bool r) := by
  refine Spec_enter Try.func5 rfl rfl rfl (fun w0 => ?_)
  refine WK.sub (e' := [(0, .slice a_p0 q_p0 c_p0), (1, .agg #[.int .i64 p1_0, .int .i64 p1_1, .int .i64 p1_2, .int .i64 p1_3]), (2, .agg #[.int .u8 p2_0, .int .u8 p2_1])]) ⟨rfl, rfl, rfl, trivial⟩ ?_
  obtain rfl := SlR.qlen h_p0
  refine WK.sub (e' := [(0, .slice a_p0 p0.length c_p0), (1, .agg #[.int .i64 p1_0, .int .i64 p1_1, .int .i64 p1_2, .int .i64 p1_3]), (2, .agg #[.int .u8 p2_0, .int .u8 p2_1])]) ⟨rfl, rfl, rfl, trivial⟩ ?_
  unfold fiduciallaw45_AggregateChanges at hm
  refine WK_seq ?_
  refine WK_region ?_
  refine WO_box [.int .i64 p1_0, .int .i64 p1_1, .int .i64 p1_2, .int .i64 p1_3] rfl rfl trivial rfl rfl rfl (fun b1 => ?_)
  refine WO.cls (C' := St w0 m m [[⟨b1, 41, [.int .i64 p1_0, .int .i64 p1_1, .int .i64 p1_2, .int .i64 p1_3]⟩]]) (fun _ h => h) ?_
  refine WO_box [.int .u8 p2_0, .int .u8 p2_1] rfl rfl trivial rfl rfl rfl (fun b2 => ?_)
  refine WO.cls (C' := St w0 m m [[⟨b1, 41, [.int .i64 p1_0, .int .i64 p1_1, .int .i64 p1_2, .int .i64 p1_3]⟩], [⟨b2, 42, [.int .u8 p2_0, .int .u8 p2_1]⟩]]) (fun _ h => h) ?_
  refine WO_pure tbok 1 [(0, .slice a_p0 p0.length c_p0), (4, .pointer (some ⟨b1, 0, none⟩)), (5, .pointer (some ⟨b2, 0, none⟩)), (6, .bool false)] rfl ⟨rfl, rfl, rfl, rfl, trivial⟩ ?_
  refine WO_end ?_
  refine WK_seq ?_
  refine WK_seq ?_
  refine WK_region ?_
  obtain ⟨y_1, hc3, hm⟩ := bind_some hm
  refine WO_call0 (.bool y_1) rfl rfl trivial rfl rfl rfl rfl St_closed ⟨8, #[], #[], rfl, callable_8, fun w hw => ⟨_, hw.sat, fiduciallaw45_known_walk hc3⟩⟩ ?_
  refine WO_pure tbok 1 [(0, .slice a_p0 p0.length c_p0), (4, .pointer (some ⟨b1, 0, none⟩)), (5, .pointer (some ⟨b2, 0, none⟩)), (6, .bool false), (29, .bool (!y_1))] rfl ⟨rfl, rfl, rfl, rfl, rfl, trivial⟩ ?_
  refine WO_end ?_
  refine WK_cond (b := !y_1) rfl (fun hb4 => ?_) (fun hb4 => ?_)
  · have hm := ifT hb4 hm
    refine WK_seq ?_
    refine WK_region ?_
    refine WO_pure tbok 1 [(0, .slice a_p0 p0.length c_p0), (4, .pointer (some ⟨b1, 0, none⟩)), (5, .pointer (some ⟨b2, 0, none⟩)), (6, .bool false)] rfl ⟨rfl, rfl, rfl, rfl, trivial⟩ ?_
    refine WO_end ?_
    cases hm
    exact WK_ret (ret_out (L := []) (RLc_tmp rfl RLc_nil) (List.nil_sublist _) rfl)
  · have hm := ifF hb4 hm
    refine WK_skip ?_
    refine WK_seq ?_
    refine WK_seq ?_
    obtain ⟨s_2, hx5, hm⟩ := bind_some hm
    refine WK_meet [(0, .slice a_p0 p0.length c_p0), (4, .pointer (some ⟨b1, 0, none⟩)), (5, .pointer (some ⟨b2, 0, none⟩)), (6, .bool false), (52, .bool s_2)] (St w0 m m [[⟨b1, 41, [.int .i64 p1_0, .int .i64 p1_1, .int .i64 p1_2, .int .i64 p1_3]⟩], [⟨b2, 42, [.int .u8 p2_0, .int .u8 p2_1]⟩]]) ?_ (fun hk6 => ?_)
    · refine WK_cond (b := s_2) rfl (fun hb7 => ?_) (fun hb7 => ?_)
      · have hm := ifT hb7 hm
        refine WK_seq ?_
        refine WK_region ?_
        refine WO_pure tbok 1 [(0, .slice a_p0 p0.length c_p0), (4, .pointer (some ⟨b1, 0, none⟩)), (5, .pointer (some ⟨b2, 0, none⟩)), (6, .bool true)] rfl ⟨rfl, rfl, rfl, rfl, trivial⟩ ?_
        refine WO_end ?_
        cases hm
        exact WK_ret (ret_out (L := []) (RLc_tmp rfl RLc_nil) (List.nil_sublist _) rfl)
      · have hm := ifF hb7 hm
        refine WK_skip ?_
        refine WK_seq ?_
        refine WK_region ?_
        refine WO_pure tbok 2 [(0, .slice a_p0 p0.length c_p0), (4, .pointer (some ⟨b1, 0, none⟩)), (5, .pointer (some ⟨b2, 0, none⟩)), (6, .bool false), (54, .slice a_p0 p0.length c_p0), (55, .pointer (some ⟨b1, 0, none⟩))] rfl ⟨rfl, rfl, rfl, rfl, rfl, rfl, trivial⟩ ?_
        refine WO_loadB tbok 0 rfl rfl rfl rfl (fun _ h => h) rfl rfl ?_
        refine WO_pure tbok 1 [(0, .slice a_p0 p0.length c_p0), (4, .pointer (some ⟨b1, 0, none⟩)), (5, .pointer (some ⟨b2, 0, none⟩)), (6, .bool false), (54, .slice a_p0 p0.length c_p0), (56, .int .i64 p1_0), (57, .pointer (some ⟨b1, 1, none⟩))] rfl ⟨rfl, rfl, rfl, rfl, rfl, rfl, rfl, trivial⟩ ?_
        refine WO_loadB tbok 0 rfl rfl rfl rfl (fun _ h => h) rfl rfl ?_
        obtain ⟨⟨y_3, y_4, y_5, y_6⟩, hc8, hm⟩ := bind_some hm
        refine WO_call2 (aggregate_Line_Q (y_3, y_4, y_5, y_6)) rfl rfl trivial rfl rfl rfl rfl ⟨10, #[], #[], rfl, callable_10, aggregate_Line_walk h_p0 hc8⟩ (fun v14 m15 L13 hle16 hq => ?_)
        obtain ⟨a9, qa9, c10, a11, qa11, c12, rfl, h17, h18⟩ := hq
        obtain rfl := SlR.qlen h17
        obtain rfl := SlR.qlen h18
        refine WO.cls (C' := St w0 m m15 [[⟨b1, 41, [.int .i64 p1_0, .int .i64 p1_1, .int .i64 p1_2, .int .i64 p1_3]⟩], [⟨b2, 42, [.int .u8 p2_0, .int .u8 p2_1]⟩], L13]) (fun _ h => h.sub (by simp)) ?_
        refine WO_pure tbok 9 [(0, .slice a_p0 p0.length c_p0), (4, .pointer (some ⟨b1, 0, none⟩)), (5, .pointer (some ⟨b2, 0, none⟩)), (6, .bool false), (7, .slice a9 ((y_3).length) c10), (8, .int .i64 y_4), (10, .int .i64 y_6)] rfl ⟨rfl, rfl, rfl, rfl, rfl, rfl, rfl, trivial⟩ ?_
        refine WO_end ?_
        refine WK_seq ?_
        refine WK_region ?_
        refine WO_pure tbok 1 [(0, .slice a_p0 p0.length c_p0), (4, .pointer (some ⟨b1, 0, none⟩)), (5, .pointer (some ⟨b2, 0, none⟩)), (6, .bool false), (7, .slice a9 ((y_3).length) c10), (8, .int .i64 y_4), (10, .int .i64 y_6), (64, .slice a_p0 p0.length c_p0)] rfl ⟨rfl, rfl, rfl, rfl, rfl, rfl, rfl, rfl, trivial⟩ ?_
        obtain ⟨y_7, hc19, hm⟩ := bind_some hm
        refine WO_call2 (slices_Clone_ssint_Q y_7) rfl rfl trivial rfl rfl rfl rfl ⟨18, #[], #[], rfl, callable_18, slices_Clone_ssint_walk (h_p0.mono (mono_RowE (mono_FE _) _) hle16) hc19⟩ (fun v23 m24 L22 hle25 hq => ?_)
        obtain ⟨a20, qa20, c21, rfl, h26⟩ := hq
        obtain rfl := OwnX.qlen h26
        refine WO.cls (C' := St w0 m m24 [[⟨b1, 41, [.int .i64 p1_0, .int .i64 p1_1, .int .i64 p1_2, .int .i64 p1_3]⟩], [⟨b2, 42, [.int .u8 p2_0, .int .u8 p2_1]⟩], L13, L22]) (fun _ h => h) ?_
        refine WO_pure tbok 1 [(0, .slice a_p0 p0.length c_p0), (4, .pointer (some ⟨b1, 0, none⟩)), (5, .pointer (some ⟨b2, 0, none⟩)), (6, .bool false), (7, .slice a9 ((y_3).length) c10), (8, .int .i64 y_4), (10, .int .i64 y_6), (11, .slice a20 ((y_7).length) c21)] rfl ⟨rfl, rfl, rfl, rfl, rfl, rfl, rfl, rfl, trivial⟩ ?_
        refine WO_end ?_
        refine WK_seq ?_
        refine WK_region ?_
        refine WO_pure tbok 1 [(0, .slice a_p0 p0.length c_p0), (4, .pointer (some ⟨b1, 0, none⟩)), (5, .pointer (some ⟨b2, 0, none⟩)), (6, .bool false), (7, .slice a9 ((y_3).length) c10), (8, .int .i64 y_4), (10, .int .i64 y_6), (11, .slice a20 ((y_7).length) c21), (66, .pointer (some ⟨b2, 0, none⟩))] rfl ⟨rfl, rfl, rfl, rfl, rfl, rfl, rfl, rfl, rfl, trivial⟩ ?_
        refine WO_loadB tbok 1 rfl rfl rfl rfl (fun _ h => h) rfl rfl ?_
        refine WO_pure tbok 3 [(0, .slice a_p0 p0.length c_p0), (4, .pointer (some ⟨b1, 0, none⟩)), (5, .pointer (some ⟨b2, 0, none⟩)), (6, .bool false), (7, .slice a9 ((y_3).length) c10), (8, .int .i64 y_4), (10, .int .i64 y_6), (11, .slice a20 ((y_7).length) c21), (68, .int .i64 (w64 (p2_0))), (70, .int .i64 (p0.length : Int))] rfl ⟨rfl, rfl, rfl, rfl, rfl, rfl, rfl, rfl, rfl, rfl, trivial⟩ ?_
        obtain ⟨hc27, hm⟩ := chk_some hm
        refine WO_rem rfl rfl rfl rfl rfl hc27 ?_
        refine WO_pure tbok 1 [(0, .slice a_p0 p0.length c_p0), (4, .pointer (some ⟨b1, 0, none⟩)), (5, .pointer (some ⟨b2, 0, none⟩)), (6, .bool false), (7, .slice a9 ((y_3).length) c10), (8, .int .i64 y_4), (10, .int .i64 y_6), (11, .slice a20 ((y_7).length) c21), (12, .int .i64 (Int.tmod (w64 (p2_0)) (p0.length : Int)))] rfl ⟨rfl, rfl, rfl, rfl, rfl, rfl, rfl, rfl, rfl, trivial⟩ ?_
        refine WO_end ?_
        refine WK_seq ?_
        refine WK_region ?_
        refine WO_pure tbok 2 [(0, .slice a_p0 p0.length c_p0), (4, .pointer (some ⟨b1, 0, none⟩)), (5, .pointer (some ⟨b2, 0, none⟩)), (6, .bool false), (7, .slice a9 ((y_3).length) c10), (8, .int .i64 y_4), (10, .int .i64 y_6), (11, .slice a20 ((y_7).length) c21), (12, .int .i64 (Int.tmod (w64 (p2_0)) (p0.length : Int))), (72, .slice a20 ((y_7).length) c21), (73, .int .i64 (Int.tmod (w64 (p2_0)) (p0.length : Int)))] rfl ⟨rfl, rfl, rfl, rfl, rfl, rfl, rfl, rfl, rfl, rfl, rfl, trivial⟩ ?_
        obtain ⟨hc28, hm⟩ := chk_some hm
        refine WO_index tbok rfl rfl rfl rfl rfl rfl rfl rfl (OwnX.addr h26) (by simpa using hc28) ?_
        refine WO_pad ?_
        refine WO.cls (C' := St w0 m m24 [[⟨b1, 41, [.int .i64 p1_0, .int .i64 p1_1, .int .i64 p1_2, .int .i64 p1_3]⟩], [⟨b2, 42, [.int .u8 p2_0, .int .u8 p2_1]⟩], L13, L22, []]) (fun _ h => h) ?_
        refine WO_storeOut tbok 3 rfl rfl rfl rfl rfl h26 rfl (by simpa using idx_lt hc28) rfl rfl rfl rfl (fun L29 hL29 => ?_)
        refine WO.cls (C' := St w0 m m24 [[⟨b1, 41, [.int .i64 p1_0, .int .i64 p1_1, .int .i64 p1_2, .int .i64 p1_3]⟩], [⟨b2, 42, [.int .u8 p2_0, .int .u8 p2_1]⟩], L13, L29, []]) (fun _ h => h) ?_
        refine WO_end ?_
        refine WK_seq ?_
        refine WK_seq ?_
        refine WK_region ?_
        refine WO_pure tbok 2 [(0, .slice a_p0 p0.length c_p0), (4, .pointer (some ⟨b1, 0, none⟩)), (5, .pointer (some ⟨b2, 0, none⟩)), (6, .bool false), (7, .slice a9 ((y_3).length) c10), (8, .int .i64 y_4), (10, .int .i64 y_6), (11, .slice a20 ((y_7).length) c21), (12, .int .i64 (Int.tmod (w64 (p2_0)) (p0.length : Int))), (75, .slice a_p0 p0.length c_p0), (76, .int .i64 (Int.tmod (w64 (p2_0)) (p0.length : Int)))] rfl ⟨rfl, rfl, rfl, rfl, rfl, rfl, rfl, rfl, rfl, rfl, rfl, trivial⟩ ?_
        obtain ⟨v_8, hy30, hm⟩ := bind_some hm
        obtain ⟨hc31, hy30⟩ := ix_some hy30
        refine WO_index tbok rfl rfl rfl rfl rfl rfl rfl rfl (SlR.addr ((h_p0.mono (mono_RowE (mono_FE _) _) hle16).mono (mono_RowE (mono_FE _) _) hle25)) hc31 ?_
        refine WO_loadR tbok rfl rfl rfl rfl (fun _ h => St.sat h) ((h_p0.mono (mono_RowE (mono_FE _) _) hle16).mono (mono_RowE (mono_FE _) _) hle25) hy30 rfl rfl (fun a32 c33 h34 => ?_)
        refine WO_pure tbok 2 [(0, .slice a_p0 p0.length c_p0), (4, .pointer (some ⟨b1, 0, none⟩)), (5, .pointer (some ⟨b2, 0, none⟩)), (6, .bool false), (7, .slice a9 ((y_3).length) c10), (8, .int .i64 y_4), (10, .int .i64 y_6), (11, .slice a20 ((y_7).length) c21), (12, .int .i64 (Int.tmod (w64 (p2_0)) (p0.length : Int))), (78, .slice a32 ((v_8).length) c33), (79, .int .i64 ((v_8).length : Int)), (80, .int .i64 0)] rfl ⟨rfl, rfl, rfl, rfl, rfl, rfl, rfl, rfl, rfl, rfl, rfl, rfl, trivial⟩ ?_
        refine WO_end ?_
        obtain ⟨x45, hx46, hm⟩ := bind_some hm
        refine WK_join (β := (List Int) × (Option Addr × Nat × Nat × List Ent × List Ent)) (fun p => Sum.inr p.1 = x45 ∧ OwnE 3 1 (I1 .i64) (.slice p.2.1 p.2.2.1 p.2.2.2.1) p.1 p.2.2.2.2.1 ∧ OwnO 24 (RowE (FE (I1 .i64)) 1) m24 (.slice a20 ((y_7).length) c21) y_7 (Int.tmod (w64 (p2_0)) (p0.length : Int)).toNat (.slice p.2.1 p.2.2.1 p.2.2.2.1) p.2.2.2.2.2) (fun p => [(0, .slice a_p0 p0.length c_p0), (4, .pointer (some ⟨b1, 0, none⟩)), (5, .pointer (some ⟨b2, 0, none⟩)), (6, .bool false), (7, .slice a9 ((y_3).length) c10), (8, .int .i64 y_4), (10, .int .i64 y_6), (11, .slice a20 ((y_7).length) c21)]) (fun p => St w0 m m24 [[⟨b1, 41, [.int .i64 p1_0, .int .i64 p1_1, .int .i64 p1_2, .int .i64 p1_3]⟩], [⟨b2, 42, [.int .u8 p2_0, .int .u8 p2_1]⟩], L13, p.2.2.2.2.2, p.2.2.2.2.1]) ?_ (fun hk47 => ?_)
        · rintro ⟨l_11, ⟨a41, q42, c43, L40, L44⟩⟩ ⟨hq53, hL40, hL44⟩
          subst hq53
          have hqq : q42 = l_11.length := OwnE.qlen hL40
          subst hqq
          refine WK.sub (e' := [(0, .slice a_p0 p0.length c_p0), (4, .pointer (some ⟨b1, 0, none⟩)), (5, .pointer (some ⟨b2, 0, none⟩)), (6, .bool false), (7, .slice a9 ((y_3).length) c10), (8, .int .i64 y_4), (10, .int .i64 y_6), (11, .slice a20 ((y_7).length) c21)]) ⟨rfl, rfl, rfl, rfl, rfl, rfl, rfl, rfl, trivial⟩ (WK.cls (C' := St w0 m m24 [[⟨b1, 41, [.int .i64 p1_0, .int .i64 p1_1, .int .i64 p1_2, .int .i64 p1_3]⟩], [⟨b2, 42, [.int .u8 p2_0, .int .u8 p2_1]⟩], L13, L44, L40]) (fun _ h => h) ?_)
          refine WK_seq ?_
          refine WK_freeze 4 rfl (fun m54 hle55 hmm56 => ?_)
          refine WK.cls (C' := St w0 m m54 [[⟨b1, 41, [.int .i64 p1_0, .int .i64 p1_1, .int .i64 p1_2, .int .i64 p1_3]⟩], [⟨b2, 42, [.int .u8 p2_0, .int .u8 p2_1]⟩], L13, L44, []]) (fun _ h => h) ?_
          refine WK_region ?_
          refine WO_pure tbok 2 [(0, .slice a_p0 p0.length c_p0), (4, .pointer (some ⟨b1, 0, none⟩)), (5, .pointer (some ⟨b2, 0, none⟩)), (6, .bool false), (7, .slice a9 ((y_3).length) c10), (8, .int .i64 y_4), (10, .int .i64 y_6), (106, .slice a20 ((y_7).length) c21), (107, .pointer (some ⟨b1, 0, none⟩))] rfl ⟨rfl, rfl, rfl, rfl, rfl, rfl, rfl, rfl, rfl, trivial⟩ ?_
          refine WO_loadB tbok 0 rfl rfl rfl rfl (fun _ h => h) rfl rfl ?_
          refine WO_pure tbok 1 [(0, .slice a_p0 p0.length c_p0), (4, .pointer (some ⟨b1, 0, none⟩)), (5, .pointer (some ⟨b2, 0, none⟩)), (6, .bool false), (7, .slice a9 ((y_3).length) c10), (8, .int .i64 y_4), (10, .int .i64 y_6), (106, .slice a20 ((y_7).length) c21), (108, .int .i64 p1_0), (109, .pointer (some ⟨b1, 1, none⟩))] rfl ⟨rfl, rfl, rfl, rfl, rfl, rfl, rfl, rfl, rfl, rfl, trivial⟩ ?_
          refine WO_loadB tbok 0 rfl rfl rfl rfl (fun _ h => h) rfl rfl ?_
          refine WO_freeze 3 rfl (fun m57 hle58 hmm59 => ?_)
          refine WO.cls (C' := St w0 m m57 [[⟨b1, 41, [.int .i64 p1_0, .int .i64 p1_1, .int .i64 p1_2, .int .i64 p1_3]⟩], [⟨b2, 42, [.int .u8 p2_0, .int .u8 p2_1]⟩], L13, [], []]) (fun _ h => h) ?_
          obtain ⟨⟨y_12, y_13, y_14, y_15⟩, hc60, hm⟩ := bind_some hm
          refine WO_call2 (aggregate_Line_Q (y_12, y_13, y_14, y_15)) rfl rfl trivial rfl rfl rfl rfl ⟨10, #[], #[], rfl, callable_10, aggregate_Line_walk (OwnX.rd (E := V1) (k := 1) (fun _ => rfl) (OwnO.back (hL44.mono (mono_RowE (mono_FE _) _) hle55) ⟨_, rfl, (OwnE.rd (E := (I1 .i64)) (k := 1) (fun _ => rfl) hL40 hmm56)⟩) (mono_RowE (mono_FE _) _) hle58 hmm59) hc60⟩ (fun v66 m67 L65 hle68 hq => ?_)
          obtain ⟨a61, qa61, c62, a63, qa63, c64, rfl, h69, h70⟩ := hq
          obtain rfl := SlR.qlen h69
          obtain rfl := SlR.qlen h70
          refine WO.cls (C' := St w0 m m67 [[⟨b1, 41, [.int .i64 p1_0, .int .i64 p1_1, .int .i64 p1_2, .int .i64 p1_3]⟩], [⟨b2, 42, [.int .u8 p2_0, .int .u8 p2_1]⟩], L13, [], [], L65]) (fun _ h => h.sub (by simp)) ?_
          refine WO_pure tbok 9 [(0, .slice a_p0 p0.length c_p0), (4, .pointer (some ⟨b1, 0, none⟩)), (5, .pointer (some ⟨b2, 0, none⟩)), (6, .bool false), (7, .slice a9 ((y_3).length) c10), (8, .int .i64 y_4), (10, .int .i64 y_6), (15, .slice a61 ((y_12).length) c62), (16, .int .i64 y_13), (18, .int .i64 y_15)] rfl ⟨rfl, rfl, rfl, rfl, rfl, rfl, rfl, rfl, rfl, rfl, trivial⟩ ?_
          refine WO_end ?_
          refine WK_seq ?_
          refine WK_region ?_
          refine WO_pure tbok 1 [(0, .slice a_p0 p0.length c_p0), (4, .pointer (some ⟨b1, 0, none⟩)), (5, .pointer (some ⟨b2, 0, none⟩)), (6, .bool false), (7, .slice a9 ((y_3).length) c10), (8, .int .i64 y_4), (10, .int .i64 y_6), (15, .slice a61 ((y_12).length) c62), (16, .int .i64 y_13), (18, .int .i64 y_15), (116, .slice a_p0 p0.length c_p0)] rfl ⟨rfl, rfl, rfl, rfl, rfl, rfl, rfl, rfl, rfl, rfl, rfl, trivial⟩ ?_
          obtain ⟨y_16, hc71, hm⟩ := bind_some hm
          refine WO_call2 (slices_Clone_ssint_Q y_16) rfl rfl trivial rfl rfl rfl rfl ⟨18, #[], #[], rfl, callable_18, slices_Clone_ssint_walk (((((h_p0.mono (mono_RowE (mono_FE _) _) hle16).mono (mono_RowE (mono_FE _) _) hle25).mono (mono_RowE (mono_FE _) _) hle55).mono (mono_RowE (mono_FE _) _) hle58).mono (mono_RowE (mono_FE _) _) hle68) hc71⟩ (fun v75 m76 L74 hle77 hq => ?_)
          obtain ⟨a72, qa72, c73, rfl, h78⟩ := hq
          obtain rfl := OwnX.qlen h78
          refine WO.cls (C' := St w0 m m76 [[⟨b1, 41, [.int .i64 p1_0, .int .i64 p1_1, .int .i64 p1_2, .int .i64 p1_3]⟩], [⟨b2, 42, [.int .u8 p2_0, .int .u8 p2_1]⟩], L13, [], [], L65, L74]) (fun _ h => h) ?_
          refine WO_pure tbok 1 [(0, .slice a_p0 p0.length c_p0), (4, .pointer (some ⟨b1, 0, none⟩)), (5, .pointer (some ⟨b2, 0, none⟩)), (6, .bool false), (7, .slice a9 ((y_3).length) c10), (8, .int .i64 y_4), (10, .int .i64 y_6), (15, .slice a61 ((y_12).length) c62), (16, .int .i64 y_13), (18, .int .i64 y_15), (19, .slice a72 ((y_16).length) c73)] rfl ⟨rfl, rfl, rfl, rfl, rfl, rfl, rfl, rfl, rfl, rfl, rfl, trivial⟩ ?_
          refine WO_end ?_
          refine WK_seq ?_
          refine WK_region ?_
          refine WO_pure tbok 1 [(0, .slice a_p0 p0.length c_p0), (4, .pointer (some ⟨b1, 0, none⟩)), (5, .pointer (some ⟨b2, 0, none⟩)), (6, .bool false), (7, .slice a9 ((y_3).length) c10), (8, .int .i64 y_4), (10, .int .i64 y_6), (15, .slice a61 ((y_12).length) c62), (16, .int .i64 y_13), (18, .int .i64 y_15), (19, .slice a72 ((y_16).length) c73), (118, .slice a72 ((y_16).length) c73)] rfl ⟨rfl, rfl, rfl, rfl, rfl, rfl, rfl, rfl, rfl, rfl, rfl, rfl, trivial⟩ ?_
          refine WO_inline rfl rfl rfl rfl rfl rfl callable_19 Try.func19 rfl rfl rfl ?_
          refine WK.sub (e' := [(0, .slice a72 ((y_16).length) c73)]) ⟨rfl, trivial⟩ ?_
          refine WK_seq ?_
          refine WK_region ?_
          refine WO_pure tbok 5 [(0, .slice a72 ((y_16).length) c73), (2, .int .i64 0), (3, .int .i64 (w64 (((y_16).length : Int) - 1)))] rfl ⟨rfl, rfl, rfl, trivial⟩ ?_
          refine WO_end ?_
          obtain ⟨x81, hx82, hm⟩ := bind_some hm
          refine WK_join (β := (List (List Int)) × (List Ent)) (fun p => p.1 = x81 ∧ OwnX 24 1 V1 (RowE (FE (I1 .i64)) 1) m76 (.slice a72 ((y_16).length) c73) p.1 p.2) (fun p => []) (fun p => St w0 m m76 [[⟨b1, 41, [.int .i64 p1_0, .int .i64 p1_1, .int .i64 p1_2, .int .i64 p1_3]⟩], [⟨b2, 42, [.int .u8 p2_0, .int .u8 p2_1]⟩], L13, [], [], L65, p.2]) ?_ (fun hk83 => ?_)
          · rintro ⟨l_20, L80⟩ ⟨hq89, hL80⟩
            subst hq89
            refine WK.sub (e' := []) trivial (WK.cls (C' := St w0 m m76 [[⟨b1, 41, [.int .i64 p1_0, .int .i64 p1_1, .int .i64 p1_2, .int .i64 p1_3]⟩], [⟨b2, 42, [.int .u8 p2_0, .int .u8 p2_1]⟩], L13, [], [], L65, L80]) (fun _ h => h) ?_)
            refine WK_nilI RLc_nil (fun _ _ => trivial) ?_
            refine WO_end ?_
            refine WK_seq ?_
            refine WK_region ?_
            refine WO_pure tbok 2 [(0, .slice a_p0 p0.length c_p0), (4, .pointer (some ⟨b1, 0, none⟩)), (5, .pointer (some ⟨b2, 0, none⟩)), (6, .bool false), (7, .slice a9 ((y_3).length) c10), (8, .int .i64 y_4), (10, .int .i64 y_6), (15, .slice a61 ((y_12).length) c62), (16, .int .i64 y_13), (18, .int .i64 y_15), (121, .slice a72 ((y_16).length) c73), (122, .pointer (some ⟨b1, 0, none⟩))] rfl ⟨rfl, rfl, rfl, rfl, rfl, rfl, rfl, rfl, rfl, rfl, rfl, rfl, trivial⟩ ?_
            refine WO_loadB tbok 0 rfl rfl rfl rfl (fun _ h => h) rfl rfl ?_
            refine WO_pure tbok 1 [(0, .slice a_p0 p0.length c_p0), (4, .pointer (some ⟨b1, 0, none⟩)), (5, .pointer (some ⟨b2, 0, none⟩)), (6, .bool false), (7, .slice a9 ((y_3).length) c10), (8, .int .i64 y_4), (10, .int .i64 y_6), (15, .slice a61 ((y_12).length) c62), (16, .int .i64 y_13), (18, .int .i64 y_15), (121, .slice a72 ((y_16).length) c73), (123, .int .i64 p1_0), (124, .pointer (some ⟨b1, 1, none⟩))] rfl ⟨rfl, rfl, rfl, rfl, rfl, rfl, rfl, rfl, rfl, rfl, rfl, rfl, rfl, trivial⟩ ?_
            refine WO_loadB tbok 0 rfl rfl rfl rfl (fun _ h => h) rfl rfl ?_
            refine WO_freeze 6 rfl (fun m90 hle91 hmm92 => ?_)
            refine WO.cls (C' := St w0 m m90 [[⟨b1, 41, [.int .i64 p1_0, .int .i64 p1_1, .int .i64 p1_2, .int .i64 p1_3]⟩], [⟨b2, 42, [.int .u8 p2_0, .int .u8 p2_1]⟩], L13, [], [], L65, []]) (fun _ h => h) ?_
            obtain ⟨⟨y_21, y_22, y_23, y_24⟩, hc93, hm⟩ := bind_some hm
            refine WO_call2 (aggregate_Line_Q (y_21, y_22, y_23, y_24)) rfl rfl trivial rfl rfl rfl rfl ⟨10, #[], #[], rfl, callable_10, aggregate_Line_walk (OwnX.rd (E := V1) (k := 1) (fun _ => rfl) hL80 (mono_RowE (mono_FE _) _) hle91 hmm92) hc93⟩ (fun v99 m100 L98 hle101 hq => ?_)
            obtain ⟨a94, qa94, c95, a96, qa96, c97, rfl, h102, h103⟩ := hq
            obtain rfl := SlR.qlen h102
            obtain rfl := SlR.qlen h103
            refine WO.cls (C' := St w0 m m100 [[⟨b1, 41, [.int .i64 p1_0, .int .i64 p1_1, .int .i64 p1_2, .int .i64 p1_3]⟩], [⟨b2, 42, [.int .u8 p2_0, .int .u8 p2_1]⟩], L13, [], [], L65, [], L98]) (fun _ h => h.sub (by simp)) ?_
            refine WO_pure tbok 9 [(0, .slice a_p0 p0.length c_p0), (4, .pointer (some ⟨b1, 0, none⟩)), (5, .pointer (some ⟨b2, 0, none⟩)), (6, .bool false), (7, .slice a9 ((y_3).length) c10), (8, .int .i64 y_4), (10, .int .i64 y_6), (15, .slice a61 ((y_12).length) c62), (16, .int .i64 y_13), (18, .int .i64 y_15), (21, .int .i64 y_22), (23, .int .i64 y_24)] rfl ⟨rfl, rfl, rfl, rfl, rfl, rfl, rfl, rfl, rfl, rfl, rfl, rfl, trivial⟩ ?_
            refine WO_end ?_
            refine WK_seq ?_
            refine WK_region ?_
            refine WO_pure tbok 2 [(4, .pointer (some ⟨b1, 0, none⟩)), (5, .pointer (some ⟨b2, 0, none⟩)), (6, .bool false), (7, .slice a9 ((y_3).length) c10), (8, .int .i64 y_4), (10, .int .i64 y_6), (15, .slice a61 ((y_12).length) c62), (16, .int .i64 y_13), (18, .int .i64 y_15), (21, .int .i64 y_22), (23, .int .i64 y_24), (132, .slice a_p0 p0.length c_p0), (133, .pointer (some ⟨b1, 2, none⟩))] rfl ⟨rfl, rfl, rfl, rfl, rfl, rfl, rfl, rfl, rfl, rfl, rfl, rfl, rfl, trivial⟩ ?_
            refine WO_loadB tbok 0 rfl rfl rfl rfl (fun _ h => h) rfl rfl ?_
            refine WO_pure tbok 1 [(4, .pointer (some ⟨b1, 0, none⟩)), (5, .pointer (some ⟨b2, 0, none⟩)), (6, .bool false), (7, .slice a9 ((y_3).length) c10), (8, .int .i64 y_4), (10, .int .i64 y_6), (15, .slice a61 ((y_12).length) c62), (16, .int .i64 y_13), (18, .int .i64 y_15), (21, .int .i64 y_22), (23, .int .i64 y_24), (132, .slice a_p0 p0.length c_p0), (134, .int .i64 p1_2), (135, .pointer (some ⟨b1, 3, none⟩))] rfl ⟨rfl, rfl, rfl, rfl, rfl, rfl, rfl, rfl, rfl, rfl, rfl, rfl, rfl, rfl, trivial⟩ ?_
            refine WO_loadB tbok 0 rfl rfl rfl rfl (fun _ h => h) rfl rfl ?_
            obtain ⟨⟨y_25, y_26, y_27, y_28⟩, hc104, hm⟩ := bind_some hm
            refine WO_call2 (aggregate_Line_Q (y_25, y_26, y_27, y_28)) rfl rfl trivial rfl rfl rfl rfl ⟨10, #[], #[], rfl, callable_10, aggregate_Line_walk ((((((((h_p0.mono (mono_RowE (mono_FE _) _) hle16).mono (mono_RowE (mono_FE _) _) hle25).mono (mono_RowE (mono_FE _) _) hle55).mono (mono_RowE (mono_FE _) _) hle58).mono (mono_RowE (mono_FE _) _) hle68).mono (mono_RowE (mono_FE _) _) hle77).mono (mono_RowE (mono_FE _) _) hle91).mono (mono_RowE (mono_FE _) _) hle101) hc104⟩ (fun v110 m111 L109 hle112 hq => ?_)
            obtain ⟨a105, qa105, c106, a107, qa107, c108, rfl, h113, h114⟩ := hq
            obtain rfl := SlR.qlen h113
            obtain rfl := SlR.qlen h114
            refine WO.cls (C' := St w0 m m111 [[⟨b1, 41, [.int .i64 p1_0, .int .i64 p1_1, .int .i64 p1_2, .int .i64 p1_3]⟩], [⟨b2, 42, [.int .u8 p2_0, .int .u8 p2_1]⟩], L13, [], [], L65, [], L98, L109]) (fun _ h => h.sub (by simp)) ?_
            refine WO_pure tbok 9 [(4, .pointer (some ⟨b1, 0, none⟩)), (5, .pointer (some ⟨b2, 0, none⟩)), (6, .bool false), (7, .slice a9 ((y_3).length) c10), (8, .int .i64 y_4), (10, .int .i64 y_6), (15, .slice a61 ((y_12).length) c62), (16, .int .i64 y_13), (18, .int .i64 y_15), (21, .int .i64 y_22), (23, .int .i64 y_24), (25, .int .i64 y_26), (27, .int .i64 y_28)] rfl ⟨rfl, rfl, rfl, rfl, rfl, rfl, rfl, rfl, rfl, rfl, rfl, rfl, rfl, trivial⟩ ?_
            refine WO_end ?_
            refine WK_seq ?_
            refine WK_seq ?_
            obtain ⟨s_29, hx115, hm⟩ := bind_some hm
            refine WK_meet [(4, .pointer (some ⟨b1, 0, none⟩)), (6, .bool false), (8, .int .i64 y_4), (25, .int .i64 y_26), (175, .bool s_29)] (St w0 m m111 [[⟨b1, 41, [.int .i64 p1_0, .int .i64 p1_1, .int .i64 p1_2, .int .i64 p1_3]⟩], [⟨b2, 42, [.int .u8 p2_0, .int .u8 p2_1]⟩], L13, [], [], L65, [], L98, L109]) ?_ (fun hk116 => ?_)
            · refine WK_cond (b := s_29) rfl (fun hb117 => ?_) (fun hb117 => ?_)
              · have hm := ifT hb117 hm
                refine WK_seq ?_
                refine WK_region ?_
                refine WO_pure tbok 1 [(4, .pointer (some ⟨b1, 0, none⟩)), (6, .bool false), (8, .int .i64 y_4), (25, .int .i64 y_26)] rfl ⟨rfl, rfl, rfl, rfl, trivial⟩ ?_
                refine WO_end ?_
                cases hm
                exact WK_ret (ret_out (L := []) (RLc_tmp rfl RLc_nil) (List.nil_sublist _) rfl)
              · have hm := ifF hb117 hm
                refine WK_skip ?_
                refine WK_seq ?_
                refine WK_region ?_
                refine WO_pure tbok 1 [(4, .pointer (some ⟨b1, 0, none⟩)), (6, .bool false), (8, .int .i64 y_4), (25, .int .i64 y_26), (176, .pointer (some ⟨b1, 2, none⟩))] rfl ⟨rfl, rfl, rfl, rfl, rfl, trivial⟩ ?_
                refine WO_loadB tbok 0 rfl rfl rfl rfl (fun _ h => h) rfl rfl ?_
                refine WO_pure tbok 1 [(4, .pointer (some ⟨b1, 0, none⟩)), (6, .bool false), (8, .int .i64 y_4), (25, .int .i64 y_26), (177, .int .i64 p1_2), (178, .pointer (some ⟨b1, 0, none⟩))] rfl ⟨rfl, rfl, rfl, rfl, rfl, rfl, trivial⟩ ?_
                refine WO_loadB tbok 0 rfl rfl rfl rfl (fun _ h => h) rfl rfl ?_
                refine WO_pure tbok 2 [(4, .pointer (some ⟨b1, 0, none⟩)), (6, .bool false), (8, .int .i64 y_4), (25, .int .i64 y_26), (181, .bool (decide (p1_2 < p1_0)))] rfl ⟨rfl, rfl, rfl, rfl, rfl, trivial⟩ ?_
                refine WO_split (d := 181) (b := decide (p1_2 < p1_0)) rfl (fun hb118 => ?_) (fun hb118 => ?_)
                · have hm := ifT hb118 hm
                  refine WO_pure tbok 12 [(6, .bool true)] rfl ⟨rfl, trivial⟩ ?_
                  refine WO_end ?_
                  cases hm
                  exact WK_ret (ret_out (L := []) (RLc_tmp rfl RLc_nil) (List.nil_sublist _) rfl)
                · have hm := ifF hb118 hm
                  refine WO_pure tbok 1 [(4, .pointer (some ⟨b1, 0, none⟩)), (6, .bool false), (8, .int .i64 y_4), (25, .int .i64 y_26), (181, .bool false), (182, .pointer (some ⟨b1, 3, none⟩))] rfl ⟨rfl, rfl, rfl, rfl, rfl, rfl, trivial⟩ ?_
                  refine WO_loadB tbok 0 rfl rfl rfl rfl (fun _ h => h) rfl rfl ?_
                  refine WO_pure tbok 1 [(6, .bool false), (8, .int .i64 y_4), (25, .int .i64 y_26), (181, .bool false), (183, .int .i64 p1_3), (184, .pointer (some ⟨b1, 1, none⟩))] rfl ⟨rfl, rfl, rfl, rfl, rfl, rfl, trivial⟩ ?_
                  refine WO_loadB tbok 0 rfl rfl rfl rfl (fun _ h => h) rfl rfl ?_
                  refine WO_pure tbok 3 [(6, .bool false), (8, .int .i64 y_4), (25, .int .i64 y_26), (188, .bool (decide (p1_3 < p1_1)))] rfl ⟨rfl, rfl, rfl, rfl, trivial⟩ ?_
                  refine WO_split (d := 188) (b := decide (p1_3 < p1_1)) rfl (fun hb119 => ?_) (fun hb119 => ?_)
                  · have hm := ifT hb119 hm
                    refine WO_pure tbok 5 [(6, .bool true)] rfl ⟨rfl, trivial⟩ ?_
                    refine WO_end ?_
                    cases hm
                    exact WK_ret (ret_out (L := []) (RLc_tmp rfl RLc_nil) (List.nil_sublist _) rfl)
                  · have hm := ifF hb119 hm
                    refine WO_pure tbok 5 [(6, .bool (decide (y_4 ≤ y_26)))] rfl ⟨rfl, trivial⟩ ?_
                    refine WO_end ?_
                    cases hm
                    exact WK_ret (ret_out (L := []) (RLc_tmp rfl RLc_nil) (List.nil_sublist _) rfl)
            · refine WK_region ?_
              refine WO_pure tbok 3 [(4, .pointer (some ⟨b1, 0, none⟩)), (5, .pointer (some ⟨b2, 0, none⟩)), (6, .bool false), (7, .slice a9 ((y_3).length) c10), (8, .int .i64 y_4), (15, .slice a61 ((y_12).length) c62), (16, .int .i64 y_13), (18, .int .i64 y_15), (21, .int .i64 y_22), (23, .int .i64 y_24), (25, .int .i64 y_26), (27, .int .i64 y_28), (144, .bool (y_6 != 0))] rfl ⟨rfl, rfl, rfl, rfl, rfl, rfl, rfl, rfl, rfl, rfl, rfl, rfl, rfl, trivial⟩ ?_
              refine WO_split (d := 144) (b := y_6 != 0) rfl (fun hb120 => ?_) (fun hb120 => ?_)
              · have hx115 := ifT hb120 hx115
                refine WO_pure tbok 23 [(4, .pointer (some ⟨b1, 0, none⟩)), (6, .bool false), (8, .int .i64 y_4), (21, .int .i64 y_22), (25, .int .i64 y_26), (165, .bool true)] rfl ⟨rfl, rfl, rfl, rfl, rfl, rfl, trivial⟩ ?_
                refine WO_skip rfl rfl ?_
                refine WO_pure tbok 7 [(4, .pointer (some ⟨b1, 0, none⟩)), (6, .bool false), (8, .int .i64 y_4), (25, .int .i64 y_26), (175, .bool true)] rfl ⟨rfl, rfl, rfl, rfl, rfl, trivial⟩ ?_
                refine WO_end ?_
                cases hx115
                refine WK.sub ?_ (WK.cls (fun _ h => h) hk116)
                exact ⟨rfl, rfl, rfl, rfl, rfl, trivial⟩
              · have hx115 := ifF hb120 hx115
                refine WO_pure tbok 4 [(4, .pointer (some ⟨b1, 0, none⟩)), (5, .pointer (some ⟨b2, 0, none⟩)), (6, .bool false), (7, .slice a9 ((y_3).length) c10), (8, .int .i64 y_4), (15, .slice a61 ((y_12).length) c62), (16, .int .i64 y_13), (21, .int .i64 y_22), (23, .int .i64 y_24), (25, .int .i64 y_26), (27, .int .i64 y_28), (148, .bool (y_15 != 0))] rfl ⟨rfl, rfl, rfl, rfl, rfl, rfl, rfl, rfl, rfl, rfl, rfl, rfl, trivial⟩ ?_
                refine WO_split (d := 148) (b := y_15 != 0) rfl (fun hb121 => ?_) (fun hb121 => ?_)
                · have hx115 := ifT hb121 hx115
                  refine WO_pure tbok 19 [(4, .pointer (some ⟨b1, 0, none⟩)), (6, .bool false), (8, .int .i64 y_4), (21, .int .i64 y_22), (25, .int .i64 y_26), (165, .bool true)] rfl ⟨rfl, rfl, rfl, rfl, rfl, rfl, trivial⟩ ?_
                  refine WO_skip rfl rfl ?_
                  refine WO_pure tbok 7 [(4, .pointer (some ⟨b1, 0, none⟩)), (6, .bool false), (8, .int .i64 y_4), (25, .int .i64 y_26), (175, .bool true)] rfl ⟨rfl, rfl, rfl, rfl, rfl, trivial⟩ ?_
                  refine WO_end ?_
                  cases hx115
                  refine WK.sub ?_ (WK.cls (fun _ h => h) hk116)
                  exact ⟨rfl, rfl, rfl, rfl, rfl, trivial⟩
                · have hx115 := ifF hb121 hx115
                  refine WO_pure tbok 4 [(4, .pointer (some ⟨b1, 0, none⟩)), (5, .pointer (some ⟨b2, 0, none⟩)), (6, .bool false), (7, .slice a9 ((y_3).length) c10), (8, .int .i64 y_4), (15, .slice a61 ((y_12).length) c62), (16, .int .i64 y_13), (21, .int .i64 y_22), (25, .int .i64 y_26), (27, .int .i64 y_28), (152, .bool (y_24 != 0))] rfl ⟨rfl, rfl, rfl, rfl, rfl, rfl, rfl, rfl, rfl, rfl, rfl, trivial⟩ ?_
                  refine WO_split (d := 152) (b := y_24 != 0) rfl (fun hb122 => ?_) (fun hb122 => ?_)
                  · have hx115 := ifT hb122 hx115
                    refine WO_pure tbok 15 [(4, .pointer (some ⟨b1, 0, none⟩)), (6, .bool false), (8, .int .i64 y_4), (21, .int .i64 y_22), (25, .int .i64 y_26), (165, .bool true)] rfl ⟨rfl, rfl, rfl, rfl, rfl, rfl, trivial⟩ ?_
                    refine WO_skip rfl rfl ?_
                    refine WO_pure tbok 7 [(4, .pointer (some ⟨b1, 0, none⟩)), (6, .bool false), (8, .int .i64 y_4), (25, .int .i64 y_26), (175, .bool true)] rfl ⟨rfl, rfl, rfl, rfl, rfl, trivial⟩ ?_
                    refine WO_end ?_
                    cases hx115
                    refine WK.sub ?_ (WK.cls (fun _ h => h) hk116)
                    exact ⟨rfl, rfl, rfl, rfl, rfl, trivial⟩
                  · have hx115 := ifF hb122 hx115
                    refine WO_pure tbok 4 [(4, .pointer (some ⟨b1, 0, none⟩)), (5, .pointer (some ⟨b2, 0, none⟩)), (6, .bool false), (7, .slice a9 ((y_3).length) c10), (8, .int .i64 y_4), (15, .slice a61 ((y_12).length) c62), (16, .int .i64 y_13), (21, .int .i64 y_22), (25, .int .i64 y_26), (156, .bool (y_28 != 0))] rfl ⟨rfl, rfl, rfl, rfl, rfl, rfl, rfl, rfl, rfl, rfl, trivial⟩ ?_
                    refine WO_split (d := 156) (b := y_28 != 0) rfl (fun hb123 => ?_) (fun hb123 => ?_)
                    · have hx115 := ifT hb123 hx115
                      refine WO_pure tbok 11 [(4, .pointer (some ⟨b1, 0, none⟩)), (6, .bool false), (8, .int .i64 y_4), (21, .int .i64 y_22), (25, .int .i64 y_26), (165, .bool true)] rfl ⟨rfl, rfl, rfl, rfl, rfl, rfl, trivial⟩ ?_
                      refine WO_skip rfl rfl ?_
                      refine WO_pure tbok 7 [(4, .pointer (some ⟨b1, 0, none⟩)), (6, .bool false), (8, .int .i64 y_4), (25, .int .i64 y_26), (175, .bool true)] rfl ⟨rfl, rfl, rfl, rfl, rfl, trivial⟩ ?_
                      refine WO_end ?_
                      cases hx115
                      refine WK.sub ?_ (WK.cls (fun _ h => h) hk116)
                      exact ⟨rfl, rfl, rfl, rfl, rfl, trivial⟩
                    · have hx115 := ifF hb123 hx115
                      refine WO_pure tbok 3 [(4, .pointer (some ⟨b1, 0, none⟩)), (6, .bool false), (7, .slice a9 ((y_3).length) c10), (8, .int .i64 y_4), (15, .slice a61 ((y_12).length) c62), (21, .int .i64 y_22), (25, .int .i64 y_26), (156, .bool false), (157, .int .i64 y_13), (158, .int .i64 y_4), (159, .pointer (some ⟨b2, 1, none⟩))] rfl ⟨rfl, rfl, rfl, rfl, rfl, rfl, rfl, rfl, rfl, rfl, rfl, trivial⟩ ?_
                      refine WO_loadB tbok 1 rfl rfl rfl rfl (fun _ h => h) rfl rfl ?_
                      refine WO_pure tbok 5 [(4, .pointer (some ⟨b1, 0, none⟩)), (6, .bool false), (7, .slice a9 ((y_3).length) c10), (8, .int .i64 y_4), (15, .slice a61 ((y_12).length) c62), (21, .int .i64 y_22), (25, .int .i64 y_26), (165, .bool (y_13 != (w64 (y_4 + (w64 (p2_1))))))] rfl ⟨rfl, rfl, rfl, rfl, rfl, rfl, rfl, rfl, trivial⟩ ?_
                      refine WO_split (d := 165) (b := y_13 != (w64 (y_4 + (w64 (p2_1))))) rfl (fun hb124 => ?_) (fun hb124 => ?_)
                      · have hx115 := ifT hb124 hx115
                        refine WO_pure tbok 2 [(4, .pointer (some ⟨b1, 0, none⟩)), (6, .bool false), (8, .int .i64 y_4), (21, .int .i64 y_22), (25, .int .i64 y_26), (165, .bool true)] rfl ⟨rfl, rfl, rfl, rfl, rfl, rfl, trivial⟩ ?_
                        refine WO_skip rfl rfl ?_
                        refine WO_pure tbok 7 [(4, .pointer (some ⟨b1, 0, none⟩)), (6, .bool false), (8, .int .i64 y_4), (25, .int .i64 y_26), (175, .bool true)] rfl ⟨rfl, rfl, rfl, rfl, rfl, trivial⟩ ?_
                        refine WO_end ?_
                        cases hx115
                        refine WK.sub ?_ (WK.cls (fun _ h => h) hk116)
                        exact ⟨rfl, rfl, rfl, rfl, rfl, trivial⟩
                      · have hx115 := ifF hb124 hx115
                        refine WO_pure tbok 2 [(4, .pointer (some ⟨b1, 0, none⟩)), (6, .bool false), (8, .int .i64 y_4), (21, .int .i64 y_22), (25, .int .i64 y_26), (165, .bool false), (166, .slice a61 ((y_12).length) c62), (167, .slice a9 ((y_3).length) c10)] rfl ⟨rfl, rfl, rfl, rfl, rfl, rfl, rfl, rfl, trivial⟩ ?_
                        obtain ⟨y_30, hc125, hx115⟩ := bind_some hx115
                        refine WO_call0 (.bool y_30) rfl rfl trivial rfl rfl rfl rfl St_closed ⟨13, #[], #[], rfl, callable_13, fun w hw => ⟨_, hw.sat, slices_Equal_sint_walk ((((h69.mono (mono_FE _) hle77).mono (mono_FE _) hle91).mono (mono_FE _) hle101).mono (mono_FE _) hle112) ((((((((h17.mono (mono_FE _) hle25).mono (mono_FE _) hle55).mono (mono_FE _) hle58).mono (mono_FE _) hle68).mono (mono_FE _) hle77).mono (mono_FE _) hle91).mono (mono_FE _) hle101).mono (mono_FE _) hle112) hc125⟩⟩ ?_
                        refine WO_pure tbok 3 [(4, .pointer (some ⟨b1, 0, none⟩)), (6, .bool false), (8, .int .i64 y_4), (21, .int .i64 y_22), (25, .int .i64 y_26), (171, .bool (!y_30))] rfl ⟨rfl, rfl, rfl, rfl, rfl, rfl, trivial⟩ ?_
                        refine WO_split (d := 171) (b := !y_30) rfl (fun hb126 => ?_) (fun hb126 => ?_)
                        · have hx115 := ifT hb126 hx115
                          refine WO_pure tbok 4 [(4, .pointer (some ⟨b1, 0, none⟩)), (6, .bool false), (8, .int .i64 y_4), (25, .int .i64 y_26), (175, .bool true)] rfl ⟨rfl, rfl, rfl, rfl, rfl, trivial⟩ ?_
                          refine WO_end ?_
                          cases hx115
                          refine WK.sub ?_ (WK.cls (fun _ h => h) hk116)
                          exact ⟨rfl, rfl, rfl, rfl, rfl, trivial⟩
                        · have hx115 := ifF hb126 hx115
                          refine WO_pure tbok 4 [(4, .pointer (some ⟨b1, 0, none⟩)), (6, .bool false), (8, .int .i64 y_4), (25, .int .i64 y_26), (175, .bool (y_22 != y_4))] rfl ⟨rfl, rfl, rfl, rfl, rfl, trivial⟩ ?_
                          refine WO_end ?_
                          cases hx115
                          refine WK.sub ?_ (WK.cls (fun _ h => h) hk116)
                          exact ⟨rfl, rfl, rfl, rfl, rfl, trivial⟩
          · refine WK_block ?_
            refine WK_loop (S := List (List Int) × Int × Int) (G := List Ent) (fun s => fiduciallaw45_AggregateChanges_s2 s.1 s.2.1 s.2.2) (fun s g => [(0, .slice a72 ((y_16).length) c73), (2, .int .i64 s.2.1), (3, .int .i64 s.2.2)]) (fun s g => St w0 m m76 [[⟨b1, 41, [.int .i64 p1_0, .int .i64 p1_1, .int .i64 p1_2, .int .i64 p1_3]⟩], [⟨b2, 42, [.int .u8 p2_0, .int .u8 p2_1]⟩], L13, [], [], L65, g]) (fun s g => OwnX 24 1 V1 (RowE (FE (I1 .i64)) 1) m76 (.slice a72 ((y_16).length) c73) s.1 g) FUEL (y_16, 0, w64 (((y_16).length : Int) - 1)) L74 x81 hx82 h78 ⟨rfl, rfl, rfl, trivial⟩ (fun _ h => h) ?_
            rintro ⟨l_17, s_18, s_19⟩ L79 o85 fl86 hm84 hL79 hn87 hd88
            have hm84 : fiduciallaw45_AggregateChanges_s2 l_17 s_18 s_19 = some o85 := hm84
            unfold fiduciallaw45_AggregateChanges_s2 at hm84
            refine WK.sub (e' := [(0, .slice a72 ((y_16).length) c73), (2, .int .i64 s_18), (3, .int .i64 s_19)]) ⟨rfl, rfl, rfl, trivial⟩ (WK.cls (C' := St w0 m m76 [[⟨b1, 41, [.int .i64 p1_0, .int .i64 p1_1, .int .i64 p1_2, .int .i64 p1_3]⟩], [⟨b2, 42, [.int .u8 p2_0, .int .u8 p2_1]⟩], L13, [], [], L65, L79]) (fun _ h => h) ?_)
            refine WK_seq ?_
            refine WK_seq ?_
            refine WK_region ?_
            refine WO_pure tbok 3 [(0, .slice a72 ((y_16).length) c73), (2, .int .i64 s_18), (3, .int .i64 s_19), (9, .bool (decide (s_18 < s_19)))] rfl ⟨rfl, rfl, rfl, rfl, trivial⟩ ?_
            refine WO_end ?_
            refine WK_cond (b := decide (s_18 < s_19)) rfl (fun hb127 => ?_) (fun hb127 => ?_)
            · have hm84 := ifT hb127 hm84
              refine WK_skip ?_
              refine WK_seq ?_
              refine WK_block ?_
              refine WK_plan 13 [0, 1, 2, 3, 4, 5, 6, 8, 9, 10] (.run [7, 11, 12] .fin) follows_ok (by kernel_rfl) St_closed ?_
              refine WO_pure tbok 6 [(0, .slice a72 ((y_16).length) c73), (2, .int .i64 s_18), (3, .int .i64 s_19), (14, .slice a72 ((y_16).length) c73), (15, .int .i64 s_18), (16, .slice a72 ((y_16).length) c73), (17, .int .i64 s_19), (18, .slice a72 ((y_16).length) c73), (19, .int .i64 s_19)] rfl ⟨rfl, rfl, rfl, rfl, rfl, rfl, rfl, rfl, rfl, trivial⟩ ?_
              obtain ⟨v_31, hy128, hm84⟩ := bind_some hm84
              obtain ⟨hc129, hy128⟩ := ix_some hy128
              refine WO_index tbok rfl rfl rfl rfl rfl rfl rfl rfl (OwnX.addr hL79) (by simpa using hc129) ?_
              refine WO_pure tbok 2 [(0, .slice a72 ((y_16).length) c73), (2, .int .i64 s_18), (3, .int .i64 s_19), (14, .slice a72 ((y_16).length) c73), (15, .int .i64 s_18), (16, .slice a72 ((y_16).length) c73), (17, .int .i64 s_19), (20, .pointer (some (eAddr (.slice a72 ((y_16).length) c73) 1 s_19.toNat))), (22, .slice a72 ((y_16).length) c73), (23, .int .i64 s_18)] rfl ⟨rfl, rfl, rfl, rfl, rfl, rfl, rfl, rfl, rfl, rfl, trivial⟩ ?_
              obtain ⟨v_32, hy130, hm84⟩ := bind_some hm84
              obtain ⟨hc131, hy130⟩ := ix_some hy130
              refine WO_index tbok rfl rfl rfl rfl rfl rfl rfl rfl (OwnX.addr hL79) (by simpa using hc131) ?_
              refine WO_plan ?_
              refine WT_run ?_
              refine WO_loadOX (E := V1) tbok (fun _ => rfl) 6 rfl rfl rfl rfl (fun _ h => h) hL79 rfl hy128 (fun cs hcs => ?_)
              obtain ⟨v0, rfl, h134⟩ := hcs
              obtain ⟨a132, c133, rfl, _⟩ := SlR.len h134
              refine ⟨_, rfl, ?_⟩
              refine WO_loadOX (E := V1) tbok (fun _ => rfl) 6 rfl rfl rfl rfl (fun _ h => h) hL79 rfl hy130 (fun cs hcs => ?_)
              obtain ⟨v0, rfl, h137⟩ := hcs
              obtain ⟨a135, c136, rfl, _⟩ := SlR.len h137
              refine ⟨_, rfl, ?_⟩
              obtain ⟨hc138, hm84⟩ := chk_some hm84
              refine WO_index tbok rfl rfl rfl rfl rfl rfl rfl rfl (OwnX.addr hL79) (by simpa using hc138) ?_
              refine WO_tree rfl ?_
              refine WT_fin ?_
              refine WO_storeOX (E := V1) (El := (RowE (FE (I1 .i64)) 1)) tbok (fun _ => rfl) 6 (.slice a132 ((v_31).length) c133) v_31 rfl rfl rfl rfl rfl hL79 rfl (by simpa using idx_lt hc138) rfl rfl rfl rfl ⟨_, rfl, h134⟩ (fun L139 hL139 => ?_)
              refine WO.cls (C' := St w0 m m76 [[⟨b1, 41, [.int .i64 p1_0, .int .i64 p1_1, .int .i64 p1_2, .int .i64 p1_3]⟩], [⟨b2, 42, [.int .u8 p2_0, .int .u8 p2_1]⟩], L13, [], [], L65, L139]) (fun _ h => h) ?_
              obtain ⟨hc140, hm84⟩ := chk_some hm84
              refine WO_index tbok rfl rfl rfl rfl rfl rfl rfl rfl (OwnX.addr hL139) (by simpa using hc140) ?_
              refine WO_storeOX (E := V1) (El := (RowE (FE (I1 .i64)) 1)) tbok (fun _ => rfl) 6 (.slice a135 ((v_32).length) c136) v_32 rfl rfl rfl rfl rfl hL139 rfl (by simpa using idx_lt hc140) rfl rfl rfl rfl ⟨_, rfl, h137⟩ (fun L141 hL141 => ?_)
              refine WO.cls (C' := St w0 m m76 [[⟨b1, 41, [.int .i64 p1_0, .int .i64 p1_1, .int .i64 p1_2, .int .i64 p1_3]⟩], [⟨b2, 42, [.int .u8 p2_0, .int .u8 p2_1]⟩], L13, [], [], L65, L141]) (fun _ h => h) ?_
              refine WO_end ?_
              refine WK_blk ?_
              refine WK_region ?_
              refine WO_pure tbok 6 [(0, .slice a72 ((y_16).length) c73), (2, .int .i64 (w64 (s_18 + 1))), (3, .int .i64 (w64 (s_19 - 1)))] rfl ⟨rfl, rfl, rfl, trivial⟩ ?_
              refine WO_end ?_
              cases hm84
              refine WK.sub ?_ (WK.cls (fun _ h => h) (hn87 _ L141 rfl hL141))
              exact ⟨rfl, rfl, rfl, trivial⟩
            · have hm84 := ifF hb127 hm84
              refine WK_exit rfl ?_
              cases hm84
              refine WK.sub ?_ (WK.cls (fun _ h => h) (hk83 (l_17, L79) ⟨(hd88 _ rfl), hL79⟩))
              exact trivial
        · refine WK_block ?_
          refine WK_loop (S := List Int × Int) (G := Option Addr × Nat × Nat × List Ent × List Ent) (fun s => fiduciallaw45_AggregateChanges_s1 p0 p2_0 p2_1 y_7 v_8 s.1 s.2) (fun s g => [(0, .slice a_p0 p0.length c_p0), (4, .pointer (some ⟨b1, 0, none⟩)), (5, .pointer (some ⟨b2, 0, none⟩)), (6, .bool false), (7, .slice a9 ((y_3).length) c10), (8, .int .i64 y_4), (10, .int .i64 y_6), (11, .slice a20 ((y_7).length) c21), (12, .int .i64 (Int.tmod (w64 (p2_0)) (p0.length : Int))), (78, .slice a32 ((v_8).length) c33), (79, .int .i64 ((v_8).length : Int)), (80, .int .i64 s.2)]) (fun s g => St w0 m m24 [[⟨b1, 41, [.int .i64 p1_0, .int .i64 p1_1, .int .i64 p1_2, .int .i64 p1_3]⟩], [⟨b2, 42, [.int .u8 p2_0, .int .u8 p2_1]⟩], L13, g.2.2.2.2, g.2.2.2.1]) (fun s g => OwnE 3 1 (I1 .i64) (.slice g.1 g.2.1 g.2.2.1) s.1 g.2.2.2.1 ∧ OwnO 24 (RowE (FE (I1 .i64)) 1) m24 (.slice a20 ((y_7).length) c21) y_7 (Int.tmod (w64 (p2_0)) (p0.length : Int)).toNat (.slice g.1 g.2.1 g.2.2.1) g.2.2.2.2) FUEL (([] : List Int), 0) (none, 0, 0, [], L29) x45 hx46 ⟨(OwnE.nil (T := 3) (k := 1) (E := (I1 .i64)) none), hL29⟩ ⟨rfl, rfl, rfl, rfl, rfl, rfl, rfl, rfl, rfl, rfl, rfl, rfl, trivial⟩ (fun _ h => h) ?_
          rintro ⟨l_9, s_10⟩ ⟨a36, q37, c38, L35, L39⟩ o49 fl50 hm48 ⟨hL35, hL39⟩ hn51 hd52
          have hm48 : fiduciallaw45_AggregateChanges_s1 p0 p2_0 p2_1 y_7 v_8 l_9 s_10 = some o49 := hm48
          unfold fiduciallaw45_AggregateChanges_s1 at hm48
          have hqq : q37 = l_9.length := OwnE.qlen hL35
          subst hqq
          refine WK.sub (e' := [(0, .slice a_p0 p0.length c_p0), (4, .pointer (some ⟨b1, 0, none⟩)), (5, .pointer (some ⟨b2, 0, none⟩)), (6, .bool false), (7, .slice a9 ((y_3).length) c10), (8, .int .i64 y_4), (10, .int .i64 y_6), (11, .slice a20 ((y_7).length) c21), (12, .int .i64 (Int.tmod (w64 (p2_0)) (p0.length : Int))), (78, .slice a32 ((v_8).length) c33), (79, .int .i64 ((v_8).length : Int)), (80, .int .i64 s_10)]) ⟨rfl, rfl, rfl, rfl, rfl, rfl, rfl, rfl, rfl, rfl, rfl, rfl, trivial⟩ (WK.cls (C' := St w0 m m24 [[⟨b1, 41, [.int .i64 p1_0, .int .i64 p1_1, .int .i64 p1_2, .int .i64 p1_3]⟩], [⟨b2, 42, [.int .u8 p2_0, .int .u8 p2_1]⟩], L13, L39, L35]) (fun _ h => h) ?_)
          refine WK_seq ?_
          refine WK_region ?_
          refine WO_pure tbok 1 [(0, .slice a_p0 p0.length c_p0), (4, .pointer (some ⟨b1, 0, none⟩)), (5, .pointer (some ⟨b2, 0, none⟩)), (6, .bool false), (7, .slice a9 ((y_3).length) c10), (8, .int .i64 y_4), (10, .int .i64 y_6), (11, .slice a20 ((y_7).length) c21), (12, .int .i64 (Int.tmod (w64 (p2_0)) (p0.length : Int))), (78, .slice a32 ((v_8).length) c33), (79, .int .i64 ((v_8).length : Int)), (80, .int .i64 s_10), (81, .bool (decide (s_10 < ((v_8).length : Int))))] rfl ⟨rfl, rfl, rfl, rfl, rfl, rfl, rfl, rfl, rfl, rfl, rfl, rfl, rfl, trivial⟩ ?_
          refine WO_end ?_
          refine WK_seq ?_
          refine WK_cond (b := decide (s_10 < ((v_8).length : Int))) rfl (fun hb142 => ?_) (fun hb142 => ?_)
          · have hm48 := ifT hb142 hm48
            refine WK_skip ?_
            refine WK_seq ?_
            refine WK_block ?_
            refine WK_seq ?_
            refine WK_region ?_
            obtain ⟨v_33, hy143, hm48⟩ := bind_some hm48
            obtain ⟨hc144, hy143⟩ := ix_some hy143
            refine WO_index tbok rfl rfl rfl rfl rfl rfl rfl rfl (SlR.addr h34) hc144 ?_
            refine WO_loadE tbok rfl rfl rfl rfl (fun _ h => St.sat h) h34 hy143 rfl ?_
            refine WO_pure tbok 1 [(0, .slice a_p0 p0.length c_p0), (4, .pointer (some ⟨b1, 0, none⟩)), (5, .pointer (some ⟨b2, 0, none⟩)), (6, .bool false), (7, .slice a9 ((y_3).length) c10), (8, .int .i64 y_4), (10, .int .i64 y_6), (11, .slice a20 ((y_7).length) c21), (12, .int .i64 (Int.tmod (w64 (p2_0)) (p0.length : Int))), (14, .int .i64 v_33), (78, .slice a32 ((v_8).length) c33), (79, .int .i64 ((v_8).length : Int)), (80, .int .i64 s_10)] rfl ⟨rfl, rfl, rfl, rfl, rfl, rfl, rfl, rfl, rfl, rfl, rfl, rfl, rfl, trivial⟩ ?_
            refine WO_end ?_
            refine WK_seq ?_
            refine WK_seq ?_
            refine WK_region ?_
            refine WO_pure tbok 2 [(0, .slice a_p0 p0.length c_p0), (4, .pointer (some ⟨b1, 0, none⟩)), (5, .pointer (some ⟨b2, 0, none⟩)), (6, .bool false), (7, .slice a9 ((y_3).length) c10), (8, .int .i64 y_4), (10, .int .i64 y_6), (11, .slice a20 ((y_7).length) c21), (12, .int .i64 (Int.tmod (w64 (p2_0)) (p0.length : Int))), (14, .int .i64 v_33), (78, .slice a32 ((v_8).length) c33), (79, .int .i64 ((v_8).length : Int)), (80, .int .i64 s_10), (84, .int .i64 v_33), (85, .pointer (some ⟨b2, 1, none⟩))] rfl ⟨rfl, rfl, rfl, rfl, rfl, rfl, rfl, rfl, rfl, rfl, rfl, rfl, rfl, rfl, rfl, trivial⟩ ?_
            refine WO_loadB tbok 1 rfl rfl rfl rfl (fun _ h => h) rfl rfl ?_
            refine WO_pure tbok 3 [(0, .slice a_p0 p0.length c_p0), (4, .pointer (some ⟨b1, 0, none⟩)), (5, .pointer (some ⟨b2, 0, none⟩)), (6, .bool false), (7, .slice a9 ((y_3).length) c10), (8, .int .i64 y_4), (10, .int .i64 y_6), (11, .slice a20 ((y_7).length) c21), (12, .int .i64 (Int.tmod (w64 (p2_0)) (p0.length : Int))), (14, .int .i64 v_33), (78, .slice a32 ((v_8).length) c33), (79, .int .i64 ((v_8).length : Int)), (80, .int .i64 s_10), (89, .bool (decide (1048576 < (w64 (v_33 + (w64 (p2_1)))))))] rfl ⟨rfl, rfl, rfl, rfl, rfl, rfl, rfl, rfl, rfl, rfl, rfl, rfl, rfl, rfl, trivial⟩ ?_
            refine WO_end ?_
            refine WK_cond (b := decide (1048576 < (w64 (v_33 + (w64 (p2_1)))))) rfl (fun hb145 => ?_) (fun hb145 => ?_)
            · have hm48 := ifT hb145 hm48
              refine WK_seq ?_
              refine WK_region ?_
              refine WO_pure tbok 1 [(0, .slice a_p0 p0.length c_p0), (4, .pointer (some ⟨b1, 0, none⟩)), (5, .pointer (some ⟨b2, 0, none⟩)), (6, .bool true), (7, .slice a9 ((y_3).length) c10), (8, .int .i64 y_4), (10, .int .i64 y_6), (11, .slice a20 ((y_7).length) c21), (12, .int .i64 (Int.tmod (w64 (p2_0)) (p0.length : Int))), (14, .int .i64 v_33), (78, .slice a32 ((v_8).length) c33), (79, .int .i64 ((v_8).length : Int)), (80, .int .i64 s_10)] rfl ⟨rfl, rfl, rfl, rfl, rfl, rfl, rfl, rfl, rfl, rfl, rfl, rfl, rfl, trivial⟩ ?_
              refine WO_end ?_
              cases hm48
              have hq := hd52 _ rfl
              subst hq
              have hm : some _ = some _ := hm
              cases hm
              exact WK_ret (ret_out (L := []) (RLc_tmp rfl RLc_nil) (List.nil_sublist _) rfl)
            · have hm48 := ifF hb145 hm48
              refine WK_skip ?_
              refine WK_plan 12 [0, 1, 2, 3, 4, 6, 7] (.run [5, 8, 9, 10, 11] .fin) follows_ok (by kernel_rfl) St_closed ?_
              refine WO_pure tbok 4 [(0, .slice a_p0 p0.length c_p0), (4, .pointer (some ⟨b1, 0, none⟩)), (5, .pointer (some ⟨b2, 0, none⟩)), (6, .bool false), (7, .slice a9 ((y_3).length) c10), (8, .int .i64 y_4), (10, .int .i64 y_6), (11, .slice a20 ((y_7).length) c21), (12, .int .i64 (Int.tmod (w64 (p2_0)) (p0.length : Int))), (14, .int .i64 v_33), (78, .slice a32 ((v_8).length) c33), (79, .int .i64 ((v_8).length : Int)), (80, .int .i64 s_10), (90, .slice a20 ((y_7).length) c21), (91, .int .i64 (Int.tmod (w64 (p2_0)) (p0.length : Int))), (92, .slice a20 ((y_7).length) c21), (93, .int .i64 (Int.tmod (w64 (p2_0)) (p0.length : Int)))] rfl ⟨rfl, rfl, rfl, rfl, rfl, rfl, rfl, rfl, rfl, rfl, rfl, rfl, rfl, rfl, rfl, rfl, rfl, trivial⟩ ?_
              obtain ⟨hc146, hm48⟩ := chk_some hm48
              refine WO_index tbok rfl rfl rfl rfl rfl rfl rfl rfl (OwnO.addr hL39) (by simpa using hc146) ?_
              refine WO_pure tbok 2 [(0, .slice a_p0 p0.length c_p0), (4, .pointer (some ⟨b1, 0, none⟩)), (5, .pointer (some ⟨b2, 0, none⟩)), (6, .bool false), (7, .slice a9 ((y_3).length) c10), (8, .int .i64 y_4), (10, .int .i64 y_6), (11, .slice a20 ((y_7).length) c21), (12, .int .i64 (Int.tmod (w64 (p2_0)) (p0.length : Int))), (78, .slice a32 ((v_8).length) c33), (79, .int .i64 ((v_8).length : Int)), (80, .int .i64 s_10), (90, .slice a20 ((y_7).length) c21), (91, .int .i64 (Int.tmod (w64 (p2_0)) (p0.length : Int))), (94, .pointer (some (eAddr (.slice a20 ((y_7).length) c21) 1 (Int.tmod (w64 (p2_0)) (p0.length : Int)).toNat))), (96, .int .i64 v_33), (97, .pointer (some ⟨b2, 1, none⟩))] rfl ⟨rfl, rfl, rfl, rfl, rfl, rfl, rfl, rfl, rfl, rfl, rfl, rfl, rfl, rfl, rfl, rfl, rfl, trivial⟩ ?_
              refine WO_plan ?_
              refine WT_run ?_
              refine WO_loadOut tbok 3 rfl rfl rfl rfl (fun _ h => h) hL39 rfl rfl ?_
              refine WO_loadB tbok 1 rfl rfl rfl rfl (fun _ h => h) rfl rfl ?_
              refine WO_pure tbok 2 [(0, .slice a_p0 p0.length c_p0), (4, .pointer (some ⟨b1, 0, none⟩)), (5, .pointer (some ⟨b2, 0, none⟩)), (6, .bool false), (7, .slice a9 ((y_3).length) c10), (8, .int .i64 y_4), (10, .int .i64 y_6), (11, .slice a20 ((y_7).length) c21), (12, .int .i64 (Int.tmod (w64 (p2_0)) (p0.length : Int))), (78, .slice a32 ((v_8).length) c33), (79, .int .i64 ((v_8).length : Int)), (80, .int .i64 s_10), (90, .slice a20 ((y_7).length) c21), (91, .int .i64 (Int.tmod (w64 (p2_0)) (p0.length : Int))), (95, .slice a36 ((l_9).length) c38), (100, .int .i64 (w64 (v_33 + (w64 (p2_1)))))] rfl ⟨rfl, rfl, rfl, rfl, rfl, rfl, rfl, rfl, rfl, rfl, rfl, rfl, rfl, rfl, rfl, rfl, trivial⟩ ?_
              refine WO_bslice (E := (I1 .i64)) tbok (fun _ => rfl) (by decide) [.int .i64 (w64 (v_33 + (w64 (p2_1))))] ([w64 (v_33 + (w64 (p2_1)))] : List Int) rfl rfl St_closed rfl rfl rfl rfl rfl rfl rfl rfl rfl rfl rfl rfl (fun b147 hb147 => ?_)
              refine WO.cls (C' := St w0 m m24 [[⟨b1, 41, [.int .i64 p1_0, .int .i64 p1_1, .int .i64 p1_2, .int .i64 p1_3]⟩], [⟨b2, 42, [.int .u8 p2_0, .int .u8 p2_1]⟩], L13, L39, L35, [⟨b147, 3, ([w64 (v_33 + (w64 (p2_1)))] : List Int).flatMap (I1 .i64)⟩]]) (fun _ h => h) ?_
              refine WO_tree rfl ?_
              refine WT_fin ?_
              obtain ⟨hc148, hm48⟩ := chk_some hm48
              refine WO_append (E := (I1 .i64)) tbok (fun _ => rfl) 4 ([w64 (v_33 + (w64 (p2_1)))] : List Int) (fun _ _ => rfl) rfl rfl rfl rfl rfl rfl rfl rfl rfl rfl rfl rfl hL35 rfl (src_seg (j := 5) rfl) (ap_ok (by decide) hc148) (ap_max hc148) (fun a149 c150 L151 hL151 => ?_)
              refine WO.cls (C' := St w0 m m24 [[⟨b1, 41, [.int .i64 p1_0, .int .i64 p1_1, .int .i64 p1_2, .int .i64 p1_3]⟩], [⟨b2, 42, [.int .u8 p2_0, .int .u8 p2_1]⟩], L13, L39, L151, [⟨b147, 3, ([w64 (v_33 + (w64 (p2_1)))] : List Int).flatMap (I1 .i64)⟩]]) (fun _ h => h) ?_
              obtain ⟨hc152, hm48⟩ := chk_some hm48
              refine WO_index tbok rfl rfl rfl rfl rfl rfl rfl rfl (OwnO.addr hL39) (by simpa using hc152) ?_
              refine WO_storeOO tbok 3 rfl rfl rfl rfl rfl hL39 rfl rfl rfl rfl rfl (fun L153 hL153 => ?_)
              refine WO.cls (C' := St w0 m m24 [[⟨b1, 41, [.int .i64 p1_0, .int .i64 p1_1, .int .i64 p1_2, .int .i64 p1_3]⟩], [⟨b2, 42, [.int .u8 p2_0, .int .u8 p2_1]⟩], L13, L153, L151, [⟨b147, 3, ([w64 (v_33 + (w64 (p2_1)))] : List Int).flatMap (I1 .i64)⟩]]) (fun _ h => h) ?_
              refine WO_end ?_
              refine WK_blk ?_
              refine WK_region ?_
              refine WO_pure tbok 2 [(0, .slice a_p0 p0.length c_p0), (4, .pointer (some ⟨b1, 0, none⟩)), (5, .pointer (some ⟨b2, 0, none⟩)), (6, .bool false), (7, .slice a9 ((y_3).length) c10), (8, .int .i64 y_4), (10, .int .i64 y_6), (11, .slice a20 ((y_7).length) c21), (12, .int .i64 (Int.tmod (w64 (p2_0)) (p0.length : Int))), (78, .slice a32 ((v_8).length) c33), (79, .int .i64 ((v_8).length : Int)), (80, .int .i64 (w64 (s_10 + 1)))] rfl ⟨rfl, rfl, rfl, rfl, rfl, rfl, rfl, rfl, rfl, rfl, rfl, rfl, trivial⟩ ?_
              refine WO_end ?_
              cases hm48
              refine WK.sub ?_ (WK.cls (fun _ h => St.take 5 h) (hn51 _ (a149, (l_9 ++ ([w64 (v_33 + (w64 (p2_1)))] : List Int)).length, c150, L151, L153) rfl ⟨hL151, hL153⟩))
              exact ⟨rfl, rfl, rfl, rfl, rfl, rfl, rfl, rfl, rfl, rfl, rfl, rfl, trivial⟩
          · have hm48 := ifF hb142 hm48
            refine WK_exit rfl ?_
            cases hm48
            refine WK.sub ?_ (WK.cls (fun _ h => h) (hk47 (l_9, (a36, _, c38, L35, L39)) ⟨(hd52 _ rfl), hL35, hL39⟩))
            exact ⟨rfl, rfl, rfl, rfl, rfl, rfl, rfl, rfl, trivial⟩
    · refine WK_region ?_
      refine WO_pure tbok 1 [(0, .slice a_p0 p0.length c_p0), (4, .pointer (some ⟨b1, 0, none⟩)), (5, .pointer (some ⟨b2, 0, none⟩)), (6, .bool false), (30, .slice a_p0 p0.length c_p0)] rfl ⟨rfl, rfl, rfl, rfl, rfl, trivial⟩ ?_
      obtain ⟨y_34, hc154, hx5⟩ := bind_some hx5
      refine WO_call0 (.bool y_34) rfl rfl trivial rfl rfl rfl rfl St_closed ⟨9, #[], #[], rfl, callable_9, fun w hw => ⟨_, hw.sat, fiduciallaw45_few_walk h_p0 hc154⟩⟩ ?_
      refine WO_pure tbok 2 [(0, .slice a_p0 p0.length c_p0), (4, .pointer (some ⟨b1, 0, none⟩)), (5, .pointer (some ⟨b2, 0, none⟩)), (6, .bool false), (33, .bool (!y_34))] rfl ⟨rfl, rfl, rfl, rfl, rfl, trivial⟩ ?_
      refine WO_split (d := 33) (b := !y_34) rfl (fun hb155 => ?_) (fun hb155 => ?_)
      · have hx5 := ifT hb155 hx5
        refine WO_pure tbok 6 [(0, .slice a_p0 p0.length c_p0), (4, .pointer (some ⟨b1, 0, none⟩)), (5, .pointer (some ⟨b2, 0, none⟩)), (6, .bool false), (33, .bool true)] rfl ⟨rfl, rfl, rfl, rfl, rfl, trivial⟩ ?_
        refine WO_skip rfl rfl ?_
        refine WO_pure tbok 9 [(0, .slice a_p0 p0.length c_p0), (4, .pointer (some ⟨b1, 0, none⟩)), (5, .pointer (some ⟨b2, 0, none⟩)), (6, .bool false), (43, .bool true)] rfl ⟨rfl, rfl, rfl, rfl, rfl, trivial⟩ ?_
        refine WO_skip rfl rfl ?_
        refine WO_pure tbok 2 [(0, .slice a_p0 p0.length c_p0), (4, .pointer (some ⟨b1, 0, none⟩)), (5, .pointer (some ⟨b2, 0, none⟩)), (6, .bool false), (52, .bool true)] rfl ⟨rfl, rfl, rfl, rfl, rfl, trivial⟩ ?_
        refine WO_end ?_
        cases hx5
        refine WK.sub ?_ (WK.cls (fun _ h => h) hk6)
        exact ⟨rfl, rfl, rfl, rfl, rfl, trivial⟩
      · have hx5 := ifF hb155 hx5
        refine WO_pure tbok 2 [(0, .slice a_p0 p0.length c_p0), (4, .pointer (some ⟨b1, 0, none⟩)), (5, .pointer (some ⟨b2, 0, none⟩)), (6, .bool false), (33, .bool false), (34, .slice a_p0 p0.length c_p0), (35, .pointer (some ⟨b1, 0, none⟩))] rfl ⟨rfl, rfl, rfl, rfl, rfl, rfl, rfl, trivial⟩ ?_
        refine WO_loadB tbok 0 rfl rfl rfl rfl (fun _ h => h) rfl rfl ?_
        refine WO_pure tbok 1 [(0, .slice a_p0 p0.length c_p0), (4, .pointer (some ⟨b1, 0, none⟩)), (5, .pointer (some ⟨b2, 0, none⟩)), (6, .bool false), (33, .bool false), (34, .slice a_p0 p0.length c_p0), (36, .int .i64 p1_0), (37, .pointer (some ⟨b1, 1, none⟩))] rfl ⟨rfl, rfl, rfl, rfl, rfl, rfl, rfl, rfl, trivial⟩ ?_
        refine WO_loadB tbok 0 rfl rfl rfl rfl (fun _ h => h) rfl rfl ?_
        refine WO_pure tbok 1 [(0, .slice a_p0 p0.length c_p0), (4, .pointer (some ⟨b1, 0, none⟩)), (5, .pointer (some ⟨b2, 0, none⟩)), (6, .bool false), (33, .bool false), (34, .slice a_p0 p0.length c_p0), (39, .agg #[.int .i64 p1_0, .int .i64 p1_1])] rfl ⟨rfl, rfl, rfl, rfl, rfl, rfl, rfl, trivial⟩ ?_
        obtain ⟨y_35, hc156, hx5⟩ := bind_some hx5
        refine WO_call0 (.int .i64 y_35) rfl rfl trivial rfl rfl rfl rfl St_closed ⟨11, #[], #[], rfl, callable_11, fun w hw => ⟨_, hw.sat, fiduciallaw45_lined_walk h_p0 hc156⟩⟩ ?_
        refine WO_pure tbok 3 [(0, .slice a_p0 p0.length c_p0), (4, .pointer (some ⟨b1, 0, none⟩)), (5, .pointer (some ⟨b2, 0, none⟩)), (6, .bool false), (43, .bool (y_35 != 0))] rfl ⟨rfl, rfl, rfl, rfl, rfl, trivial⟩ ?_
        refine WO_split (d := 43) (b := y_35 != 0) rfl (fun hb157 => ?_) (fun hb157 => ?_)
        · have hx5 := ifT hb157 hx5
          refine WO_pure tbok 6 [(0, .slice a_p0 p0.length c_p0), (4, .pointer (some ⟨b1, 0, none⟩)), (5, .pointer (some ⟨b2, 0, none⟩)), (6, .bool false), (43, .bool true)] rfl ⟨rfl, rfl, rfl, rfl, rfl, trivial⟩ ?_
          refine WO_skip rfl rfl ?_
          refine WO_pure tbok 2 [(0, .slice a_p0 p0.length c_p0), (4, .pointer (some ⟨b1, 0, none⟩)), (5, .pointer (some ⟨b2, 0, none⟩)), (6, .bool false), (52, .bool true)] rfl ⟨rfl, rfl, rfl, rfl, rfl, trivial⟩ ?_
          refine WO_end ?_
          cases hx5
          refine WK.sub ?_ (WK.cls (fun _ h => h) hk6)
          exact ⟨rfl, rfl, rfl, rfl, rfl, trivial⟩
        · have hx5 := ifF hb157 hx5
          refine WO_pure tbok 2 [(0, .slice a_p0 p0.length c_p0), (4, .pointer (some ⟨b1, 0, none⟩)), (5, .pointer (some ⟨b2, 0, none⟩)), (6, .bool false), (43, .bool false), (44, .slice a_p0 p0.length c_p0), (45, .pointer (some ⟨b1, 2, none⟩))] rfl ⟨rfl, rfl, rfl, rfl, rfl, rfl, rfl, trivial⟩ ?_
          refine WO_loadB tbok 0 rfl rfl rfl rfl (fun _ h => h) rfl rfl ?_
          refine WO_pure tbok 1 [(0, .slice a_p0 p0.length c_p0), (4, .pointer (some ⟨b1, 0, none⟩)), (5, .pointer (some ⟨b2, 0, none⟩)), (6, .bool false), (43, .bool false), (44, .slice a_p0 p0.length c_p0), (46, .int .i64 p1_2), (47, .pointer (some ⟨b1, 3, none⟩))] rfl ⟨rfl, rfl, rfl, rfl, rfl, rfl, rfl, rfl, trivial⟩ ?_
          refine WO_loadB tbok 0 rfl rfl rfl rfl (fun _ h => h) rfl rfl ?_
          refine WO_pure tbok 1 [(0, .slice a_p0 p0.length c_p0), (4, .pointer (some ⟨b1, 0, none⟩)), (5, .pointer (some ⟨b2, 0, none⟩)), (6, .bool false), (43, .bool false), (44, .slice a_p0 p0.length c_p0), (49, .agg #[.int .i64 p1_2, .int .i64 p1_3])] rfl ⟨rfl, rfl, rfl, rfl, rfl, rfl, rfl, trivial⟩ ?_
          obtain ⟨y_36, hc158, hx5⟩ := bind_some hx5
          refine WO_call0 (.int .i64 y_36) rfl rfl trivial rfl rfl rfl rfl St_closed ⟨11, #[], #[], rfl, callable_11, fun w hw => ⟨_, hw.sat, fiduciallaw45_lined_walk h_p0 hc158⟩⟩ ?_
          refine WO_pure tbok 2 [(0, .slice a_p0 p0.length c_p0), (4, .pointer (some ⟨b1, 0, none⟩)), (5, .pointer (some ⟨b2, 0, none⟩)), (6, .bool false), (52, .bool (y_36 != 0))] rfl ⟨rfl, rfl, rfl, rfl, rfl, trivial⟩ ?_
          refine WO_end ?_
          cases hx5
          refine WK.sub ?_ (WK.cls (fun _ h => h) hk6)
          exact ⟨rfl, rfl, rfl, rfl, rfl, trivial⟩
end Go.Proofs.Ytgakaghdiodakaa
