import Derived.Test.YtgakaghdiodakaaTab
import Derived.Test.YtgakaghdiodakaaM
import Derived.Test.YtgakaghdiodakaaW4
set_option linter.unusedVariables false
set_option maxRecDepth 100000
set_option maxHeartbeats 4000000
namespace Go.Proofs.Ytgakaghdiodakaa
open Go.E Go.RowKit
attribute [local irreducible] Go.E.WO Go.E.WK
theorem fiduciallaw45_AggregateGrids_walk {m : Mu} {p0_0 : Int} {p0_1 : Int} {p0_2 : Int} {p0_3 : List Int} {p1_0 : Int} {p1_1 : Int} {p2 : List Int} {a_p0_3 : Option Addr} {q_p0_3 c_p0_3 : Nat} {a_p2 : Option Addr} {q_p2 c_p2 : Nat} (h_p0_3 : SlR (FE (I1 .i64)) 1 m (.slice a_p0_3 q_p0_3 c_p0_3) p0_3) (h_p2 : SlR (FE (I1 .i64)) 1 m (.slice a_p2 q_p2 c_p2) p2) {r : Bool} (hm : fiduciallaw45_AggregateGrids p0_0 p0_1 p0_2 p0_3 p1_0 p1_1 p2 = some r) :
    Go.E.Spec Try.prog 7 [.agg #[.int .i64 p0_0, .int .i64 p0_1, .int .i64 p0_2, .slice a_p0_3 q_p0_3 c_p0_3], .agg #[.int .i64 p1_0, .int .i64 p1_1], .slice a_p2 q_p2 c_p2] m (fun v _ _ => v = .bool r) := by
  refine Spec_enter Try.func7 rfl rfl rfl (fun w0 => ?_)
  refine WK.sub (e' := [(0, .agg #[.int .i64 p0_0, .int .i64 p0_1, .int .i64 p0_2, .slice a_p0_3 q_p0_3 c_p0_3]), (1, .agg #[.int .i64 p1_0, .int .i64 p1_1]), (2, .slice a_p2 q_p2 c_p2)]) ⟨rfl, rfl, rfl, trivial⟩ ?_
  obtain rfl := SlR.qlen h_p0_3
  obtain rfl := SlR.qlen h_p2
  refine WK.sub (e' := [(0, .agg #[.int .i64 p0_0, .int .i64 p0_1, .int .i64 p0_2, .slice a_p0_3 p0_3.length c_p0_3]), (1, .agg #[.int .i64 p1_0, .int .i64 p1_1]), (2, .slice a_p2 p2.length c_p2)]) ⟨rfl, rfl, rfl, trivial⟩ ?_
  unfold fiduciallaw45_AggregateGrids at hm
  refine WK_seq ?_
  refine WK_region ?_
  refine WO_box [.int .i64 p0_0, .int .i64 p0_1, .int .i64 p0_2, .slice a_p0_3 p0_3.length c_p0_3] rfl rfl trivial rfl rfl rfl (fun b1 => ?_)
  refine WO.cls (C' := St w0 m m [[⟨b1, 50, [.int .i64 p0_0, .int .i64 p0_1, .int .i64 p0_2, .slice a_p0_3 p0_3.length c_p0_3]⟩]]) (fun _ h => h) ?_
  refine WO_box [.int .i64 p1_0, .int .i64 p1_1] rfl rfl trivial rfl rfl rfl (fun b2 => ?_)
  refine WO.cls (C' := St w0 m m [[⟨b1, 50, [.int .i64 p0_0, .int .i64 p0_1, .int .i64 p0_2, .slice a_p0_3 p0_3.length c_p0_3]⟩], [⟨b2, 23, [.int .i64 p1_0, .int .i64 p1_1]⟩]]) (fun _ h => h) ?_
  refine WO_pure tbok 1 [(2, .slice a_p2 p2.length c_p2), (3, .pointer (some ⟨b1, 0, none⟩)), (4, .pointer (some ⟨b2, 0, none⟩)), (6, .bool false)] rfl ⟨rfl, rfl, rfl, rfl, trivial⟩ ?_
  refine WO_end ?_
  refine WK_seq ?_
  refine WK_seq ?_
  refine WK_region ?_
  obtain ⟨y_1, hc3, hm⟩ := bind_some hm
  refine WO_call0 (.bool y_1) rfl rfl trivial rfl rfl rfl rfl St_closed ⟨8, #[], #[], rfl, callable_8, fun w hw => ⟨_, hw.sat, fiduciallaw45_known_walk hc3⟩⟩ ?_
  refine WO_pure tbok 1 [(2, .slice a_p2 p2.length c_p2), (3, .pointer (some ⟨b1, 0, none⟩)), (4, .pointer (some ⟨b2, 0, none⟩)), (6, .bool false), (13, .bool (!y_1))] rfl ⟨rfl, rfl, rfl, rfl, rfl, trivial⟩ ?_
  refine WO_end ?_
  refine WK_cond (b := !y_1) rfl (fun hb4 => ?_) (fun hb4 => ?_)
  · have hm := ifT hb4 hm
    refine WK_seq ?_
    refine WK_region ?_
    refine WO_pure tbok 1 [(2, .slice a_p2 p2.length c_p2), (3, .pointer (some ⟨b1, 0, none⟩)), (4, .pointer (some ⟨b2, 0, none⟩)), (6, .bool false)] rfl ⟨rfl, rfl, rfl, rfl, trivial⟩ ?_
    refine WO_end ?_
    cases hm
    exact WK_ret (ret_out (L := []) (RLc_tmp rfl RLc_nil) (List.nil_sublist _) rfl)
  · have hm := ifF hb4 hm
    refine WK_skip ?_
    refine WK_seq ?_
    refine WK_seq ?_
    obtain ⟨s_2, hx5, hm⟩ := bind_some hm
    refine WK_meet [(2, .slice a_p2 p2.length c_p2), (3, .pointer (some ⟨b1, 0, none⟩)), (4, .pointer (some ⟨b2, 0, none⟩)), (6, .bool false), (21, .bool s_2)] (St w0 m m [[⟨b1, 50, [.int .i64 p0_0, .int .i64 p0_1, .int .i64 p0_2, .slice a_p0_3 p0_3.length c_p0_3]⟩], [⟨b2, 23, [.int .i64 p1_0, .int .i64 p1_1]⟩]]) ?_ (fun hk6 => ?_)
    · refine WK_cond (b := s_2) rfl (fun hb7 => ?_) (fun hb7 => ?_)
      · have hm := ifT hb7 hm
        refine WK_seq ?_
        refine WK_region ?_
        refine WO_pure tbok 1 [(2, .slice a_p2 p2.length c_p2), (3, .pointer (some ⟨b1, 0, none⟩)), (4, .pointer (some ⟨b2, 0, none⟩)), (6, .bool true)] rfl ⟨rfl, rfl, rfl, rfl, trivial⟩ ?_
        refine WO_end ?_
        cases hm
        exact WK_ret (ret_out (L := []) (RLc_tmp rfl RLc_nil) (List.nil_sublist _) rfl)
      · have hm := ifF hb7 hm
        refine WK_skip ?_
        refine WK_seq ?_
        refine WK_region ?_
        refine WO_loadB tbok 0 rfl rfl rfl rfl (fun _ h => h) rfl rfl ?_
        refine WO_pure tbok 1 [(2, .slice a_p2 p2.length c_p2), (3, .pointer (some ⟨b1, 0, none⟩)), (4, .pointer (some ⟨b2, 0, none⟩)), (6, .bool false), (23, .agg #[.int .i64 p0_0, .int .i64 p0_1, .int .i64 p0_2, .slice a_p0_3 p0_3.length c_p0_3]), (24, .pointer (some ⟨b2, 0, none⟩))] rfl ⟨rfl, rfl, rfl, rfl, rfl, rfl, trivial⟩ ?_
        refine WO_loadB tbok 1 rfl rfl rfl rfl (fun _ h => h) rfl rfl ?_
        refine WO_pure tbok 1 [(2, .slice a_p2 p2.length c_p2), (3, .pointer (some ⟨b1, 0, none⟩)), (4, .pointer (some ⟨b2, 0, none⟩)), (6, .bool false), (23, .agg #[.int .i64 p0_0, .int .i64 p0_1, .int .i64 p0_2, .slice a_p0_3 p0_3.length c_p0_3]), (25, .int .i64 p1_0), (26, .pointer (some ⟨b2, 1, none⟩))] rfl ⟨rfl, rfl, rfl, rfl, rfl, rfl, rfl, trivial⟩ ?_
        refine WO_loadB tbok 1 rfl rfl rfl rfl (fun _ h => h) rfl rfl ?_
        refine WO_pure tbok 1 [(2, .slice a_p2 p2.length c_p2), (3, .pointer (some ⟨b1, 0, none⟩)), (4, .pointer (some ⟨b2, 0, none⟩)), (6, .bool false), (23, .agg #[.int .i64 p0_0, .int .i64 p0_1, .int .i64 p0_2, .slice a_p0_3 p0_3.length c_p0_3]), (25, .int .i64 p1_0), (27, .int .i64 p1_1), (28, .slice a_p2 p2.length c_p2)] rfl ⟨rfl, rfl, rfl, rfl, rfl, rfl, rfl, rfl, trivial⟩ ?_
        obtain ⟨⟨y_3, y_4⟩, hc8, hm⟩ := bind_some hm
        refine WO_call0 (.tuple #[.int .i64 y_3, .int .i64 y_4]) rfl rfl trivial rfl rfl rfl rfl St_closed ⟨24, #[], #[], rfl, callable_24, fun w hw => ⟨_, hw.sat, aggregate_Grid_walk h_p0_3 h_p2 hc8⟩⟩ ?_
        refine WO_pure tbok 5 [(2, .slice a_p2 p2.length c_p2), (3, .pointer (some ⟨b1, 0, none⟩)), (4, .pointer (some ⟨b2, 0, none⟩)), (6, .bool false), (7, .int .i64 y_3), (8, .int .i64 y_4)] rfl ⟨rfl, rfl, rfl, rfl, rfl, rfl, trivial⟩ ?_
        refine WO_end ?_
        refine WK_seq ?_
        refine WK_region ?_
        refine WO_loadB tbok 0 rfl rfl rfl rfl (fun _ h => h) rfl rfl ?_
        refine WO_pure tbok 1 [(2, .slice a_p2 p2.length c_p2), (3, .pointer (some ⟨b1, 0, none⟩)), (4, .pointer (some ⟨b2, 0, none⟩)), (6, .bool false), (7, .int .i64 y_3), (8, .int .i64 y_4), (33, .agg #[.int .i64 p0_0, .int .i64 p0_1, .int .i64 p0_2, .slice a_p0_3 p0_3.length c_p0_3]), (34, .pointer (some ⟨b2, 0, none⟩))] rfl ⟨rfl, rfl, rfl, rfl, rfl, rfl, rfl, rfl, trivial⟩ ?_
        refine WO_loadB tbok 1 rfl rfl rfl rfl (fun _ h => h) rfl rfl ?_
        refine WO_pure tbok 1 [(2, .slice a_p2 p2.length c_p2), (3, .pointer (some ⟨b1, 0, none⟩)), (4, .pointer (some ⟨b2, 0, none⟩)), (6, .bool false), (7, .int .i64 y_3), (8, .int .i64 y_4), (33, .agg #[.int .i64 p0_0, .int .i64 p0_1, .int .i64 p0_2, .slice a_p0_3 p0_3.length c_p0_3]), (35, .int .i64 p1_0), (36, .pointer (some ⟨b2, 1, none⟩))] rfl ⟨rfl, rfl, rfl, rfl, rfl, rfl, rfl, rfl, rfl, trivial⟩ ?_
        refine WO_loadB tbok 1 rfl rfl rfl rfl (fun _ h => h) rfl rfl ?_
        obtain ⟨⟨y_5, y_6⟩, hc9, hm⟩ := bind_some hm
        refine WO_call0 (.tuple #[.int .i64 y_5, .int .i64 y_6]) rfl rfl trivial rfl rfl rfl rfl St_closed ⟨25, #[], #[], rfl, callable_25, fun w hw => ⟨_, hw.sat, aggregate_Bound_walk h_p0_3 hc9⟩⟩ ?_
        refine WO_pure tbok 5 [(2, .slice a_p2 p2.length c_p2), (3, .pointer (some ⟨b1, 0, none⟩)), (4, .pointer (some ⟨b2, 0, none⟩)), (6, .bool false), (7, .int .i64 y_3), (8, .int .i64 y_4), (9, .int .i64 y_5), (10, .int .i64 y_6)] rfl ⟨rfl, rfl, rfl, rfl, rfl, rfl, rfl, rfl, trivial⟩ ?_
        refine WO_end ?_
        refine WK_seq ?_
        refine WK_region ?_
        refine WO_loadB tbok 0 rfl rfl rfl rfl (fun _ h => h) rfl rfl ?_
        refine WO_pure tbok 1 [(2, .slice a_p2 p2.length c_p2), (3, .pointer (some ⟨b1, 0, none⟩)), (4, .pointer (some ⟨b2, 0, none⟩)), (6, .bool false), (7, .int .i64 y_3), (8, .int .i64 y_4), (9, .int .i64 y_5), (10, .int .i64 y_6), (41, .agg #[.int .i64 p0_0, .int .i64 p0_1, .int .i64 p0_2, .slice a_p0_3 p0_3.length c_p0_3]), (42, .pointer (some ⟨b2, 0, none⟩))] rfl ⟨rfl, rfl, rfl, rfl, rfl, rfl, rfl, rfl, rfl, rfl, trivial⟩ ?_
        refine WO_loadB tbok 1 rfl rfl rfl rfl (fun _ h => h) rfl rfl ?_
        refine WO_pure tbok 1 [(2, .slice a_p2 p2.length c_p2), (3, .pointer (some ⟨b1, 0, none⟩)), (4, .pointer (some ⟨b2, 0, none⟩)), (6, .bool false), (7, .int .i64 y_3), (8, .int .i64 y_4), (9, .int .i64 y_5), (10, .int .i64 y_6), (41, .agg #[.int .i64 p0_0, .int .i64 p0_1, .int .i64 p0_2, .slice a_p0_3 p0_3.length c_p0_3]), (43, .int .i64 p1_0), (44, .pointer (some ⟨b2, 1, none⟩))] rfl ⟨rfl, rfl, rfl, rfl, rfl, rfl, rfl, rfl, rfl, rfl, rfl, trivial⟩ ?_
        refine WO_loadB tbok 1 rfl rfl rfl rfl (fun _ h => h) rfl rfl ?_
        obtain ⟨y_7, hc10, hm⟩ := bind_some hm
        refine WO_call0 (.int .i64 y_7) rfl rfl trivial rfl rfl rfl rfl St_closed ⟨26, #[], #[], rfl, callable_26, fun w hw => ⟨_, hw.sat, fiduciallaw45_image_walk h_p0_3 hc10⟩⟩ ?_
        refine WO_pure tbok 1 [(2, .slice a_p2 p2.length c_p2), (3, .pointer (some ⟨b1, 0, none⟩)), (4, .pointer (some ⟨b2, 0, none⟩)), (6, .bool false), (7, .int .i64 y_3), (8, .int .i64 y_4), (9, .int .i64 y_5), (10, .int .i64 y_6), (11, .int .i64 y_7)] rfl ⟨rfl, rfl, rfl, rfl, rfl, rfl, rfl, rfl, rfl, trivial⟩ ?_
        refine WO_end ?_
        refine WK_seq ?_
        refine WK_seq ?_
        refine WK_region ?_
        refine WO_pure tbok 2 [(2, .slice a_p2 p2.length c_p2), (3, .pointer (some ⟨b1, 0, none⟩)), (4, .pointer (some ⟨b2, 0, none⟩)), (6, .bool false), (7, .int .i64 y_3), (8, .int .i64 y_4), (9, .int .i64 y_5), (10, .int .i64 y_6), (11, .int .i64 y_7), (48, .bool (y_7 == 0))] rfl ⟨rfl, rfl, rfl, rfl, rfl, rfl, rfl, rfl, rfl, rfl, trivial⟩ ?_
        refine WO_end ?_
        refine WK_cond (b := y_7 == 0) rfl (fun hb11 => ?_) (fun hb11 => ?_)
        · have hm := ifT hb11 hm
          refine WK_seq ?_
          refine WK_seq ?_
          refine WK_region ?_
          refine WO_pure tbok 1 [(2, .slice a_p2 p2.length c_p2), (3, .pointer (some ⟨b1, 0, none⟩)), (4, .pointer (some ⟨b2, 0, none⟩)), (6, .bool false), (7, .int .i64 y_3), (8, .int .i64 y_4), (9, .int .i64 y_5), (10, .int .i64 y_6), (11, .int .i64 y_7), (49, .pointer (some ⟨b2, 1, none⟩))] rfl ⟨rfl, rfl, rfl, rfl, rfl, rfl, rfl, rfl, rfl, rfl, trivial⟩ ?_
          refine WO_loadB tbok 1 rfl rfl rfl rfl (fun _ h => h) rfl rfl ?_
          refine WO_pure tbok 2 [(2, .slice a_p2 p2.length c_p2), (3, .pointer (some ⟨b1, 0, none⟩)), (4, .pointer (some ⟨b2, 0, none⟩)), (6, .bool false), (7, .int .i64 y_3), (8, .int .i64 y_4), (9, .int .i64 y_5), (10, .int .i64 y_6), (11, .int .i64 y_7), (52, .bool (decide (1048576 < (w64 (2 * p1_1)))))] rfl ⟨rfl, rfl, rfl, rfl, rfl, rfl, rfl, rfl, rfl, rfl, trivial⟩ ?_
          refine WO_end ?_
          refine WK_cond (b := decide (1048576 < (w64 (2 * p1_1)))) rfl (fun hb12 => ?_) (fun hb12 => ?_)
          · have hm := ifT hb12 hm
            refine WK_seq ?_
            obtain ⟨s_8, hx13, hm⟩ := bind_some hm
            refine WK_meet [(2, .slice a_p2 p2.length c_p2), (3, .pointer (some ⟨b1, 0, none⟩)), (4, .pointer (some ⟨b2, 0, none⟩)), (6, .bool false), (7, .int .i64 y_3), (8, .int .i64 y_4), (9, .int .i64 y_5), (10, .int .i64 y_6), (11, .int .i64 y_7), (58, .bool s_8)] (St w0 m m [[⟨b1, 50, [.int .i64 p0_0, .int .i64 p0_1, .int .i64 p0_2, .slice a_p0_3 p0_3.length c_p0_3]⟩], [⟨b2, 23, [.int .i64 p1_0, .int .i64 p1_1]⟩]]) ?_ (fun hk14 => ?_)
            · refine WK_cond (b := s_8) rfl (fun hb15 => ?_) (fun hb15 => ?_)
              · have hm := ifT hb15 hm
                refine WK_seq ?_
                refine WK_region ?_
                refine WO_pure tbok 1 [(2, .slice a_p2 p2.length c_p2), (3, .pointer (some ⟨b1, 0, none⟩)), (4, .pointer (some ⟨b2, 0, none⟩)), (6, .bool false), (7, .int .i64 y_3), (8, .int .i64 y_4), (9, .int .i64 y_5), (10, .int .i64 y_6), (11, .int .i64 y_7)] rfl ⟨rfl, rfl, rfl, rfl, rfl, rfl, rfl, rfl, rfl, trivial⟩ ?_
                refine WO_end ?_
                cases hm
                exact WK_ret (ret_out (L := []) (RLc_tmp rfl RLc_nil) (List.nil_sublist _) rfl)
              · have hm := ifF hb15 hm
                refine WK_skip ?_
                refine WK_region ?_
                refine WO_pure tbok 2 [(2, .slice a_p2 p2.length c_p2), (3, .pointer (some ⟨b1, 0, none⟩)), (4, .pointer (some ⟨b2, 0, none⟩)), (6, .bool false), (7, .int .i64 y_3), (8, .int .i64 y_4), (9, .int .i64 y_5), (10, .int .i64 y_6), (11, .int .i64 y_7), (71, .slice a_p2 p2.length c_p2), (72, .pointer (some ⟨b1, 0, none⟩))] rfl ⟨rfl, rfl, rfl, rfl, rfl, rfl, rfl, rfl, rfl, rfl, rfl, trivial⟩ ?_
                refine WO_loadB tbok 0 rfl rfl rfl rfl (fun _ h => h) rfl rfl ?_
                refine WO_pure tbok 1 [(2, .slice a_p2 p2.length c_p2), (3, .pointer (some ⟨b1, 0, none⟩)), (4, .pointer (some ⟨b2, 0, none⟩)), (6, .bool false), (7, .int .i64 y_3), (8, .int .i64 y_4), (9, .int .i64 y_5), (10, .int .i64 y_6), (11, .int .i64 y_7), (71, .slice a_p2 p2.length c_p2), (73, .int .i64 p0_0), (74, .pointer (some ⟨b1, 1, none⟩))] rfl ⟨rfl, rfl, rfl, rfl, rfl, rfl, rfl, rfl, rfl, rfl, rfl, rfl, trivial⟩ ?_
                refine WO_loadB tbok 0 rfl rfl rfl rfl (fun _ h => h) rfl rfl ?_
                refine WO_pure tbok 2 [(2, .slice a_p2 p2.length c_p2), (3, .pointer (some ⟨b1, 0, none⟩)), (4, .pointer (some ⟨b2, 0, none⟩)), (6, .bool false), (7, .int .i64 y_3), (8, .int .i64 y_4), (9, .int .i64 y_5), (10, .int .i64 y_6), (11, .int .i64 y_7), (71, .slice a_p2 p2.length c_p2), (76, .int .i64 (w64 (p0_0 * p0_1))), (77, .pointer (some ⟨b1, 2, none⟩))] rfl ⟨rfl, rfl, rfl, rfl, rfl, rfl, rfl, rfl, rfl, rfl, rfl, rfl, trivial⟩ ?_
                refine WO_loadB tbok 0 rfl rfl rfl rfl (fun _ h => h) rfl rfl ?_
                obtain ⟨y_9, hc16, hm⟩ := bind_some hm
                refine WO_call0 (.int .i64 y_9) rfl rfl trivial rfl rfl rfl rfl St_closed ⟨16, #[], #[], rfl, callable_16, fun w hw => ⟨_, hw.sat, fiduciallaw45_labelled_walk h_p2 hc16⟩⟩ ?_
                refine WO_pure tbok 1 [(2, .slice a_p2 p2.length c_p2), (3, .pointer (some ⟨b1, 0, none⟩)), (4, .pointer (some ⟨b2, 0, none⟩)), (6, .bool false), (7, .int .i64 y_3), (8, .int .i64 y_4), (9, .int .i64 y_5), (10, .int .i64 y_6), (11, .int .i64 y_9)] rfl ⟨rfl, rfl, rfl, rfl, rfl, rfl, rfl, rfl, rfl, trivial⟩ ?_
                refine WO_end ?_
                refine WK_seq ?_
                refine WK_seq ?_
                refine WK_region ?_
                refine WO_pure tbok 2 [(2, .slice a_p2 p2.length c_p2), (3, .pointer (some ⟨b1, 0, none⟩)), (4, .pointer (some ⟨b2, 0, none⟩)), (6, .bool false), (7, .int .i64 y_3), (8, .int .i64 y_4), (9, .int .i64 y_5), (10, .int .i64 y_6), (11, .int .i64 y_9), (88, .bool (y_9 != 0))] rfl ⟨rfl, rfl, rfl, rfl, rfl, rfl, rfl, rfl, rfl, rfl, trivial⟩ ?_
                refine WO_end ?_
                refine WK_cond (b := y_9 != 0) rfl (fun hb17 => ?_) (fun hb17 => ?_)
                · have hm := ifT hb17 hm
                  refine WK_seq ?_
                  refine WK_region ?_
                  refine WO_pure tbok 4 [(2, .slice a_p2 p2.length c_p2), (3, .pointer (some ⟨b1, 0, none⟩)), (4, .pointer (some ⟨b2, 0, none⟩)), (6, .bool false), (7, .int .i64 y_3), (8, .int .i64 y_4), (9, .int .i64 y_5), (10, .int .i64 y_6), (92, .bool (y_4 == y_9))] rfl ⟨rfl, rfl, rfl, rfl, rfl, rfl, rfl, rfl, rfl, trivial⟩ ?_
                  refine WO_split (d := 92) (b := y_4 == y_9) rfl (fun hb18 => ?_) (fun hb18 => ?_)
                  · have hm := ifT hb18 hm
                    refine WO_pure tbok 4 [(2, .slice a_p2 p2.length c_p2), (3, .pointer (some ⟨b1, 0, none⟩)), (4, .pointer (some ⟨b2, 0, none⟩)), (6, .bool (y_3 == 0)), (7, .int .i64 y_3), (8, .int .i64 y_4), (9, .int .i64 y_5), (10, .int .i64 y_6)] rfl ⟨rfl, rfl, rfl, rfl, rfl, rfl, rfl, rfl, trivial⟩ ?_
                    refine WO_end ?_
                    cases hm
                    exact WK_ret (ret_out (L := []) (RLc_tmp rfl RLc_nil) (List.nil_sublist _) rfl)
                  · have hm := ifF hb18 hm
                    refine WO_pure tbok 4 [(2, .slice a_p2 p2.length c_p2), (3, .pointer (some ⟨b1, 0, none⟩)), (4, .pointer (some ⟨b2, 0, none⟩)), (6, .bool false), (7, .int .i64 y_3), (8, .int .i64 y_4), (9, .int .i64 y_5), (10, .int .i64 y_6)] rfl ⟨rfl, rfl, rfl, rfl, rfl, rfl, rfl, rfl, trivial⟩ ?_
                    refine WO_end ?_
                    cases hm
                    exact WK_ret (ret_out (L := []) (RLc_tmp rfl RLc_nil) (List.nil_sublist _) rfl)
                · have hm := ifF hb17 hm
                  refine WK_skip ?_
                  refine WK_seq ?_
                  refine WK_region ?_
                  refine WO_pure tbok 3 [(2, .slice a_p2 p2.length c_p2), (3, .pointer (some ⟨b1, 0, none⟩)), (4, .pointer (some ⟨b2, 0, none⟩)), (6, .bool false), (7, .int .i64 y_3), (9, .int .i64 y_5), (10, .int .i64 y_6), (98, .bool (y_4 == 0))] rfl ⟨rfl, rfl, rfl, rfl, rfl, rfl, rfl, rfl, trivial⟩ ?_
                  refine WO_split (d := 98) (b := y_4 == 0) rfl (fun hb19 => ?_) (fun hb19 => ?_)
                  · have hm := ifT hb19 hm
                    refine WO_pure tbok 1 [(2, .slice a_p2 p2.length c_p2), (3, .pointer (some ⟨b1, 0, none⟩)), (4, .pointer (some ⟨b2, 0, none⟩)), (6, .bool false), (7, .int .i64 y_3), (9, .int .i64 y_5), (10, .int .i64 y_6), (98, .bool true), (99, .int .i64 y_3)] rfl ⟨rfl, rfl, rfl, rfl, rfl, rfl, rfl, rfl, rfl, trivial⟩ ?_
                    refine WO_loadB tbok 0 rfl rfl rfl rfl (fun _ h => h) rfl rfl ?_
                    refine WO_pure tbok 1 [(2, .slice a_p2 p2.length c_p2), (4, .pointer (some ⟨b2, 0, none⟩)), (6, .bool false), (7, .int .i64 y_3), (9, .int .i64 y_5), (10, .int .i64 y_6), (98, .bool true), (99, .int .i64 y_3), (100, .agg #[.int .i64 p0_0, .int .i64 p0_1, .int .i64 p0_2, .slice a_p0_3 p0_3.length c_p0_3]), (101, .pointer (some ⟨b2, 0, none⟩))] rfl ⟨rfl, rfl, rfl, rfl, rfl, rfl, rfl, rfl, rfl, rfl, trivial⟩ ?_
                    refine WO_loadB tbok 1 rfl rfl rfl rfl (fun _ h => h) rfl rfl ?_
                    refine WO_pure tbok 1 [(2, .slice a_p2 p2.length c_p2), (6, .bool false), (7, .int .i64 y_3), (9, .int .i64 y_5), (10, .int .i64 y_6), (98, .bool true), (99, .int .i64 y_3), (100, .agg #[.int .i64 p0_0, .int .i64 p0_1, .int .i64 p0_2, .slice a_p0_3 p0_3.length c_p0_3]), (102, .int .i64 p1_0), (103, .pointer (some ⟨b2, 1, none⟩))] rfl ⟨rfl, rfl, rfl, rfl, rfl, rfl, rfl, rfl, rfl, rfl, trivial⟩ ?_
                    refine WO_loadB tbok 1 rfl rfl rfl rfl (fun _ h => h) rfl rfl ?_
                    refine WO_pure tbok 1 [(6, .bool false), (7, .int .i64 y_3), (9, .int .i64 y_5), (10, .int .i64 y_6), (98, .bool true), (99, .int .i64 y_3), (100, .agg #[.int .i64 p0_0, .int .i64 p0_1, .int .i64 p0_2, .slice a_p0_3 p0_3.length c_p0_3]), (102, .int .i64 p1_0), (104, .int .i64 p1_1), (105, .slice a_p2 p2.length c_p2)] rfl ⟨rfl, rfl, rfl, rfl, rfl, rfl, rfl, rfl, rfl, rfl, trivial⟩ ?_
                    obtain ⟨y_10, hc20, hm⟩ := bind_some hm
                    refine WO_call0 (.int .i64 y_10) rfl rfl trivial rfl rfl rfl rfl St_closed ⟨28, #[], #[], rfl, callable_28, fun w hw => ⟨_, hw.sat, fiduciallaw45_grid_walk h_p0_3 h_p2 hc20⟩⟩ ?_
                    refine WO_pure tbok 3 [(6, .bool false), (7, .int .i64 y_3), (9, .int .i64 y_5), (10, .int .i64 y_6), (109, .bool (y_3 == y_10))] rfl ⟨rfl, rfl, rfl, rfl, rfl, trivial⟩ ?_
                    refine WO_split (d := 109) (b := y_3 == y_10) rfl (fun hb21 => ?_) (fun hb21 => ?_)
                    · have hm := ifT hb21 hm
                      refine WO_pure tbok 3 [(6, .bool false), (7, .int .i64 y_3), (9, .int .i64 y_5), (109, .bool true), (112, .bool (y_6 != 0))] rfl ⟨rfl, rfl, rfl, rfl, rfl, trivial⟩ ?_
                      refine WO_split (d := 112) (b := y_6 != 0) rfl (fun hb22 => ?_) (fun hb22 => ?_)
                      · have hm := ifT hb22 hm
                        refine WO_pure tbok 7 [(6, .bool true)] rfl ⟨rfl, trivial⟩ ?_
                        refine WO_end ?_
                        cases hm
                        exact WK_ret (ret_out (L := []) (RLc_tmp rfl RLc_nil) (List.nil_sublist _) rfl)
                      · have hm := ifF hb22 hm
                        refine WO_pure tbok 7 [(6, .bool (decide (y_5 ≤ (w64 (2 * y_3)))))] rfl ⟨rfl, trivial⟩ ?_
                        refine WO_end ?_
                        cases hm
                        exact WK_ret (ret_out (L := []) (RLc_tmp rfl RLc_nil) (List.nil_sublist _) rfl)
                    · have hm := ifF hb21 hm
                      refine WO_pure tbok 10 [(6, .bool false)] rfl ⟨rfl, trivial⟩ ?_
                      refine WO_end ?_
                      cases hm
                      exact WK_ret (ret_out (L := []) (RLc_tmp rfl RLc_nil) (List.nil_sublist _) rfl)
                  · have hm := ifF hb19 hm
                    refine WO_pure tbok 7 [(6, .bool false), (7, .int .i64 y_3), (9, .int .i64 y_5), (10, .int .i64 y_6), (98, .bool false)] rfl ⟨rfl, rfl, rfl, rfl, rfl, trivial⟩ ?_
                    refine WO_skip rfl rfl ?_
                    refine WO_pure tbok 13 [(6, .bool false)] rfl ⟨rfl, trivial⟩ ?_
                    refine WO_end ?_
                    cases hm
                    exact WK_ret (ret_out (L := []) (RLc_tmp rfl RLc_nil) (List.nil_sublist _) rfl)
            · refine WK_region ?_
              refine WO_pure tbok 3 [(2, .slice a_p2 p2.length c_p2), (3, .pointer (some ⟨b1, 0, none⟩)), (4, .pointer (some ⟨b2, 0, none⟩)), (6, .bool false), (7, .int .i64 y_3), (8, .int .i64 y_4), (9, .int .i64 y_5), (10, .int .i64 y_6), (11, .int .i64 y_7), (55, .bool (y_6 != 2))] rfl ⟨rfl, rfl, rfl, rfl, rfl, rfl, rfl, rfl, rfl, rfl, trivial⟩ ?_
              refine WO_split (d := 55) (b := y_6 != 2) rfl (fun hb23 => ?_) (fun hb23 => ?_)
              · have hx13 := ifT hb23 hx13
                refine WO_pure tbok 3 [(2, .slice a_p2 p2.length c_p2), (3, .pointer (some ⟨b1, 0, none⟩)), (4, .pointer (some ⟨b2, 0, none⟩)), (6, .bool false), (7, .int .i64 y_3), (8, .int .i64 y_4), (9, .int .i64 y_5), (10, .int .i64 y_6), (11, .int .i64 y_7), (58, .bool true)] rfl ⟨rfl, rfl, rfl, rfl, rfl, rfl, rfl, rfl, rfl, rfl, trivial⟩ ?_
                refine WO_end ?_
                cases hx13
                refine WK.sub ?_ (WK.cls (fun _ h => h) hk14)
                exact ⟨rfl, rfl, rfl, rfl, rfl, rfl, rfl, rfl, rfl, rfl, trivial⟩
              · have hx13 := ifF hb23 hx13
                refine WO_pure tbok 3 [(2, .slice a_p2 p2.length c_p2), (3, .pointer (some ⟨b1, 0, none⟩)), (4, .pointer (some ⟨b2, 0, none⟩)), (6, .bool false), (7, .int .i64 y_3), (8, .int .i64 y_4), (9, .int .i64 y_5), (10, .int .i64 y_6), (11, .int .i64 y_7), (58, .bool (y_5 != 0))] rfl ⟨rfl, rfl, rfl, rfl, rfl, rfl, rfl, rfl, rfl, rfl, trivial⟩ ?_
                refine WO_end ?_
                cases hx13
                refine WK.sub ?_ (WK.cls (fun _ h => h) hk14)
                exact ⟨rfl, rfl, rfl, rfl, rfl, rfl, rfl, rfl, rfl, rfl, trivial⟩
          · have hm := ifF hb12 hm
            refine WK_seq ?_
            obtain ⟨s_11, hx24, hm⟩ := bind_some hm
            refine WK_meet [(2, .slice a_p2 p2.length c_p2), (3, .pointer (some ⟨b1, 0, none⟩)), (4, .pointer (some ⟨b2, 0, none⟩)), (6, .bool false), (7, .int .i64 y_3), (8, .int .i64 y_4), (9, .int .i64 y_5), (10, .int .i64 y_6), (11, .int .i64 y_7), (70, .bool s_11)] (St w0 m m [[⟨b1, 50, [.int .i64 p0_0, .int .i64 p0_1, .int .i64 p0_2, .slice a_p0_3 p0_3.length c_p0_3]⟩], [⟨b2, 23, [.int .i64 p1_0, .int .i64 p1_1]⟩]]) ?_ (fun hk25 => ?_)
            · refine WK_cond (b := s_11) rfl (fun hb26 => ?_) (fun hb26 => ?_)
              · have hm := ifT hb26 hm
                refine WK_seq ?_
                refine WK_region ?_
                refine WO_pure tbok 1 [(2, .slice a_p2 p2.length c_p2), (3, .pointer (some ⟨b1, 0, none⟩)), (4, .pointer (some ⟨b2, 0, none⟩)), (6, .bool false), (7, .int .i64 y_3), (8, .int .i64 y_4), (9, .int .i64 y_5), (10, .int .i64 y_6), (11, .int .i64 y_7)] rfl ⟨rfl, rfl, rfl, rfl, rfl, rfl, rfl, rfl, rfl, trivial⟩ ?_
                refine WO_end ?_
                cases hm
                exact WK_ret (ret_out (L := []) (RLc_tmp rfl RLc_nil) (List.nil_sublist _) rfl)
              · have hm := ifF hb26 hm
                refine WK_skip ?_
                refine WK_region ?_
                refine WO_pure tbok 2 [(2, .slice a_p2 p2.length c_p2), (3, .pointer (some ⟨b1, 0, none⟩)), (4, .pointer (some ⟨b2, 0, none⟩)), (6, .bool false), (7, .int .i64 y_3), (8, .int .i64 y_4), (9, .int .i64 y_5), (10, .int .i64 y_6), (11, .int .i64 y_7), (71, .slice a_p2 p2.length c_p2), (72, .pointer (some ⟨b1, 0, none⟩))] rfl ⟨rfl, rfl, rfl, rfl, rfl, rfl, rfl, rfl, rfl, rfl, rfl, trivial⟩ ?_
                refine WO_loadB tbok 0 rfl rfl rfl rfl (fun _ h => h) rfl rfl ?_
                refine WO_pure tbok 1 [(2, .slice a_p2 p2.length c_p2), (3, .pointer (some ⟨b1, 0, none⟩)), (4, .pointer (some ⟨b2, 0, none⟩)), (6, .bool false), (7, .int .i64 y_3), (8, .int .i64 y_4), (9, .int .i64 y_5), (10, .int .i64 y_6), (11, .int .i64 y_7), (71, .slice a_p2 p2.length c_p2), (73, .int .i64 p0_0), (74, .pointer (some ⟨b1, 1, none⟩))] rfl ⟨rfl, rfl, rfl, rfl, rfl, rfl, rfl, rfl, rfl, rfl, rfl, rfl, trivial⟩ ?_
                refine WO_loadB tbok 0 rfl rfl rfl rfl (fun _ h => h) rfl rfl ?_
                refine WO_pure tbok 2 [(2, .slice a_p2 p2.length c_p2), (3, .pointer (some ⟨b1, 0, none⟩)), (4, .pointer (some ⟨b2, 0, none⟩)), (6, .bool false), (7, .int .i64 y_3), (8, .int .i64 y_4), (9, .int .i64 y_5), (10, .int .i64 y_6), (11, .int .i64 y_7), (71, .slice a_p2 p2.length c_p2), (76, .int .i64 (w64 (p0_0 * p0_1))), (77, .pointer (some ⟨b1, 2, none⟩))] rfl ⟨rfl, rfl, rfl, rfl, rfl, rfl, rfl, rfl, rfl, rfl, rfl, rfl, trivial⟩ ?_
                refine WO_loadB tbok 0 rfl rfl rfl rfl (fun _ h => h) rfl rfl ?_
                obtain ⟨y_12, hc27, hm⟩ := bind_some hm
                refine WO_call0 (.int .i64 y_12) rfl rfl trivial rfl rfl rfl rfl St_closed ⟨16, #[], #[], rfl, callable_16, fun w hw => ⟨_, hw.sat, fiduciallaw45_labelled_walk h_p2 hc27⟩⟩ ?_
                refine WO_pure tbok 1 [(2, .slice a_p2 p2.length c_p2), (3, .pointer (some ⟨b1, 0, none⟩)), (4, .pointer (some ⟨b2, 0, none⟩)), (6, .bool false), (7, .int .i64 y_3), (8, .int .i64 y_4), (9, .int .i64 y_5), (10, .int .i64 y_6), (11, .int .i64 y_12)] rfl ⟨rfl, rfl, rfl, rfl, rfl, rfl, rfl, rfl, rfl, trivial⟩ ?_
                refine WO_end ?_
                refine WK_seq ?_
                refine WK_seq ?_
                refine WK_region ?_
                refine WO_pure tbok 2 [(2, .slice a_p2 p2.length c_p2), (3, .pointer (some ⟨b1, 0, none⟩)), (4, .pointer (some ⟨b2, 0, none⟩)), (6, .bool false), (7, .int .i64 y_3), (8, .int .i64 y_4), (9, .int .i64 y_5), (10, .int .i64 y_6), (11, .int .i64 y_12), (88, .bool (y_12 != 0))] rfl ⟨rfl, rfl, rfl, rfl, rfl, rfl, rfl, rfl, rfl, rfl, trivial⟩ ?_
                refine WO_end ?_
                refine WK_cond (b := y_12 != 0) rfl (fun hb28 => ?_) (fun hb28 => ?_)
                · have hm := ifT hb28 hm
                  refine WK_seq ?_
                  refine WK_region ?_
                  refine WO_pure tbok 4 [(2, .slice a_p2 p2.length c_p2), (3, .pointer (some ⟨b1, 0, none⟩)), (4, .pointer (some ⟨b2, 0, none⟩)), (6, .bool false), (7, .int .i64 y_3), (8, .int .i64 y_4), (9, .int .i64 y_5), (10, .int .i64 y_6), (92, .bool (y_4 == y_12))] rfl ⟨rfl, rfl, rfl, rfl, rfl, rfl, rfl, rfl, rfl, trivial⟩ ?_
                  refine WO_split (d := 92) (b := y_4 == y_12) rfl (fun hb29 => ?_) (fun hb29 => ?_)
                  · have hm := ifT hb29 hm
                    refine WO_pure tbok 4 [(2, .slice a_p2 p2.length c_p2), (3, .pointer (some ⟨b1, 0, none⟩)), (4, .pointer (some ⟨b2, 0, none⟩)), (6, .bool (y_3 == 0)), (7, .int .i64 y_3), (8, .int .i64 y_4), (9, .int .i64 y_5), (10, .int .i64 y_6)] rfl ⟨rfl, rfl, rfl, rfl, rfl, rfl, rfl, rfl, trivial⟩ ?_
                    refine WO_end ?_
                    cases hm
                    exact WK_ret (ret_out (L := []) (RLc_tmp rfl RLc_nil) (List.nil_sublist _) rfl)
                  · have hm := ifF hb29 hm
                    refine WO_pure tbok 4 [(2, .slice a_p2 p2.length c_p2), (3, .pointer (some ⟨b1, 0, none⟩)), (4, .pointer (some ⟨b2, 0, none⟩)), (6, .bool false), (7, .int .i64 y_3), (8, .int .i64 y_4), (9, .int .i64 y_5), (10, .int .i64 y_6)] rfl ⟨rfl, rfl, rfl, rfl, rfl, rfl, rfl, rfl, trivial⟩ ?_
                    refine WO_end ?_
                    cases hm
                    exact WK_ret (ret_out (L := []) (RLc_tmp rfl RLc_nil) (List.nil_sublist _) rfl)
                · have hm := ifF hb28 hm
                  refine WK_skip ?_
                  refine WK_seq ?_
                  refine WK_region ?_
                  refine WO_pure tbok 3 [(2, .slice a_p2 p2.length c_p2), (3, .pointer (some ⟨b1, 0, none⟩)), (4, .pointer (some ⟨b2, 0, none⟩)), (6, .bool false), (7, .int .i64 y_3), (9, .int .i64 y_5), (10, .int .i64 y_6), (98, .bool (y_4 == 0))] rfl ⟨rfl, rfl, rfl, rfl, rfl, rfl, rfl, rfl, trivial⟩ ?_
                  refine WO_split (d := 98) (b := y_4 == 0) rfl (fun hb30 => ?_) (fun hb30 => ?_)
                  · have hm := ifT hb30 hm
                    refine WO_pure tbok 1 [(2, .slice a_p2 p2.length c_p2), (3, .pointer (some ⟨b1, 0, none⟩)), (4, .pointer (some ⟨b2, 0, none⟩)), (6, .bool false), (7, .int .i64 y_3), (9, .int .i64 y_5), (10, .int .i64 y_6), (98, .bool true), (99, .int .i64 y_3)] rfl ⟨rfl, rfl, rfl, rfl, rfl, rfl, rfl, rfl, rfl, trivial⟩ ?_
                    refine WO_loadB tbok 0 rfl rfl rfl rfl (fun _ h => h) rfl rfl ?_
                    refine WO_pure tbok 1 [(2, .slice a_p2 p2.length c_p2), (4, .pointer (some ⟨b2, 0, none⟩)), (6, .bool false), (7, .int .i64 y_3), (9, .int .i64 y_5), (10, .int .i64 y_6), (98, .bool true), (99, .int .i64 y_3), (100, .agg #[.int .i64 p0_0, .int .i64 p0_1, .int .i64 p0_2, .slice a_p0_3 p0_3.length c_p0_3]), (101, .pointer (some ⟨b2, 0, none⟩))] rfl ⟨rfl, rfl, rfl, rfl, rfl, rfl, rfl, rfl, rfl, rfl, trivial⟩ ?_
                    refine WO_loadB tbok 1 rfl rfl rfl rfl (fun _ h => h) rfl rfl ?_
                    refine WO_pure tbok 1 [(2, .slice a_p2 p2.length c_p2), (6, .bool false), (7, .int .i64 y_3), (9, .int .i64 y_5), (10, .int .i64 y_6), (98, .bool true), (99, .int .i64 y_3), (100, .agg #[.int .i64 p0_0, .int .i64 p0_1, .int .i64 p0_2, .slice a_p0_3 p0_3.length c_p0_3]), (102, .int .i64 p1_0), (103, .pointer (some ⟨b2, 1, none⟩))] rfl ⟨rfl, rfl, rfl, rfl, rfl, rfl, rfl, rfl, rfl, rfl, trivial⟩ ?_
                    refine WO_loadB tbok 1 rfl rfl rfl rfl (fun _ h => h) rfl rfl ?_
                    refine WO_pure tbok 1 [(6, .bool false), (7, .int .i64 y_3), (9, .int .i64 y_5), (10, .int .i64 y_6), (98, .bool true), (99, .int .i64 y_3), (100, .agg #[.int .i64 p0_0, .int .i64 p0_1, .int .i64 p0_2, .slice a_p0_3 p0_3.length c_p0_3]), (102, .int .i64 p1_0), (104, .int .i64 p1_1), (105, .slice a_p2 p2.length c_p2)] rfl ⟨rfl, rfl, rfl, rfl, rfl, rfl, rfl, rfl, rfl, rfl, trivial⟩ ?_
                    obtain ⟨y_13, hc31, hm⟩ := bind_some hm
                    refine WO_call0 (.int .i64 y_13) rfl rfl trivial rfl rfl rfl rfl St_closed ⟨28, #[], #[], rfl, callable_28, fun w hw => ⟨_, hw.sat, fiduciallaw45_grid_walk h_p0_3 h_p2 hc31⟩⟩ ?_
                    refine WO_pure tbok 3 [(6, .bool false), (7, .int .i64 y_3), (9, .int .i64 y_5), (10, .int .i64 y_6), (109, .bool (y_3 == y_13))] rfl ⟨rfl, rfl, rfl, rfl, rfl, trivial⟩ ?_
                    refine WO_split (d := 109) (b := y_3 == y_13) rfl (fun hb32 => ?_) (fun hb32 => ?_)
                    · have hm := ifT hb32 hm
                      refine WO_pure tbok 3 [(6, .bool false), (7, .int .i64 y_3), (9, .int .i64 y_5), (109, .bool true), (112, .bool (y_6 != 0))] rfl ⟨rfl, rfl, rfl, rfl, rfl, trivial⟩ ?_
                      refine WO_split (d := 112) (b := y_6 != 0) rfl (fun hb33 => ?_) (fun hb33 => ?_)
                      · have hm := ifT hb33 hm
                        refine WO_pure tbok 7 [(6, .bool true)] rfl ⟨rfl, trivial⟩ ?_
                        refine WO_end ?_
                        cases hm
                        exact WK_ret (ret_out (L := []) (RLc_tmp rfl RLc_nil) (List.nil_sublist _) rfl)
                      · have hm := ifF hb33 hm
                        refine WO_pure tbok 7 [(6, .bool (decide (y_5 ≤ (w64 (2 * y_3)))))] rfl ⟨rfl, trivial⟩ ?_
                        refine WO_end ?_
                        cases hm
                        exact WK_ret (ret_out (L := []) (RLc_tmp rfl RLc_nil) (List.nil_sublist _) rfl)
                    · have hm := ifF hb32 hm
                      refine WO_pure tbok 10 [(6, .bool false)] rfl ⟨rfl, trivial⟩ ?_
                      refine WO_end ?_
                      cases hm
                      exact WK_ret (ret_out (L := []) (RLc_tmp rfl RLc_nil) (List.nil_sublist _) rfl)
                  · have hm := ifF hb30 hm
                    refine WO_pure tbok 7 [(6, .bool false), (7, .int .i64 y_3), (9, .int .i64 y_5), (10, .int .i64 y_6), (98, .bool false)] rfl ⟨rfl, rfl, rfl, rfl, rfl, trivial⟩ ?_
                    refine WO_skip rfl rfl ?_
                    refine WO_pure tbok 13 [(6, .bool false)] rfl ⟨rfl, trivial⟩ ?_
                    refine WO_end ?_
                    cases hm
                    exact WK_ret (ret_out (L := []) (RLc_tmp rfl RLc_nil) (List.nil_sublist _) rfl)
            · refine WK_region ?_
              refine WO_pure tbok 3 [(2, .slice a_p2 p2.length c_p2), (3, .pointer (some ⟨b1, 0, none⟩)), (4, .pointer (some ⟨b2, 0, none⟩)), (6, .bool false), (7, .int .i64 y_3), (8, .int .i64 y_4), (9, .int .i64 y_5), (10, .int .i64 y_6), (11, .int .i64 y_7), (61, .bool (y_6 != 0))] rfl ⟨rfl, rfl, rfl, rfl, rfl, rfl, rfl, rfl, rfl, rfl, trivial⟩ ?_
              refine WO_split (d := 61) (b := y_6 != 0) rfl (fun hb34 => ?_) (fun hb34 => ?_)
              · have hx24 := ifT hb34 hx24
                refine WO_pure tbok 6 [(2, .slice a_p2 p2.length c_p2), (3, .pointer (some ⟨b1, 0, none⟩)), (4, .pointer (some ⟨b2, 0, none⟩)), (6, .bool false), (7, .int .i64 y_3), (8, .int .i64 y_4), (9, .int .i64 y_5), (10, .int .i64 y_6), (11, .int .i64 y_7), (61, .bool true)] rfl ⟨rfl, rfl, rfl, rfl, rfl, rfl, rfl, rfl, rfl, rfl, trivial⟩ ?_
                refine WO_skip rfl rfl ?_
                refine WO_pure tbok 2 [(2, .slice a_p2 p2.length c_p2), (3, .pointer (some ⟨b1, 0, none⟩)), (4, .pointer (some ⟨b2, 0, none⟩)), (6, .bool false), (7, .int .i64 y_3), (8, .int .i64 y_4), (9, .int .i64 y_5), (10, .int .i64 y_6), (11, .int .i64 y_7), (70, .bool true)] rfl ⟨rfl, rfl, rfl, rfl, rfl, rfl, rfl, rfl, rfl, rfl, trivial⟩ ?_
                refine WO_end ?_
                cases hx24
                refine WK.sub ?_ (WK.cls (fun _ h => h) hk25)
                exact ⟨rfl, rfl, rfl, rfl, rfl, rfl, rfl, rfl, rfl, rfl, trivial⟩
              · have hx24 := ifF hb34 hx24
                refine WO_pure tbok 1 [(2, .slice a_p2 p2.length c_p2), (3, .pointer (some ⟨b1, 0, none⟩)), (4, .pointer (some ⟨b2, 0, none⟩)), (6, .bool false), (7, .int .i64 y_3), (8, .int .i64 y_4), (9, .int .i64 y_5), (10, .int .i64 y_6), (11, .int .i64 y_7), (61, .bool false), (62, .int .i64 y_5)] rfl ⟨rfl, rfl, rfl, rfl, rfl, rfl, rfl, rfl, rfl, rfl, rfl, trivial⟩ ?_
                refine WO_loadB tbok 0 rfl rfl rfl rfl (fun _ h => h) rfl rfl ?_
                refine WO_pure tbok 1 [(2, .slice a_p2 p2.length c_p2), (3, .pointer (some ⟨b1, 0, none⟩)), (4, .pointer (some ⟨b2, 0, none⟩)), (6, .bool false), (7, .int .i64 y_3), (8, .int .i64 y_4), (9, .int .i64 y_5), (10, .int .i64 y_6), (11, .int .i64 y_7), (61, .bool false), (62, .int .i64 y_5), (63, .agg #[.int .i64 p0_0, .int .i64 p0_1, .int .i64 p0_2, .slice a_p0_3 p0_3.length c_p0_3]), (64, .pointer (some ⟨b2, 0, none⟩))] rfl ⟨rfl, rfl, rfl, rfl, rfl, rfl, rfl, rfl, rfl, rfl, rfl, rfl, rfl, trivial⟩ ?_
                refine WO_loadB tbok 1 rfl rfl rfl rfl (fun _ h => h) rfl rfl ?_
                refine WO_pure tbok 1 [(2, .slice a_p2 p2.length c_p2), (3, .pointer (some ⟨b1, 0, none⟩)), (4, .pointer (some ⟨b2, 0, none⟩)), (6, .bool false), (7, .int .i64 y_3), (8, .int .i64 y_4), (9, .int .i64 y_5), (10, .int .i64 y_6), (11, .int .i64 y_7), (61, .bool false), (62, .int .i64 y_5), (63, .agg #[.int .i64 p0_0, .int .i64 p0_1, .int .i64 p0_2, .slice a_p0_3 p0_3.length c_p0_3]), (65, .int .i64 p1_0), (66, .pointer (some ⟨b2, 1, none⟩))] rfl ⟨rfl, rfl, rfl, rfl, rfl, rfl, rfl, rfl, rfl, rfl, rfl, rfl, rfl, rfl, trivial⟩ ?_
                refine WO_loadB tbok 1 rfl rfl rfl rfl (fun _ h => h) rfl rfl ?_
                obtain ⟨y_14, hc35, hx24⟩ := bind_some hx24
                refine WO_call0 (.int .i64 y_14) rfl rfl trivial rfl rfl rfl rfl St_closed ⟨27, #[], #[], rfl, callable_27, fun w hw => ⟨_, hw.sat, fiduciallaw45_bound_walk h_p0_3 hc35⟩⟩ ?_
                refine WO_pure tbok 2 [(2, .slice a_p2 p2.length c_p2), (3, .pointer (some ⟨b1, 0, none⟩)), (4, .pointer (some ⟨b2, 0, none⟩)), (6, .bool false), (7, .int .i64 y_3), (8, .int .i64 y_4), (9, .int .i64 y_5), (10, .int .i64 y_6), (11, .int .i64 y_7), (70, .bool (y_5 != y_14))] rfl ⟨rfl, rfl, rfl, rfl, rfl, rfl, rfl, rfl, rfl, rfl, trivial⟩ ?_
                refine WO_end ?_
                cases hx24
                refine WK.sub ?_ (WK.cls (fun _ h => h) hk25)
                exact ⟨rfl, rfl, rfl, rfl, rfl, rfl, rfl, rfl, rfl, rfl, trivial⟩
        · have hm := ifF hb11 hm
          refine WK_seq ?_
          obtain ⟨s_15, hx36, hm⟩ := bind_some hm
          refine WK_meet [(2, .slice a_p2 p2.length c_p2), (3, .pointer (some ⟨b1, 0, none⟩)), (4, .pointer (some ⟨b2, 0, none⟩)), (6, .bool false), (7, .int .i64 y_3), (8, .int .i64 y_4), (9, .int .i64 y_5), (10, .int .i64 y_6), (11, .int .i64 y_7), (86, .bool s_15)] (St w0 m m [[⟨b1, 50, [.int .i64 p0_0, .int .i64 p0_1, .int .i64 p0_2, .slice a_p0_3 p0_3.length c_p0_3]⟩], [⟨b2, 23, [.int .i64 p1_0, .int .i64 p1_1]⟩]]) ?_ (fun hk37 => ?_)
          · refine WK_cond (b := s_15) rfl (fun hb38 => ?_) (fun hb38 => ?_)
            · have hm := ifT hb38 hm
              refine WK_seq ?_
              refine WK_region ?_
              refine WO_pure tbok 1 [(2, .slice a_p2 p2.length c_p2), (3, .pointer (some ⟨b1, 0, none⟩)), (4, .pointer (some ⟨b2, 0, none⟩)), (6, .bool false), (7, .int .i64 y_3), (8, .int .i64 y_4), (9, .int .i64 y_5), (10, .int .i64 y_6), (11, .int .i64 y_7)] rfl ⟨rfl, rfl, rfl, rfl, rfl, rfl, rfl, rfl, rfl, trivial⟩ ?_
              refine WO_end ?_
              cases hm
              exact WK_ret (ret_out (L := []) (RLc_tmp rfl RLc_nil) (List.nil_sublist _) rfl)
            · have hm := ifF hb38 hm
              refine WK_skip ?_
              refine WK_seq ?_
              refine WK_seq ?_
              refine WK_region ?_
              refine WO_pure tbok 2 [(2, .slice a_p2 p2.length c_p2), (3, .pointer (some ⟨b1, 0, none⟩)), (4, .pointer (some ⟨b2, 0, none⟩)), (6, .bool false), (7, .int .i64 y_3), (8, .int .i64 y_4), (9, .int .i64 y_5), (10, .int .i64 y_6), (11, .int .i64 y_7), (88, .bool (y_7 != 0))] rfl ⟨rfl, rfl, rfl, rfl, rfl, rfl, rfl, rfl, rfl, rfl, trivial⟩ ?_
              refine WO_end ?_
              refine WK_cond (b := y_7 != 0) rfl (fun hb39 => ?_) (fun hb39 => ?_)
              · have hm := ifT hb39 hm
                refine WK_seq ?_
                refine WK_region ?_
                refine WO_pure tbok 4 [(2, .slice a_p2 p2.length c_p2), (3, .pointer (some ⟨b1, 0, none⟩)), (4, .pointer (some ⟨b2, 0, none⟩)), (6, .bool false), (7, .int .i64 y_3), (8, .int .i64 y_4), (9, .int .i64 y_5), (10, .int .i64 y_6), (92, .bool (y_4 == y_7))] rfl ⟨rfl, rfl, rfl, rfl, rfl, rfl, rfl, rfl, rfl, trivial⟩ ?_
                refine WO_split (d := 92) (b := y_4 == y_7) rfl (fun hb40 => ?_) (fun hb40 => ?_)
                · have hm := ifT hb40 hm
                  refine WO_pure tbok 4 [(2, .slice a_p2 p2.length c_p2), (3, .pointer (some ⟨b1, 0, none⟩)), (4, .pointer (some ⟨b2, 0, none⟩)), (6, .bool (y_3 == 0)), (7, .int .i64 y_3), (8, .int .i64 y_4), (9, .int .i64 y_5), (10, .int .i64 y_6)] rfl ⟨rfl, rfl, rfl, rfl, rfl, rfl, rfl, rfl, trivial⟩ ?_
                  refine WO_end ?_
                  cases hm
                  exact WK_ret (ret_out (L := []) (RLc_tmp rfl RLc_nil) (List.nil_sublist _) rfl)
                · have hm := ifF hb40 hm
                  refine WO_pure tbok 4 [(2, .slice a_p2 p2.length c_p2), (3, .pointer (some ⟨b1, 0, none⟩)), (4, .pointer (some ⟨b2, 0, none⟩)), (6, .bool false), (7, .int .i64 y_3), (8, .int .i64 y_4), (9, .int .i64 y_5), (10, .int .i64 y_6)] rfl ⟨rfl, rfl, rfl, rfl, rfl, rfl, rfl, rfl, trivial⟩ ?_
                  refine WO_end ?_
                  cases hm
                  exact WK_ret (ret_out (L := []) (RLc_tmp rfl RLc_nil) (List.nil_sublist _) rfl)
              · have hm := ifF hb39 hm
                refine WK_skip ?_
                refine WK_seq ?_
                refine WK_region ?_
                refine WO_pure tbok 3 [(2, .slice a_p2 p2.length c_p2), (3, .pointer (some ⟨b1, 0, none⟩)), (4, .pointer (some ⟨b2, 0, none⟩)), (6, .bool false), (7, .int .i64 y_3), (9, .int .i64 y_5), (10, .int .i64 y_6), (98, .bool (y_4 == 0))] rfl ⟨rfl, rfl, rfl, rfl, rfl, rfl, rfl, rfl, trivial⟩ ?_
                refine WO_split (d := 98) (b := y_4 == 0) rfl (fun hb41 => ?_) (fun hb41 => ?_)
                · have hm := ifT hb41 hm
                  refine WO_pure tbok 1 [(2, .slice a_p2 p2.length c_p2), (3, .pointer (some ⟨b1, 0, none⟩)), (4, .pointer (some ⟨b2, 0, none⟩)), (6, .bool false), (7, .int .i64 y_3), (9, .int .i64 y_5), (10, .int .i64 y_6), (98, .bool true), (99, .int .i64 y_3)] rfl ⟨rfl, rfl, rfl, rfl, rfl, rfl, rfl, rfl, rfl, trivial⟩ ?_
                  refine WO_loadB tbok 0 rfl rfl rfl rfl (fun _ h => h) rfl rfl ?_
                  refine WO_pure tbok 1 [(2, .slice a_p2 p2.length c_p2), (4, .pointer (some ⟨b2, 0, none⟩)), (6, .bool false), (7, .int .i64 y_3), (9, .int .i64 y_5), (10, .int .i64 y_6), (98, .bool true), (99, .int .i64 y_3), (100, .agg #[.int .i64 p0_0, .int .i64 p0_1, .int .i64 p0_2, .slice a_p0_3 p0_3.length c_p0_3]), (101, .pointer (some ⟨b2, 0, none⟩))] rfl ⟨rfl, rfl, rfl, rfl, rfl, rfl, rfl, rfl, rfl, rfl, trivial⟩ ?_
                  refine WO_loadB tbok 1 rfl rfl rfl rfl (fun _ h => h) rfl rfl ?_
                  refine WO_pure tbok 1 [(2, .slice a_p2 p2.length c_p2), (6, .bool false), (7, .int .i64 y_3), (9, .int .i64 y_5), (10, .int .i64 y_6), (98, .bool true), (99, .int .i64 y_3), (100, .agg #[.int .i64 p0_0, .int .i64 p0_1, .int .i64 p0_2, .slice a_p0_3 p0_3.length c_p0_3]), (102, .int .i64 p1_0), (103, .pointer (some ⟨b2, 1, none⟩))] rfl ⟨rfl, rfl, rfl, rfl, rfl, rfl, rfl, rfl, rfl, rfl, trivial⟩ ?_
                  refine WO_loadB tbok 1 rfl rfl rfl rfl (fun _ h => h) rfl rfl ?_
                  refine WO_pure tbok 1 [(6, .bool false), (7, .int .i64 y_3), (9, .int .i64 y_5), (10, .int .i64 y_6), (98, .bool true), (99, .int .i64 y_3), (100, .agg #[.int .i64 p0_0, .int .i64 p0_1, .int .i64 p0_2, .slice a_p0_3 p0_3.length c_p0_3]), (102, .int .i64 p1_0), (104, .int .i64 p1_1), (105, .slice a_p2 p2.length c_p2)] rfl ⟨rfl, rfl, rfl, rfl, rfl, rfl, rfl, rfl, rfl, rfl, trivial⟩ ?_
                  obtain ⟨y_16, hc42, hm⟩ := bind_some hm
                  refine WO_call0 (.int .i64 y_16) rfl rfl trivial rfl rfl rfl rfl St_closed ⟨28, #[], #[], rfl, callable_28, fun w hw => ⟨_, hw.sat, fiduciallaw45_grid_walk h_p0_3 h_p2 hc42⟩⟩ ?_
                  refine WO_pure tbok 3 [(6, .bool false), (7, .int .i64 y_3), (9, .int .i64 y_5), (10, .int .i64 y_6), (109, .bool (y_3 == y_16))] rfl ⟨rfl, rfl, rfl, rfl, rfl, trivial⟩ ?_
                  refine WO_split (d := 109) (b := y_3 == y_16) rfl (fun hb43 => ?_) (fun hb43 => ?_)
                  · have hm := ifT hb43 hm
                    refine WO_pure tbok 3 [(6, .bool false), (7, .int .i64 y_3), (9, .int .i64 y_5), (109, .bool true), (112, .bool (y_6 != 0))] rfl ⟨rfl, rfl, rfl, rfl, rfl, trivial⟩ ?_
                    refine WO_split (d := 112) (b := y_6 != 0) rfl (fun hb44 => ?_) (fun hb44 => ?_)
                    · have hm := ifT hb44 hm
                      refine WO_pure tbok 7 [(6, .bool true)] rfl ⟨rfl, trivial⟩ ?_
                      refine WO_end ?_
                      cases hm
                      exact WK_ret (ret_out (L := []) (RLc_tmp rfl RLc_nil) (List.nil_sublist _) rfl)
                    · have hm := ifF hb44 hm
                      refine WO_pure tbok 7 [(6, .bool (decide (y_5 ≤ (w64 (2 * y_3)))))] rfl ⟨rfl, trivial⟩ ?_
                      refine WO_end ?_
                      cases hm
                      exact WK_ret (ret_out (L := []) (RLc_tmp rfl RLc_nil) (List.nil_sublist _) rfl)
                  · have hm := ifF hb43 hm
                    refine WO_pure tbok 10 [(6, .bool false)] rfl ⟨rfl, trivial⟩ ?_
                    refine WO_end ?_
                    cases hm
                    exact WK_ret (ret_out (L := []) (RLc_tmp rfl RLc_nil) (List.nil_sublist _) rfl)
                · have hm := ifF hb41 hm
                  refine WO_pure tbok 7 [(6, .bool false), (7, .int .i64 y_3), (9, .int .i64 y_5), (10, .int .i64 y_6), (98, .bool false)] rfl ⟨rfl, rfl, rfl, rfl, rfl, trivial⟩ ?_
                  refine WO_skip rfl rfl ?_
                  refine WO_pure tbok 13 [(6, .bool false)] rfl ⟨rfl, trivial⟩ ?_
                  refine WO_end ?_
                  cases hm
                  exact WK_ret (ret_out (L := []) (RLc_tmp rfl RLc_nil) (List.nil_sublist _) rfl)
          · refine WK_region ?_
            refine WO_pure tbok 4 [(2, .slice a_p2 p2.length c_p2), (3, .pointer (some ⟨b1, 0, none⟩)), (4, .pointer (some ⟨b2, 0, none⟩)), (6, .bool false), (7, .int .i64 y_3), (8, .int .i64 y_4), (9, .int .i64 y_5), (10, .int .i64 y_6), (11, .int .i64 y_7), (83, .bool (y_6 != y_7))] rfl ⟨rfl, rfl, rfl, rfl, rfl, rfl, rfl, rfl, rfl, rfl, trivial⟩ ?_
            refine WO_split (d := 83) (b := y_6 != y_7) rfl (fun hb45 => ?_) (fun hb45 => ?_)
            · have hx36 := ifT hb45 hx36
              refine WO_pure tbok 3 [(2, .slice a_p2 p2.length c_p2), (3, .pointer (some ⟨b1, 0, none⟩)), (4, .pointer (some ⟨b2, 0, none⟩)), (6, .bool false), (7, .int .i64 y_3), (8, .int .i64 y_4), (9, .int .i64 y_5), (10, .int .i64 y_6), (11, .int .i64 y_7), (86, .bool true)] rfl ⟨rfl, rfl, rfl, rfl, rfl, rfl, rfl, rfl, rfl, rfl, trivial⟩ ?_
              refine WO_end ?_
              cases hx36
              refine WK.sub ?_ (WK.cls (fun _ h => h) hk37)
              exact ⟨rfl, rfl, rfl, rfl, rfl, rfl, rfl, rfl, rfl, rfl, trivial⟩
            · have hx36 := ifF hb45 hx36
              refine WO_pure tbok 3 [(2, .slice a_p2 p2.length c_p2), (3, .pointer (some ⟨b1, 0, none⟩)), (4, .pointer (some ⟨b2, 0, none⟩)), (6, .bool false), (7, .int .i64 y_3), (8, .int .i64 y_4), (9, .int .i64 y_5), (10, .int .i64 y_6), (11, .int .i64 y_7), (86, .bool (y_5 != 0))] rfl ⟨rfl, rfl, rfl, rfl, rfl, rfl, rfl, rfl, rfl, rfl, trivial⟩ ?_
              refine WO_end ?_
              cases hx36
              refine WK.sub ?_ (WK.cls (fun _ h => h) hk37)
              exact ⟨rfl, rfl, rfl, rfl, rfl, rfl, rfl, rfl, rfl, rfl, trivial⟩
    · refine WK_region ?_
      refine WO_loadB tbok 0 rfl rfl rfl rfl (fun _ h => h) rfl rfl ?_
      obtain ⟨y_17, hc46, hx5⟩ := bind_some hx5
      refine WO_call0 (.bool y_17) rfl rfl trivial rfl rfl rfl rfl St_closed ⟨23, #[], #[], rfl, callable_23, fun w hw => ⟨_, hw.sat, fiduciallaw45_small_walk h_p0_3 hc46⟩⟩ ?_
      refine WO_pure tbok 2 [(2, .slice a_p2 p2.length c_p2), (3, .pointer (some ⟨b1, 0, none⟩)), (4, .pointer (some ⟨b2, 0, none⟩)), (6, .bool false), (17, .bool (!y_17))] rfl ⟨rfl, rfl, rfl, rfl, rfl, trivial⟩ ?_
      refine WO_split (d := 17) (b := !y_17) rfl (fun hb47 => ?_) (fun hb47 => ?_)
      · have hx5 := ifT hb47 hx5
        refine WO_pure tbok 4 [(2, .slice a_p2 p2.length c_p2), (3, .pointer (some ⟨b1, 0, none⟩)), (4, .pointer (some ⟨b2, 0, none⟩)), (6, .bool false), (21, .bool true)] rfl ⟨rfl, rfl, rfl, rfl, rfl, trivial⟩ ?_
        refine WO_end ?_
        cases hx5
        refine WK.sub ?_ (WK.cls (fun _ h => h) hk6)
        exact ⟨rfl, rfl, rfl, rfl, rfl, trivial⟩
      · have hx5 := ifF hb47 hx5
        refine WO_pure tbok 4 [(2, .slice a_p2 p2.length c_p2), (3, .pointer (some ⟨b1, 0, none⟩)), (4, .pointer (some ⟨b2, 0, none⟩)), (6, .bool false), (21, .bool (decide (700 < (p2.length : Int))))] rfl ⟨rfl, rfl, rfl, rfl, rfl, trivial⟩ ?_
        refine WO_end ?_
        cases hx5
        refine WK.sub ?_ (WK.cls (fun _ h => h) hk6)
        exact ⟨rfl, rfl, rfl, rfl, rfl, trivial⟩
end Go.Proofs.Ytgakaghdiodakaa
