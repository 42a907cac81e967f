import Derived.Test.YtdgmeplpkehdnaaTab
import Derived.Test.YtdgmeplpkehdnaaM
import Derived.Test.YtdgmeplpkehdnaaW5
set_option linter.unusedVariables false
set_option maxRecDepth 100000
set_option maxHeartbeats 4000000
namespace Go.Proofs.Ytdgmeplpkehdnaa
open Go.E Go.RowKit
attribute [local irreducible] Go.E.WO Go.E.WK
theorem fiduciallaw21_DescriptorQuarters_walk {m : Mu} {p0_0 : Int} {p0_1 : Int} {p0_2 : Int} {p0_3 : List Int} {p1_0 : Int} {p1_1 : Int} {p2 : Int} {a_p0_3 : Option Addr} {q_p0_3 c_p0_3 : Nat} (h_p0_3 : SlR (FE (I1 .i64)) 1 m (.slice a_p0_3 q_p0_3 c_p0_3) p0_3) {r : Bool} (hm : fiduciallaw21_DescriptorQuarters p0_0 p0_1 p0_2 p0_3 p1_0 p1_1 p2 = some r) :
    Go.E.Spec Try.prog 9 [.agg #[.int .i64 p0_0, .int .i64 p0_1, .int .i64 p0_2, .slice a_p0_3 q_p0_3 c_p0_3], .agg #[.int .i64 p1_0, .int .i64 p1_1], .int .i64 p2] m (fun v _ _ => v = .bool r) := by
  refine Spec_enter Try.func9 rfl rfl rfl (fun w0 => ?_)
  refine WK.sub (e' := [(0, .agg #[.int .i64 p0_0, .int .i64 p0_1, .int .i64 p0_2, .slice a_p0_3 q_p0_3 c_p0_3]), (1, .agg #[.int .i64 p1_0, .int .i64 p1_1]), (2, .int .i64 p2)]) ⟨rfl, rfl, rfl, trivial⟩ ?_
  obtain rfl := SlR.qlen h_p0_3
  refine WK.sub (e' := [(0, .agg #[.int .i64 p0_0, .int .i64 p0_1, .int .i64 p0_2, .slice a_p0_3 p0_3.length c_p0_3]), (1, .agg #[.int .i64 p1_0, .int .i64 p1_1]), (2, .int .i64 p2)]) ⟨rfl, rfl, rfl, trivial⟩ ?_
  unfold fiduciallaw21_DescriptorQuarters at hm
  refine WK_seq ?_
  refine WK_region ?_
  refine WO_box [.int .i64 p0_0, .int .i64 p0_1, .int .i64 p0_2, .slice a_p0_3 p0_3.length c_p0_3] rfl rfl trivial rfl rfl rfl (fun b2 => ?_)
  refine WO.cls (C' := St w0 m m [[⟨b2, 29, [.int .i64 p0_0, .int .i64 p0_1, .int .i64 p0_2, .slice a_p0_3 p0_3.length c_p0_3]⟩]]) (fun _ h => h) ?_
  refine WO_box [.int .i64 p1_0, .int .i64 p1_1] rfl rfl trivial rfl rfl rfl (fun b3 => ?_)
  refine WO.cls (C' := St w0 m m [[⟨b2, 29, [.int .i64 p0_0, .int .i64 p0_1, .int .i64 p0_2, .slice a_p0_3 p0_3.length c_p0_3]⟩], [⟨b3, 31, [.int .i64 p1_0, .int .i64 p1_1]⟩]]) (fun _ h => h) ?_
  refine WO_pure tbok 1 [(2, .int .i64 p2), (3, .pointer (some ⟨b2, 0, none⟩)), (4, .pointer (some ⟨b3, 0, none⟩)), (6, .bool false)] rfl ⟨rfl, rfl, rfl, rfl, trivial⟩ ?_
  refine WO_end ?_
  refine WK_seq ?_
  refine WK_seq ?_
  refine WK_region ?_
  obtain ⟨y_1, hc4, hm⟩ := bind_some hm
  refine WO_call0 (.bool y_1) rfl rfl trivial rfl rfl rfl rfl St_closed ⟨11, #[], #[], rfl, callable_11, fun w hw => ⟨_, hw.sat, fiduciallaw21_known_walk hc4⟩⟩ ?_
  refine WO_pure tbok 1 [(2, .int .i64 p2), (3, .pointer (some ⟨b2, 0, none⟩)), (4, .pointer (some ⟨b3, 0, none⟩)), (6, .bool false), (14, .bool (!y_1))] rfl ⟨rfl, rfl, rfl, rfl, rfl, trivial⟩ ?_
  refine WO_end ?_
  refine WK_cond (b := !y_1) rfl (fun hb5 => ?_) (fun hb5 => ?_)
  · have hm := ifT hb5 hm
    refine WK_seq ?_
    refine WK_region ?_
    refine WO_pure tbok 1 [(2, .int .i64 p2), (3, .pointer (some ⟨b2, 0, none⟩)), (4, .pointer (some ⟨b3, 0, none⟩)), (6, .bool false)] rfl ⟨rfl, rfl, rfl, rfl, trivial⟩ ?_
    refine WO_end ?_
    cases hm
    exact WK_ret (ret_out (L := []) (RLc_tmp rfl RLc_nil) (List.nil_sublist _) rfl)
  · have hm := ifF hb5 hm
    refine WK_skip ?_
    refine WK_seq ?_
    refine WK_seq ?_
    refine WK_region ?_
    refine WO_loadB tbok 0 rfl rfl rfl rfl (fun _ h => h) rfl rfl ?_
    obtain ⟨y_2, hc6, hm⟩ := bind_some hm
    refine WO_call0 (.bool y_2) rfl rfl trivial rfl rfl rfl rfl St_closed ⟨14, #[], #[], rfl, callable_14, fun w hw => ⟨_, hw.sat, fiduciallaw21_few_walk h_p0_3 SlR_nil hc6⟩⟩ ?_
    refine WO_pure tbok 1 [(2, .int .i64 p2), (3, .pointer (some ⟨b2, 0, none⟩)), (4, .pointer (some ⟨b3, 0, none⟩)), (6, .bool false), (17, .bool (!y_2))] rfl ⟨rfl, rfl, rfl, rfl, rfl, trivial⟩ ?_
    refine WO_end ?_
    refine WK_cond (b := !y_2) rfl (fun hb7 => ?_) (fun hb7 => ?_)
    · have hm := ifT hb7 hm
      refine WK_seq ?_
      refine WK_region ?_
      refine WO_pure tbok 1 [(2, .int .i64 p2), (3, .pointer (some ⟨b2, 0, none⟩)), (4, .pointer (some ⟨b3, 0, none⟩)), (6, .bool true)] rfl ⟨rfl, rfl, rfl, rfl, trivial⟩ ?_
      refine WO_end ?_
      cases hm
      exact WK_ret (ret_out (L := []) (RLc_tmp rfl RLc_nil) (List.nil_sublist _) rfl)
    · have hm := ifF hb7 hm
      refine WK_skip ?_
      refine WK_seq ?_
      refine WK_region ?_
      refine WO_loadB tbok 0 rfl rfl rfl rfl (fun _ h => h) rfl rfl ?_
      refine WO_pure tbok 1 [(2, .int .i64 p2), (3, .pointer (some ⟨b2, 0, none⟩)), (4, .pointer (some ⟨b3, 0, none⟩)), (6, .bool false), (19, .agg #[.int .i64 p0_0, .int .i64 p0_1, .int .i64 p0_2, .slice a_p0_3 p0_3.length c_p0_3]), (20, .pointer (some ⟨b3, 0, none⟩))] rfl ⟨rfl, rfl, rfl, rfl, rfl, rfl, trivial⟩ ?_
      refine WO_loadB tbok 1 rfl rfl rfl rfl (fun _ h => h) rfl rfl ?_
      refine WO_pure tbok 1 [(2, .int .i64 p2), (3, .pointer (some ⟨b2, 0, none⟩)), (4, .pointer (some ⟨b3, 0, none⟩)), (6, .bool false), (19, .agg #[.int .i64 p0_0, .int .i64 p0_1, .int .i64 p0_2, .slice a_p0_3 p0_3.length c_p0_3]), (21, .int .i64 p1_0), (22, .pointer (some ⟨b3, 1, none⟩))] rfl ⟨rfl, rfl, rfl, rfl, rfl, rfl, rfl, trivial⟩ ?_
      refine WO_loadB tbok 1 rfl rfl rfl rfl (fun _ h => h) rfl rfl ?_
      refine WO_pure tbok 1 [(2, .int .i64 p2), (3, .pointer (some ⟨b2, 0, none⟩)), (4, .pointer (some ⟨b3, 0, none⟩)), (6, .bool false), (19, .agg #[.int .i64 p0_0, .int .i64 p0_1, .int .i64 p0_2, .slice a_p0_3 p0_3.length c_p0_3]), (21, .int .i64 p1_0), (23, .int .i64 p1_1), (24, .int .i64 p2)] rfl ⟨rfl, rfl, rfl, rfl, rfl, rfl, rfl, rfl, trivial⟩ ?_
      obtain ⟨⟨y_3, y_4⟩, hc8, hm⟩ := bind_some hm
      refine WO_call0 (.tuple #[.int .i64 y_3, .int .i64 y_4]) rfl rfl trivial rfl rfl rfl rfl St_closed ⟨33, #[], #[], rfl, callable_33, fun w hw => ⟨_, hw.sat, descriptor_Quarter_walk h_p0_3 hc8⟩⟩ ?_
      refine WO_pure tbok 5 [(2, .int .i64 p2), (3, .pointer (some ⟨b2, 0, none⟩)), (4, .pointer (some ⟨b3, 0, none⟩)), (6, .bool false), (7, .int .i64 y_3), (8, .int .i64 y_4)] rfl ⟨rfl, rfl, rfl, rfl, rfl, rfl, trivial⟩ ?_
      refine WO_end ?_
      refine WK_seq ?_
      refine WK_seq ?_
      refine WK_region ?_
      refine WO_loadB tbok 0 rfl rfl rfl rfl (fun _ h => h) rfl rfl ?_
      obtain ⟨y_5, hc9, hm⟩ := bind_some hm
      refine WO_call0 (.int .i64 y_5) rfl rfl trivial rfl rfl rfl rfl St_closed ⟨25, #[], #[], rfl, callable_25, fun w hw => ⟨_, hw.sat, fiducialref13_Check_walk h_p0_3 hc9⟩⟩ ?_
      refine WO_pure tbok 1 [(2, .int .i64 p2), (3, .pointer (some ⟨b2, 0, none⟩)), (4, .pointer (some ⟨b3, 0, none⟩)), (6, .bool false), (7, .int .i64 y_3), (8, .int .i64 y_4), (30, .bool (y_5 != 0))] rfl ⟨rfl, rfl, rfl, rfl, rfl, rfl, rfl, trivial⟩ ?_
      refine WO_end ?_
      refine WK_cond (b := y_5 != 0) rfl (fun hb10 => ?_) (fun hb10 => ?_)
      · have hm := ifT hb10 hm
        refine WK_seq ?_
        refine WK_region ?_
        refine WO_pure tbok 3 [(2, .int .i64 p2), (3, .pointer (some ⟨b2, 0, none⟩)), (4, .pointer (some ⟨b3, 0, none⟩)), (6, .bool false), (7, .int .i64 y_3), (8, .int .i64 y_4), (33, .bool (y_4 == 1))] rfl ⟨rfl, rfl, rfl, rfl, rfl, rfl, rfl, trivial⟩ ?_
        refine WO_split (d := 33) (b := y_4 == 1) rfl (fun hb11 => ?_) (fun hb11 => ?_)
        · have hm := ifT hb11 hm
          refine WO_pure tbok 4 [(2, .int .i64 p2), (3, .pointer (some ⟨b2, 0, none⟩)), (4, .pointer (some ⟨b3, 0, none⟩)), (6, .bool (y_3 == 0)), (7, .int .i64 y_3), (8, .int .i64 y_4)] rfl ⟨rfl, rfl, rfl, rfl, rfl, rfl, trivial⟩ ?_
          refine WO_end ?_
          cases hm
          exact WK_ret (ret_out (L := []) (RLc_tmp rfl RLc_nil) (List.nil_sublist _) rfl)
        · have hm := ifF hb11 hm
          refine WO_pure tbok 4 [(2, .int .i64 p2), (3, .pointer (some ⟨b2, 0, none⟩)), (4, .pointer (some ⟨b3, 0, none⟩)), (6, .bool false), (7, .int .i64 y_3), (8, .int .i64 y_4)] rfl ⟨rfl, rfl, rfl, rfl, rfl, rfl, trivial⟩ ?_
          refine WO_end ?_
          cases hm
          exact WK_ret (ret_out (L := []) (RLc_tmp rfl RLc_nil) (List.nil_sublist _) rfl)
      · have hm := ifF hb10 hm
        refine WK_skip ?_
        refine WK_seq ?_
        refine WK_region ?_
        refine WO_loadB tbok 0 rfl rfl rfl rfl (fun _ h => h) rfl rfl ?_
        refine WO_pure tbok 1 [(2, .int .i64 p2), (3, .pointer (some ⟨b2, 0, none⟩)), (4, .pointer (some ⟨b3, 0, none⟩)), (6, .bool false), (7, .int .i64 y_3), (8, .int .i64 y_4), (38, .agg #[.int .i64 p0_0, .int .i64 p0_1, .int .i64 p0_2, .slice a_p0_3 p0_3.length c_p0_3]), (39, .pointer (some ⟨b3, 0, none⟩))] rfl ⟨rfl, rfl, rfl, rfl, rfl, rfl, rfl, rfl, trivial⟩ ?_
        refine WO_loadB tbok 1 rfl rfl rfl rfl (fun _ h => h) rfl rfl ?_
        refine WO_pure tbok 1 [(2, .int .i64 p2), (3, .pointer (some ⟨b2, 0, none⟩)), (4, .pointer (some ⟨b3, 0, none⟩)), (6, .bool false), (7, .int .i64 y_3), (8, .int .i64 y_4), (38, .agg #[.int .i64 p0_0, .int .i64 p0_1, .int .i64 p0_2, .slice a_p0_3 p0_3.length c_p0_3]), (40, .int .i64 p1_0), (41, .pointer (some ⟨b3, 1, none⟩))] rfl ⟨rfl, rfl, rfl, rfl, rfl, rfl, rfl, rfl, rfl, trivial⟩ ?_
        refine WO_loadB tbok 1 rfl rfl rfl rfl (fun _ h => h) rfl rfl ?_
        refine WO_pure tbok 1 [(2, .int .i64 p2), (3, .pointer (some ⟨b2, 0, none⟩)), (4, .pointer (some ⟨b3, 0, none⟩)), (6, .bool false), (7, .int .i64 y_3), (8, .int .i64 y_4), (38, .agg #[.int .i64 p0_0, .int .i64 p0_1, .int .i64 p0_2, .slice a_p0_3 p0_3.length c_p0_3]), (40, .int .i64 p1_0), (42, .int .i64 p1_1), (43, .int .i64 p2)] rfl ⟨rfl, rfl, rfl, rfl, rfl, rfl, rfl, rfl, rfl, rfl, trivial⟩ ?_
        obtain ⟨⟨y_6, y_7⟩, hc12, hm⟩ := bind_some hm
        refine WO_call0 (.tuple #[.int .i64 y_6, .int .i64 y_7]) rfl rfl trivial rfl rfl rfl rfl St_closed ⟨34, #[], #[], rfl, callable_34, fun w hw => ⟨_, hw.sat, fiduciallaw21_quarter_walk h_p0_3 hc12⟩⟩ ?_
        refine WO_pure tbok 5 [(2, .int .i64 p2), (3, .pointer (some ⟨b2, 0, none⟩)), (4, .pointer (some ⟨b3, 0, none⟩)), (6, .bool false), (7, .int .i64 y_3), (8, .int .i64 y_4), (9, .int .i64 y_6), (10, .int .i64 y_7)] rfl ⟨rfl, rfl, rfl, rfl, rfl, rfl, rfl, rfl, trivial⟩ ?_
        refine WO_end ?_
        refine WK_seq ?_
        refine WK_seq ?_
        obtain ⟨s_8, hx13, hm⟩ := bind_some hm
        refine WK_meet [(2, .int .i64 p2), (3, .pointer (some ⟨b2, 0, none⟩)), (4, .pointer (some ⟨b3, 0, none⟩)), (6, .bool false), (7, .int .i64 y_3), (8, .int .i64 y_4), (54, .bool s_8)] (St w0 m m [[⟨b2, 29, [.int .i64 p0_0, .int .i64 p0_1, .int .i64 p0_2, .slice a_p0_3 p0_3.length c_p0_3]⟩], [⟨b3, 31, [.int .i64 p1_0, .int .i64 p1_1]⟩]]) ?_ (fun hk14 => ?_)
        · refine WK_cond (b := s_8) rfl (fun hb15 => ?_) (fun hb15 => ?_)
          · have hm := ifT hb15 hm
            refine WK_seq ?_
            refine WK_region ?_
            refine WO_pure tbok 1 [(2, .int .i64 p2), (3, .pointer (some ⟨b2, 0, none⟩)), (4, .pointer (some ⟨b3, 0, none⟩)), (6, .bool false), (7, .int .i64 y_3), (8, .int .i64 y_4)] rfl ⟨rfl, rfl, rfl, rfl, rfl, rfl, trivial⟩ ?_
            refine WO_end ?_
            cases hm
            exact WK_ret (ret_out (L := []) (RLc_tmp rfl RLc_nil) (List.nil_sublist _) rfl)
          · have hm := ifF hb15 hm
            refine WK_skip ?_
            refine WK_seq ?_
            refine WK_seq ?_
            refine WK_region ?_
            refine WO_pure tbok 2 [(2, .int .i64 p2), (3, .pointer (some ⟨b2, 0, none⟩)), (4, .pointer (some ⟨b3, 0, none⟩)), (6, .bool false), (7, .int .i64 y_3), (8, .int .i64 y_4), (56, .bool (y_4 == 2))] rfl ⟨rfl, rfl, rfl, rfl, rfl, rfl, rfl, trivial⟩ ?_
            refine WO_end ?_
            refine WK_cond (b := y_4 == 2) rfl (fun hb16 => ?_) (fun hb16 => ?_)
            · have hm := ifT hb16 hm
              refine WK_seq ?_
              refine WK_region ?_
              refine WO_pure tbok 1 [(2, .int .i64 p2), (3, .pointer (some ⟨b2, 0, none⟩)), (4, .pointer (some ⟨b3, 0, none⟩)), (6, .bool true), (7, .int .i64 y_3), (8, .int .i64 y_4)] rfl ⟨rfl, rfl, rfl, rfl, rfl, rfl, trivial⟩ ?_
              refine WO_end ?_
              cases hm
              exact WK_ret (ret_out (L := []) (RLc_tmp rfl RLc_nil) (List.nil_sublist _) rfl)
            · have hm := ifF hb16 hm
              refine WK_skip ?_
              refine WK_seq ?_
              refine WK_draw 17 [0, 2, 3, 4, 5, 6, 7, 8, 9, 10, 1, 11, 12, 13, 14, 15, 16] follows_ok (by kernel_rfl) St_closed ?_
              refine WO_loadB tbok 0 rfl rfl rfl rfl (fun _ h => h) rfl rfl ?_
              refine WO_pure tbok 1 [(2, .int .i64 p2), (3, .pointer (some ⟨b2, 0, none⟩)), (4, .pointer (some ⟨b3, 0, none⟩)), (6, .bool false), (7, .int .i64 y_3), (8, .int .i64 y_4), (58, .agg #[.int .i64 p0_0, .int .i64 p0_1, .int .i64 p0_2, .slice a_p0_3 p0_3.length c_p0_3]), (60, .pointer (some ⟨b3, 1, none⟩))] rfl ⟨rfl, rfl, rfl, rfl, rfl, rfl, rfl, rfl, trivial⟩ ?_
              refine WO_loadB tbok 1 rfl rfl rfl rfl (fun _ h => h) rfl rfl ?_
              refine WO_pure tbok 1 [(2, .int .i64 p2), (4, .pointer (some ⟨b3, 0, none⟩)), (6, .bool false), (7, .int .i64 y_3), (8, .int .i64 y_4), (58, .agg #[.int .i64 p0_0, .int .i64 p0_1, .int .i64 p0_2, .slice a_p0_3 p0_3.length c_p0_3]), (61, .int .i64 p1_1), (62, .pointer (some ⟨b2, 0, none⟩))] rfl ⟨rfl, rfl, rfl, rfl, rfl, rfl, rfl, rfl, trivial⟩ ?_
              refine WO_loadB tbok 0 rfl rfl rfl rfl (fun _ h => h) rfl rfl ?_
              refine WO_pure tbok 2 [(2, .int .i64 p2), (6, .bool false), (7, .int .i64 y_3), (8, .int .i64 y_4), (58, .agg #[.int .i64 p0_0, .int .i64 p0_1, .int .i64 p0_2, .slice a_p0_3 p0_3.length c_p0_3]), (61, .int .i64 p1_1), (64, .int .i64 (w64 (p0_0 - 1))), (65, .pointer (some ⟨b3, 0, none⟩))] rfl ⟨rfl, rfl, rfl, rfl, rfl, rfl, rfl, rfl, trivial⟩ ?_
              refine WO_loadB tbok 1 rfl rfl rfl rfl (fun _ h => h) rfl rfl ?_
              refine WO_pure tbok 2 [(6, .bool false), (7, .int .i64 y_3), (8, .int .i64 y_4), (58, .agg #[.int .i64 p0_0, .int .i64 p0_1, .int .i64 p0_2, .slice a_p0_3 p0_3.length c_p0_3]), (61, .int .i64 p1_1), (67, .int .i64 (w64 ((w64 (p0_0 - 1)) - p1_0))), (68, .int .i64 p2)] rfl ⟨rfl, rfl, rfl, rfl, rfl, rfl, rfl, trivial⟩ ?_
              obtain ⟨⟨y_9, y_10, y_11, y_12⟩, hc17, hm⟩ := bind_some hm
              refine WO_call1 (fiducialref13_Turn_Q (y_9, y_10, y_11, y_12)) rfl rfl St_closed rfl rfl rfl rfl ⟨26, #[], #[], rfl, callable_26, fun w hw => ⟨_, hw.sat, fiducialref13_Turn_walk h_p0_3 hc17⟩⟩ (fun v22 L21 hq => ?_)
              obtain ⟨a18, qa18, c19, rfl, hL21⟩ := hq
              obtain rfl := OwnE.qlen hL21
              refine WO.cls (C' := St w0 m m [[⟨b2, 29, [.int .i64 p0_0, .int .i64 p0_1, .int .i64 p0_2, .slice a_p0_3 p0_3.length c_p0_3]⟩], [⟨b3, 31, [.int .i64 p1_0, .int .i64 p1_1]⟩], L21]) (fun _ h => h) ?_
              obtain ⟨⟨y_13, y_14⟩, hc23, hm⟩ := bind_some hm
              refine WO_call0 (.tuple #[.int .i64 y_13, .int .i64 y_14]) rfl rfl St_closed rfl rfl rfl rfl St_closed ⟨33, #[], #[], rfl, callable_33, fun w hw => ⟨_, hw.satV, descriptor_Quarter_walk (OwnE.rd (E := (I1 .i64)) (k := 1) (fun _ => rfl) hL21 (fun _ hx => hw.memV (i := 2) rfl hx)) hc23⟩⟩ ?_
              refine WO_pure tbok 5 [(6, .bool false), (7, .int .i64 y_3), (8, .int .i64 y_4), (11, .int .i64 y_13), (12, .int .i64 y_14)] rfl ⟨rfl, rfl, rfl, rfl, rfl, trivial⟩ ?_
              refine WO_tail ?_
              refine WO_end ?_
              refine WK_seq ?_
              refine WK_region ?_
              refine WO_pure tbok 4 [(6, .bool false), (7, .int .i64 y_3), (8, .int .i64 y_4), (11, .int .i64 y_13), (75, .bool (y_14 == y_4))] rfl ⟨rfl, rfl, rfl, rfl, rfl, trivial⟩ ?_
              refine WO_split (d := 75) (b := y_14 == y_4) rfl (fun hb24 => ?_) (fun hb24 => ?_)
              · have hm := ifT hb24 hm
                refine WO_pure tbok 3 [(6, .bool false), (7, .int .i64 y_3), (11, .int .i64 y_13), (75, .bool true), (78, .bool (y_4 != 0))] rfl ⟨rfl, rfl, rfl, rfl, rfl, trivial⟩ ?_
                refine WO_split (d := 78) (b := y_4 != 0) rfl (fun hb25 => ?_) (fun hb25 => ?_)
                · have hm := ifT hb25 hm
                  refine WO_pure tbok 8 [(6, .bool true)] rfl ⟨rfl, trivial⟩ ?_
                  refine WO_end ?_
                  cases hm
                  exact WK_ret (ret_out (L := []) (RLc_tmp rfl RLc_nil) (List.nil_sublist _) rfl)
                · have hm := ifF hb25 hm
                  refine WO_pure tbok 8 [(6, .bool (y_13 == (Int.tmod (w64 (y_3 + 1)) 4)))] rfl ⟨rfl, trivial⟩ ?_
                  refine WO_end ?_
                  cases hm
                  exact WK_ret (ret_out (L := []) (RLc_tmp rfl RLc_nil) (List.nil_sublist _) rfl)
              · have hm := ifF hb24 hm
                refine WO_pure tbok 11 [(6, .bool false)] rfl ⟨rfl, trivial⟩ ?_
                refine WO_end ?_
                cases hm
                exact WK_ret (ret_out (L := []) (RLc_tmp rfl RLc_nil) (List.nil_sublist _) rfl)
        · refine WK_region ?_
          refine WO_pure tbok 4 [(2, .int .i64 p2), (3, .pointer (some ⟨b2, 0, none⟩)), (4, .pointer (some ⟨b3, 0, none⟩)), (6, .bool false), (7, .int .i64 y_3), (8, .int .i64 y_4), (9, .int .i64 y_6), (50, .bool (y_4 != y_7))] rfl ⟨rfl, rfl, rfl, rfl, rfl, rfl, rfl, rfl, trivial⟩ ?_
          refine WO_split (d := 50) (b := y_4 != y_7) rfl (fun hb26 => ?_) (fun hb26 => ?_)
          · have hx13 := ifT hb26 hx13
            refine WO_pure tbok 4 [(2, .int .i64 p2), (3, .pointer (some ⟨b2, 0, none⟩)), (4, .pointer (some ⟨b3, 0, none⟩)), (6, .bool false), (7, .int .i64 y_3), (8, .int .i64 y_4), (54, .bool true)] rfl ⟨rfl, rfl, rfl, rfl, rfl, rfl, rfl, trivial⟩ ?_
            refine WO_end ?_
            cases hx13
            refine WK.sub ?_ (WK.cls (fun _ h => h) hk14)
            exact ⟨rfl, rfl, rfl, rfl, rfl, rfl, rfl, trivial⟩
          · have hx13 := ifF hb26 hx13
            refine WO_pure tbok 4 [(2, .int .i64 p2), (3, .pointer (some ⟨b2, 0, none⟩)), (4, .pointer (some ⟨b3, 0, none⟩)), (6, .bool false), (7, .int .i64 y_3), (8, .int .i64 y_4), (54, .bool (y_3 != y_6))] rfl ⟨rfl, rfl, rfl, rfl, rfl, rfl, rfl, trivial⟩ ?_
            refine WO_end ?_
            cases hx13
            refine WK.sub ?_ (WK.cls (fun _ h => h) hk14)
            exact ⟨rfl, rfl, rfl, rfl, rfl, rfl, rfl, trivial⟩
theorem descriptor_Upright_walk {m : Mu} {p0_0 : Int} {p0_1 : Int} {p0_2 : Int} {p0_3 : List Int} {p1 : List (Int × Int × Int × Int × Int × Int × Int × Int)} {p2 : Int} {p3 : Int} {p4 : Int} {a_p0_3 : Option Addr} {q_p0_3 c_p0_3 : Nat} {a_p1 : Option Addr} {q_p1 c_p1 : Nat} (h_p0_3 : SlR (FE (I1 .i64)) 1 m (.slice a_p0_3 q_p0_3 c_p0_3) p0_3) (h_p1 : SlR (FE T8) 8 m (.slice a_p1 q_p1 c_p1) p1) {r : Int × Int} (hm : descriptor_Upright p0_0 p0_1 p0_2 p0_3 p1 p2 p3 p4 = some r) :
    Go.E.Spec Try.prog 35 [.agg #[.int .i64 p0_0, .int .i64 p0_1, .int .i64 p0_2, .slice a_p0_3 q_p0_3 c_p0_3], .slice a_p1 q_p1 c_p1, .int .i64 p2, .int .i64 p3, .int .i64 p4] m (fun v _ _ => v = .tuple #[.int .u64 r.1, .int .i64 r.2]) := by
  refine Spec_enter Try.func35 rfl rfl rfl (fun w0 => ?_)
  refine WK.sub (e' := [(0, .agg #[.int .i64 p0_0, .int .i64 p0_1, .int .i64 p0_2, .slice a_p0_3 q_p0_3 c_p0_3]), (1, .slice a_p1 q_p1 c_p1), (2, .int .i64 p2), (3, .int .i64 p3), (4, .int .i64 p4)]) ⟨rfl, rfl, rfl, rfl, rfl, trivial⟩ ?_
  obtain rfl := SlR.qlen h_p0_3
  obtain rfl := SlR.qlen h_p1
  refine WK.sub (e' := [(0, .agg #[.int .i64 p0_0, .int .i64 p0_1, .int .i64 p0_2, .slice a_p0_3 p0_3.length c_p0_3]), (1, .slice a_p1 p1.length c_p1), (2, .int .i64 p2), (3, .int .i64 p3), (4, .int .i64 p4)]) ⟨rfl, rfl, rfl, rfl, rfl, trivial⟩ ?_
  unfold descriptor_Upright at hm
  refine WK_seq ?_
  refine WK_region ?_
  refine WO_box [.int .i64 p0_0, .int .i64 p0_1, .int .i64 p0_2, .slice a_p0_3 p0_3.length c_p0_3] rfl rfl trivial rfl rfl rfl (fun b3 => ?_)
  refine WO.cls (C' := St w0 m m [[⟨b3, 29, [.int .i64 p0_0, .int .i64 p0_1, .int .i64 p0_2, .slice a_p0_3 p0_3.length c_p0_3]⟩]]) (fun _ h => h) ?_
  refine WO_pure tbok 2 [(1, .slice a_p1 p1.length c_p1), (2, .int .i64 p2), (3, .int .i64 p3), (4, .int .i64 p4), (5, .pointer (some ⟨b3, 0, none⟩)), (10, .int .u64 0), (11, .int .i64 0)] rfl ⟨rfl, rfl, rfl, rfl, rfl, rfl, rfl, trivial⟩ ?_
  refine WO_end ?_
  refine WK_seq ?_
  refine WK_region ?_
  refine WO_loadB tbok 0 rfl rfl rfl rfl (fun _ h => h) rfl rfl ?_
  refine WO_pure tbok 1 [(1, .slice a_p1 p1.length c_p1), (2, .int .i64 p2), (3, .int .i64 p3), (4, .int .i64 p4), (10, .int .u64 0), (11, .int .i64 0), (18, .agg #[.int .i64 p0_0, .int .i64 p0_1, .int .i64 p0_2, .slice a_p0_3 p0_3.length c_p0_3]), (19, .slice a_p1 p1.length c_p1)] rfl ⟨rfl, rfl, rfl, rfl, rfl, rfl, rfl, rfl, trivial⟩ ?_
  obtain ⟨⟨y_1, y_2, y_3, y_4, y_5, y_6⟩, hc4, hm⟩ := bind_some hm
  refine WO_call2 (descriptor_opened_Q (y_1, y_2, y_3, y_4, y_5, y_6)) rfl rfl trivial rfl rfl rfl rfl ⟨36, #[], #[], rfl, callable_36, descriptor_opened_walk h_p0_3 h_p1 hc4⟩ (fun v12 m13 L11 hle14 hq => ?_)
  obtain ⟨a5, qa5, c6, a8, qa8, c9, rfl, h15, h16⟩ := hq
  obtain rfl := SlR.qlen h15
  obtain rfl := SlR.qlen h16
  refine WO.cls (C' := St w0 m m13 [[⟨b3, 29, [.int .i64 p0_0, .int .i64 p0_1, .int .i64 p0_2, .slice a_p0_3 p0_3.length c_p0_3]⟩], L11]) (fun _ h => h.sub (by simp)) ?_
  refine WO_pure tbok 3 [(1, .slice a_p1 p1.length c_p1), (2, .int .i64 p2), (3, .int .i64 p3), (4, .int .i64 p4), (10, .int .u64 0), (11, .int .i64 0), (21, .agg #[.int .i64 y_1, .int .i64 y_2, .int .i64 y_3, .slice a5 ((y_4).length) c6, .slice a8 ((y_5).length) c9]), (22, .int .i64 y_6)] rfl ⟨rfl, rfl, rfl, rfl, rfl, rfl, rfl, rfl, trivial⟩ ?_
  refine WO_alloc tbok [.int .i64 0, .int .i64 0, .int .i64 0, .slice none 0 0, .slice none 0 0] rfl rfl trivial rfl rfl rfl rfl (fun b17 => ?_)
  refine WO.cls (C' := St w0 m m13 [[⟨b3, 29, [.int .i64 p0_0, .int .i64 p0_1, .int .i64 p0_2, .slice a_p0_3 p0_3.length c_p0_3]⟩], L11, [⟨b17, 74, [.int .i64 0, .int .i64 0, .int .i64 0, .slice none 0 0, .slice none 0 0]⟩]]) (fun _ h => h) ?_
  refine WO_storeB tbok 2 [.int .i64 y_1, .int .i64 y_2, .int .i64 y_3, .slice a5 ((y_4).length) c6, .slice a8 ((y_5).length) c9] rfl rfl rfl rfl rfl rfl rfl ?_
  refine WO.cls (C' := St w0 m m13 [[⟨b3, 29, [.int .i64 p0_0, .int .i64 p0_1, .int .i64 p0_2, .slice a_p0_3 p0_3.length c_p0_3]⟩], L11, [⟨b17, 74, [.int .i64 y_1, .int .i64 y_2, .int .i64 y_3, .slice a5 ((y_4).length) c6, .slice a8 ((y_5).length) c9]⟩]]) (fun _ h => h) ?_
  refine WO_pure tbok 1 [(1, .slice a_p1 p1.length c_p1), (2, .int .i64 p2), (3, .int .i64 p3), (4, .int .i64 p4), (10, .int .u64 0), (11, .int .i64 0), (12, .pointer (some ⟨b17, 0, none⟩)), (13, .int .i64 y_6)] rfl ⟨rfl, rfl, rfl, rfl, rfl, rfl, rfl, rfl, trivial⟩ ?_
  refine WO_end ?_
  refine WK_seq ?_
  refine WK_seq ?_
  refine WK_region ?_
  refine WO_pure tbok 2 [(1, .slice a_p1 p1.length c_p1), (2, .int .i64 p2), (3, .int .i64 p3), (4, .int .i64 p4), (10, .int .u64 0), (11, .int .i64 0), (12, .pointer (some ⟨b17, 0, none⟩)), (13, .int .i64 y_6), (24, .bool (y_6 != 0))] rfl ⟨rfl, rfl, rfl, rfl, rfl, rfl, rfl, rfl, rfl, trivial⟩ ?_
  refine WO_end ?_
  refine WK_cond (b := y_6 != 0) rfl (fun hb18 => ?_) (fun hb18 => ?_)
  · have hm := ifT hb18 hm
    refine WK_seq ?_
    refine WK_region ?_
    refine WO_pure tbok 3 [(1, .slice a_p1 p1.length c_p1), (2, .int .i64 p2), (3, .int .i64 p3), (4, .int .i64 p4), (10, .int .u64 0), (11, .int .i64 y_6), (12, .pointer (some ⟨b17, 0, none⟩))] rfl ⟨rfl, rfl, rfl, rfl, rfl, rfl, rfl, trivial⟩ ?_
    refine WO_end ?_
    cases hm
    exact WK_ret (ret_out (L := []) (RLc_tmp rfl (RLc_tmp rfl RLc_nil)) (List.nil_sublist _) rfl)
  · have hm := ifF hb18 hm
    refine WK_skip ?_
    refine WK_seq ?_
    refine WK_region ?_
    refine WO_loadB tbok 2 rfl rfl rfl rfl (fun _ h => h) rfl rfl ?_
    refine WO_pure tbok 3 [(1, .slice a_p1 p1.length c_p1), (2, .int .i64 p2), (3, .int .i64 p3), (10, .int .u64 0), (11, .int .i64 0), (12, .pointer (some ⟨b17, 0, none⟩)), (13, .int .i64 y_6), (27, .agg #[.int .i64 y_1, .int .i64 y_2, .int .i64 y_3, .slice a5 ((y_4).length) c6, .slice a8 ((y_5).length) c9]), (28, .int .i64 p2), (29, .int .i64 p3), (30, .int .i64 p4)] rfl ⟨rfl, rfl, rfl, rfl, rfl, rfl, rfl, rfl, rfl, rfl, rfl, trivial⟩ ?_
    obtain ⟨⟨y_7, y_8⟩, hc19, hm⟩ := bind_some hm
    refine WO_call0 (.tuple #[.int .i64 y_7, .int .i64 y_8]) rfl rfl trivial rfl rfl rfl rfl St_closed ⟨50, #[], #[], rfl, callable_50, fun w hw => ⟨_, hw.sat, fiducial_descriptor_image_quarter_walk h15 h16 hc19⟩⟩ ?_
    refine WO_pure tbok 5 [(1, .slice a_p1 p1.length c_p1), (2, .int .i64 p2), (3, .int .i64 p3), (10, .int .u64 0), (11, .int .i64 0), (12, .pointer (some ⟨b17, 0, none⟩)), (13, .int .i64 y_8), (14, .int .i64 y_7)] rfl ⟨rfl, rfl, rfl, rfl, rfl, rfl, rfl, rfl, trivial⟩ ?_
    refine WO_end ?_
    refine WK_seq ?_
    refine WK_seq ?_
    refine WK_region ?_
    refine WO_pure tbok 2 [(1, .slice a_p1 p1.length c_p1), (2, .int .i64 p2), (3, .int .i64 p3), (10, .int .u64 0), (11, .int .i64 0), (12, .pointer (some ⟨b17, 0, none⟩)), (13, .int .i64 y_8), (14, .int .i64 y_7), (35, .bool (y_8 != 0))] rfl ⟨rfl, rfl, rfl, rfl, rfl, rfl, rfl, rfl, rfl, trivial⟩ ?_
    refine WO_end ?_
    refine WK_cond (b := y_8 != 0) rfl (fun hb20 => ?_) (fun hb20 => ?_)
    · have hm := ifT hb20 hm
      refine WK_seq ?_
      refine WK_region ?_
      refine WO_pure tbok 3 [(1, .slice a_p1 p1.length c_p1), (2, .int .i64 p2), (3, .int .i64 p3), (10, .int .u64 0), (11, .int .i64 y_8), (12, .pointer (some ⟨b17, 0, none⟩)), (14, .int .i64 y_7)] rfl ⟨rfl, rfl, rfl, rfl, rfl, rfl, rfl, trivial⟩ ?_
      refine WO_end ?_
      cases hm
      exact WK_ret (ret_out (L := []) (RLc_tmp rfl (RLc_tmp rfl RLc_nil)) (List.nil_sublist _) rfl)
    · have hm := ifF hb20 hm
      refine WK_skip ?_
      refine WK_seq ?_
      refine WK_seq ?_
      refine WK_region ?_
      refine WO_pure tbok 2 [(1, .slice a_p1 p1.length c_p1), (2, .int .i64 p2), (3, .int .i64 p3), (10, .int .u64 0), (11, .int .i64 0), (12, .pointer (some ⟨b17, 0, none⟩)), (37, .int .i64 y_7), (38, .int .i64 0)] rfl ⟨rfl, rfl, rfl, rfl, rfl, rfl, rfl, rfl, trivial⟩ ?_
      refine WO_end ?_
      obtain ⟨x35, hx36, hm⟩ := bind_some hm
      refine WK_join (β := (List (Int × Int × Int × Int × Int × Int × Int × Int)) × (Mu × Option Addr × Nat × Nat)) (fun p => p.1 = x35 ∧ Le m13 p.2.1 ∧ SlR (FE T8) 8 p.2.1 (.slice p.2.2.1 p.2.2.2.1 p.2.2.2.2) p.1) (fun p => [(1, .slice p.2.2.1 p.2.2.2.1 p.2.2.2.2), (2, .int .i64 p2), (3, .int .i64 p3), (10, .int .u64 0), (11, .int .i64 0), (12, .pointer (some ⟨b17, 0, none⟩))]) (fun p => St w0 m p.2.1 [[⟨b3, 29, [.int .i64 p0_0, .int .i64 p0_1, .int .i64 p0_2, .slice a_p0_3 p0_3.length c_p0_3]⟩], L11, [⟨b17, 74, [.int .i64 y_1, .int .i64 y_2, .int .i64 y_3, .slice a5 ((y_4).length) c6, .slice a8 ((y_5).length) c9]⟩]]) ?_ (fun hk37 => ?_)
      · rintro ⟨l_11, ⟨m28, a30, q31, c32⟩⟩ ⟨hq43, hle29, h33⟩
        subst hq43
        have hqq : q31 = l_11.length := SlR.qlen h33
        subst hqq
        refine WK.sub (e' := [(1, .slice a30 ((l_11).length) c32), (2, .int .i64 p2), (3, .int .i64 p3), (10, .int .u64 0), (11, .int .i64 0), (12, .pointer (some ⟨b17, 0, none⟩))]) ⟨rfl, rfl, rfl, rfl, rfl, rfl, trivial⟩ (WK.cls (C' := St w0 m m28 [[⟨b3, 29, [.int .i64 p0_0, .int .i64 p0_1, .int .i64 p0_2, .slice a_p0_3 p0_3.length c_p0_3]⟩], L11, [⟨b17, 74, [.int .i64 y_1, .int .i64 y_2, .int .i64 y_3, .slice a5 ((y_4).length) c6, .slice a8 ((y_5).length) c9]⟩]]) (fun _ h => h) ?_)
        refine WK_seq ?_
        refine WK_region ?_
        refine WO_loadB tbok 2 rfl rfl rfl rfl (fun _ h => h) rfl rfl ?_
        refine WO_pure tbok 3 [(10, .int .u64 0), (11, .int .i64 0), (47, .agg #[.int .i64 y_1, .int .i64 y_2, .int .i64 y_3, .slice a5 ((y_4).length) c6, .slice a8 ((y_5).length) c9]), (48, .slice a30 ((l_11).length) c32), (49, .int .i64 p2), (50, .int .i64 p3)] rfl ⟨rfl, rfl, rfl, rfl, rfl, rfl, trivial⟩ ?_
        obtain ⟨⟨y_12, y_13⟩, hc44, hm⟩ := bind_some hm
        refine WO_call0 (.tuple #[.int .u64 y_12, .bool y_13]) rfl rfl trivial rfl rfl rfl rfl St_closed ⟨38, #[], #[], rfl, callable_38, fun w hw => ⟨_, hw.sat, fiducial_descriptor_image_word_walk (h15.mono (mono_FE _) hle29) (h16.mono (mono_RowE (mono_FE _) _) hle29) h33 hc44⟩⟩ ?_
        refine WO_pure tbok 5 [(10, .int .u64 0), (11, .int .i64 0), (15, .int .u64 y_12), (16, .bool y_13)] rfl ⟨rfl, rfl, rfl, rfl, trivial⟩ ?_
        refine WO_end ?_
        refine WK_seq ?_
        refine WK_seq ?_
        refine WK_region ?_
        refine WO_pure tbok 2 [(10, .int .u64 0), (11, .int .i64 0), (15, .int .u64 y_12), (55, .bool (!y_13))] rfl ⟨rfl, rfl, rfl, rfl, trivial⟩ ?_
        refine WO_end ?_
        refine WK_cond (b := !y_13) rfl (fun hb45 => ?_) (fun hb45 => ?_)
        · have hm := ifT hb45 hm
          refine WK_seq ?_
          refine WK_region ?_
          refine WO_pure tbok 2 [(10, .int .u64 0), (11, .int .i64 15), (15, .int .u64 y_12)] rfl ⟨rfl, rfl, rfl, trivial⟩ ?_
          refine WO_end ?_
          cases hm
          exact WK_ret (ret_out (L := []) (RLc_tmp rfl (RLc_tmp rfl RLc_nil)) (List.nil_sublist _) rfl)
        · have hm := ifF hb45 hm
          refine WK_skip ?_
          refine WK_seq ?_
          refine WK_region ?_
          refine WO_pure tbok 3 [(10, .int .u64 y_12), (11, .int .i64 0)] rfl ⟨rfl, rfl, trivial⟩ ?_
          refine WO_end ?_
          cases hm
          exact WK_ret (ret_out (L := []) (RLc_tmp rfl (RLc_tmp rfl RLc_nil)) (List.nil_sublist _) rfl)
      · refine WK_block ?_
        refine WK_loop (S := List (Int × Int × Int × Int × Int × Int × Int × Int) × Int) (G := Mu × Option Addr × Nat × Nat) (fun s => descriptor_Upright_s1 y_7 s.1 s.2) (fun s g => [(1, .slice g.2.1 g.2.2.1 g.2.2.2), (2, .int .i64 p2), (3, .int .i64 p3), (10, .int .u64 0), (11, .int .i64 0), (12, .pointer (some ⟨b17, 0, none⟩)), (37, .int .i64 y_7), (38, .int .i64 s.2)]) (fun s g => St w0 m g.1 [[⟨b3, 29, [.int .i64 p0_0, .int .i64 p0_1, .int .i64 p0_2, .slice a_p0_3 p0_3.length c_p0_3]⟩], L11, [⟨b17, 74, [.int .i64 y_1, .int .i64 y_2, .int .i64 y_3, .slice a5 ((y_4).length) c6, .slice a8 ((y_5).length) c9]⟩]]) (fun s g => Le m13 g.1 ∧ SlR (FE T8) 8 g.1 (.slice g.2.1 g.2.2.1 g.2.2.2) s.1) FUEL (p1, 0) (m13, a_p1, p1.length, c_p1) x35 hx36 ⟨(Le.refl _), (h_p1.mono (mono_FE _) hle14)⟩ ⟨rfl, rfl, rfl, rfl, rfl, rfl, rfl, rfl, trivial⟩ (fun _ h => h) ?_
        rintro ⟨l_9, s_10⟩ ⟨m21, a23, q24, c25⟩ o39 fl40 hm38 ⟨hle22, h26⟩ hn41 hd42
        have hm38 : descriptor_Upright_s1 y_7 l_9 s_10 = some o39 := hm38
        unfold descriptor_Upright_s1 at hm38
        have hqq : q24 = l_9.length := SlR.qlen h26
        subst hqq
        refine WK.sub (e' := [(1, .slice a23 ((l_9).length) c25), (2, .int .i64 p2), (3, .int .i64 p3), (10, .int .u64 0), (11, .int .i64 0), (12, .pointer (some ⟨b17, 0, none⟩)), (37, .int .i64 y_7), (38, .int .i64 s_10)]) ⟨rfl, rfl, rfl, rfl, rfl, rfl, rfl, rfl, trivial⟩ (WK.cls (C' := St w0 m m21 [[⟨b3, 29, [.int .i64 p0_0, .int .i64 p0_1, .int .i64 p0_2, .slice a_p0_3 p0_3.length c_p0_3]⟩], L11, [⟨b17, 74, [.int .i64 y_1, .int .i64 y_2, .int .i64 y_3, .slice a5 ((y_4).length) c6, .slice a8 ((y_5).length) c9]⟩]]) (fun _ h => h) ?_)
        refine WK_seq ?_
        refine WK_region ?_
        refine WO_pure tbok 1 [(1, .slice a23 ((l_9).length) c25), (2, .int .i64 p2), (3, .int .i64 p3), (10, .int .u64 0), (11, .int .i64 0), (12, .pointer (some ⟨b17, 0, none⟩)), (37, .int .i64 y_7), (38, .int .i64 s_10), (39, .bool (decide (s_10 < y_7)))] rfl ⟨rfl, rfl, rfl, rfl, rfl, rfl, rfl, rfl, rfl, trivial⟩ ?_
        refine WO_end ?_
        refine WK_seq ?_
        refine WK_cond (b := decide (s_10 < y_7)) rfl (fun hb46 => ?_) (fun hb46 => ?_)
        · have hm38 := ifT hb46 hm38
          refine WK_skip ?_
          refine WK_seq ?_
          refine WK_block ?_
          refine WK_region ?_
          refine WO_pure tbok 1 [(1, .slice a23 ((l_9).length) c25), (2, .int .i64 p2), (3, .int .i64 p3), (10, .int .u64 0), (11, .int .i64 0), (12, .pointer (some ⟨b17, 0, none⟩)), (37, .int .i64 y_7), (38, .int .i64 s_10), (41, .slice a23 ((l_9).length) c25)] rfl ⟨rfl, rfl, rfl, rfl, rfl, rfl, rfl, rfl, rfl, trivial⟩ ?_
          obtain ⟨⟨y_14, y_15⟩, hc47, hm38⟩ := bind_some hm38
          refine WO_call1 (descriptor_Turned_Q (y_14, y_15)) rfl rfl trivial rfl rfl rfl rfl ⟨22, #[], #[], rfl, callable_22, fun w hw => ⟨_, hw.sat, descriptor_Turned_walk h26 hc47⟩⟩ (fun v52 L51 hq => ?_)
          obtain ⟨a48, qa48, c49, rfl, hL51⟩ := hq
          obtain rfl := OwnE.qlen hL51
          refine WO.cls (C' := St w0 m m21 [[⟨b3, 29, [.int .i64 p0_0, .int .i64 p0_1, .int .i64 p0_2, .slice a_p0_3 p0_3.length c_p0_3]⟩], L11, [⟨b17, 74, [.int .i64 y_1, .int .i64 y_2, .int .i64 y_3, .slice a5 ((y_4).length) c6, .slice a8 ((y_5).length) c9]⟩], L51]) (fun _ h => h) ?_
          refine WO_pure tbok 4 [(1, .slice a48 ((y_14).length) c49), (2, .int .i64 p2), (3, .int .i64 p3), (10, .int .u64 0), (11, .int .i64 0), (12, .pointer (some ⟨b17, 0, none⟩)), (37, .int .i64 y_7), (38, .int .i64 s_10)] rfl ⟨rfl, rfl, rfl, rfl, rfl, rfl, rfl, rfl, trivial⟩ ?_
          refine WO_end ?_
          refine WK_blk ?_
          refine WK_region ?_
          refine WO_pure tbok 2 [(1, .slice a48 ((y_14).length) c49), (2, .int .i64 p2), (3, .int .i64 p3), (10, .int .u64 0), (11, .int .i64 0), (12, .pointer (some ⟨b17, 0, none⟩)), (37, .int .i64 y_7), (38, .int .i64 (w64 (s_10 + 1)))] rfl ⟨rfl, rfl, rfl, rfl, rfl, rfl, rfl, rfl, trivial⟩ ?_
          refine WO_end ?_
          refine WK_freeze 3 rfl (fun m53 hle54 hmm55 => ?_)
          refine WK.cls (C' := St w0 m m53 [[⟨b3, 29, [.int .i64 p0_0, .int .i64 p0_1, .int .i64 p0_2, .slice a_p0_3 p0_3.length c_p0_3]⟩], L11, [⟨b17, 74, [.int .i64 y_1, .int .i64 y_2, .int .i64 y_3, .slice a5 ((y_4).length) c6, .slice a8 ((y_5).length) c9]⟩], []]) (fun _ h => h) ?_
          cases hm38
          refine WK.sub ?_ (WK.cls (fun _ h => St.take 3 h) (hn41 _ (m53, a48, (y_14).length, c49) rfl ⟨(hle22.trans hle54), (OwnE.rd (E := T8) (k := 8) (fun _ => rfl) hL51 hmm55)⟩))
          exact ⟨rfl, rfl, rfl, rfl, rfl, rfl, rfl, rfl, trivial⟩
        · have hm38 := ifF hb46 hm38
          refine WK_exit rfl ?_
          cases hm38
          refine WK.sub ?_ (WK.cls (fun _ h => h) (hk37 (l_9, (m21, a23, (l_9).length, c25)) ⟨(hd42 _ rfl), hle22, h26⟩))
          exact ⟨rfl, rfl, rfl, rfl, rfl, rfl, trivial⟩
theorem fiduciallaw21_DescriptorUpright_walk {m : Mu} {p0_0 : Int} {p0_1 : Int} {p0_2 : Int} {p0_3 : List Int} {p1 : List (Int × Int × Int × Int × Int × Int × Int × Int)} {p2_0 : Int} {p2_1 : Int} {p2_2 : Int} {a_p0_3 : Option Addr} {q_p0_3 c_p0_3 : Nat} {a_p1 : Option Addr} {q_p1 c_p1 : Nat} (h_p0_3 : SlR (FE (I1 .i64)) 1 m (.slice a_p0_3 q_p0_3 c_p0_3) p0_3) (h_p1 : SlR (FE T8) 8 m (.slice a_p1 q_p1 c_p1) p1) {r : Bool} (hm : fiduciallaw21_DescriptorUpright p0_0 p0_1 p0_2 p0_3 p1 p2_0 p2_1 p2_2 = some r) :
    Go.E.Spec Try.prog 10 [.agg #[.int .i64 p0_0, .int .i64 p0_1, .int .i64 p0_2, .slice a_p0_3 q_p0_3 c_p0_3], .slice a_p1 q_p1 c_p1, .agg #[.int .i64 p2_0, .int .i64 p2_1, .int .i64 p2_2]] m (fun v _ _ => v = .bool r) := by
  refine Spec_enter Try.func10 rfl rfl rfl (fun w0 => ?_)
  refine WK.sub (e' := [(0, .agg #[.int .i64 p0_0, .int .i64 p0_1, .int .i64 p0_2, .slice a_p0_3 q_p0_3 c_p0_3]), (1, .slice a_p1 q_p1 c_p1), (2, .agg #[.int .i64 p2_0, .int .i64 p2_1, .int .i64 p2_2])]) ⟨rfl, rfl, rfl, trivial⟩ ?_
  obtain rfl := SlR.qlen h_p0_3
  obtain rfl := SlR.qlen h_p1
  refine WK.sub (e' := [(0, .agg #[.int .i64 p0_0, .int .i64 p0_1, .int .i64 p0_2, .slice a_p0_3 p0_3.length c_p0_3]), (1, .slice a_p1 p1.length c_p1), (2, .agg #[.int .i64 p2_0, .int .i64 p2_1, .int .i64 p2_2])]) ⟨rfl, rfl, rfl, trivial⟩ ?_
  unfold fiduciallaw21_DescriptorUpright at hm
  refine WK_seq ?_
  refine WK_region ?_
  refine WO_box [.int .i64 p0_0, .int .i64 p0_1, .int .i64 p0_2, .slice a_p0_3 p0_3.length c_p0_3] rfl rfl trivial rfl rfl rfl (fun b3 => ?_)
  refine WO.cls (C' := St w0 m m [[⟨b3, 29, [.int .i64 p0_0, .int .i64 p0_1, .int .i64 p0_2, .slice a_p0_3 p0_3.length c_p0_3]⟩]]) (fun _ h => h) ?_
  refine WO_box [.int .i64 p2_0, .int .i64 p2_1, .int .i64 p2_2] rfl rfl trivial rfl rfl rfl (fun b4 => ?_)
  refine WO.cls (C' := St w0 m m [[⟨b3, 29, [.int .i64 p0_0, .int .i64 p0_1, .int .i64 p0_2, .slice a_p0_3 p0_3.length c_p0_3]⟩], [⟨b4, 68, [.int .i64 p2_0, .int .i64 p2_1, .int .i64 p2_2]⟩]]) (fun _ h => h) ?_
  refine WO_pure tbok 1 [(1, .slice a_p1 p1.length c_p1), (3, .pointer (some ⟨b3, 0, none⟩)), (5, .pointer (some ⟨b4, 0, none⟩)), (6, .bool false)] rfl ⟨rfl, rfl, rfl, rfl, trivial⟩ ?_
  refine WO_end ?_
  refine WK_seq ?_
  refine WK_seq ?_
  refine WK_region ?_
  obtain ⟨y_1, hc5, hm⟩ := bind_some hm
  refine WO_call0 (.bool y_1) rfl rfl trivial rfl rfl rfl rfl St_closed ⟨11, #[], #[], rfl, callable_11, fun w hw => ⟨_, hw.sat, fiduciallaw21_known_walk hc5⟩⟩ ?_
  refine WO_pure tbok 1 [(1, .slice a_p1 p1.length c_p1), (3, .pointer (some ⟨b3, 0, none⟩)), (5, .pointer (some ⟨b4, 0, none⟩)), (6, .bool false), (18, .bool (!y_1))] rfl ⟨rfl, rfl, rfl, rfl, rfl, trivial⟩ ?_
  refine WO_end ?_
  refine WK_cond (b := !y_1) rfl (fun hb6 => ?_) (fun hb6 => ?_)
  · have hm := ifT hb6 hm
    refine WK_seq ?_
    refine WK_region ?_
    refine WO_pure tbok 1 [(1, .slice a_p1 p1.length c_p1), (3, .pointer (some ⟨b3, 0, none⟩)), (5, .pointer (some ⟨b4, 0, none⟩)), (6, .bool false)] rfl ⟨rfl, rfl, rfl, rfl, trivial⟩ ?_
    refine WO_end ?_
    cases hm
    exact WK_ret (ret_out (L := []) (RLc_tmp rfl RLc_nil) (List.nil_sublist _) rfl)
  · have hm := ifF hb6 hm
    refine WK_skip ?_
    refine WK_seq ?_
    refine WK_seq ?_
    obtain ⟨s_2, hx7, hm⟩ := bind_some hm
    refine WK_meet [(1, .slice a_p1 p1.length c_p1), (3, .pointer (some ⟨b3, 0, none⟩)), (5, .pointer (some ⟨b4, 0, none⟩)), (6, .bool false), (27, .bool s_2)] (St w0 m m [[⟨b3, 29, [.int .i64 p0_0, .int .i64 p0_1, .int .i64 p0_2, .slice a_p0_3 p0_3.length c_p0_3]⟩], [⟨b4, 68, [.int .i64 p2_0, .int .i64 p2_1, .int .i64 p2_2]⟩]]) ?_ (fun hk8 => ?_)
    · refine WK_cond (b := s_2) rfl (fun hb9 => ?_) (fun hb9 => ?_)
      · have hm := ifT hb9 hm
        refine WK_seq ?_
        refine WK_region ?_
        refine WO_pure tbok 1 [(1, .slice a_p1 p1.length c_p1), (3, .pointer (some ⟨b3, 0, none⟩)), (5, .pointer (some ⟨b4, 0, none⟩)), (6, .bool true)] rfl ⟨rfl, rfl, rfl, rfl, trivial⟩ ?_
        refine WO_end ?_
        cases hm
        exact WK_ret (ret_out (L := []) (RLc_tmp rfl RLc_nil) (List.nil_sublist _) rfl)
      · have hm := ifF hb9 hm
        refine WK_skip ?_
        refine WK_seq ?_
        refine WK_region ?_
        refine WO_loadB tbok 0 rfl rfl rfl rfl (fun _ h => h) rfl rfl ?_
        refine WO_pure tbok 2 [(1, .slice a_p1 p1.length c_p1), (3, .pointer (some ⟨b3, 0, none⟩)), (5, .pointer (some ⟨b4, 0, none⟩)), (6, .bool false), (29, .agg #[.int .i64 p0_0, .int .i64 p0_1, .int .i64 p0_2, .slice a_p0_3 p0_3.length c_p0_3]), (30, .slice a_p1 p1.length c_p1), (31, .pointer (some ⟨b4, 0, none⟩))] rfl ⟨rfl, rfl, rfl, rfl, rfl, rfl, rfl, trivial⟩ ?_
        refine WO_loadB tbok 1 rfl rfl rfl rfl (fun _ h => h) rfl rfl ?_
        refine WO_pure tbok 1 [(1, .slice a_p1 p1.length c_p1), (3, .pointer (some ⟨b3, 0, none⟩)), (5, .pointer (some ⟨b4, 0, none⟩)), (6, .bool false), (29, .agg #[.int .i64 p0_0, .int .i64 p0_1, .int .i64 p0_2, .slice a_p0_3 p0_3.length c_p0_3]), (30, .slice a_p1 p1.length c_p1), (32, .int .i64 p2_0), (33, .pointer (some ⟨b4, 1, none⟩))] rfl ⟨rfl, rfl, rfl, rfl, rfl, rfl, rfl, rfl, trivial⟩ ?_
        refine WO_loadB tbok 1 rfl rfl rfl rfl (fun _ h => h) rfl rfl ?_
        refine WO_pure tbok 1 [(1, .slice a_p1 p1.length c_p1), (3, .pointer (some ⟨b3, 0, none⟩)), (5, .pointer (some ⟨b4, 0, none⟩)), (6, .bool false), (29, .agg #[.int .i64 p0_0, .int .i64 p0_1, .int .i64 p0_2, .slice a_p0_3 p0_3.length c_p0_3]), (30, .slice a_p1 p1.length c_p1), (32, .int .i64 p2_0), (34, .int .i64 p2_1), (35, .pointer (some ⟨b4, 2, none⟩))] rfl ⟨rfl, rfl, rfl, rfl, rfl, rfl, rfl, rfl, rfl, trivial⟩ ?_
        refine WO_loadB tbok 1 rfl rfl rfl rfl (fun _ h => h) rfl rfl ?_
        obtain ⟨⟨y_3, y_4⟩, hc10, hm⟩ := bind_some hm
        refine WO_call0 (.tuple #[.int .u64 y_3, .int .i64 y_4]) rfl rfl trivial rfl rfl rfl rfl St_closed ⟨35, #[], #[], rfl, callable_35, fun w hw => ⟨_, hw.sat, descriptor_Upright_walk h_p0_3 h_p1 hc10⟩⟩ ?_
        refine WO_pure tbok 5 [(1, .slice a_p1 p1.length c_p1), (3, .pointer (some ⟨b3, 0, none⟩)), (5, .pointer (some ⟨b4, 0, none⟩)), (6, .bool false), (7, .int .u64 y_3), (8, .int .i64 y_4)] rfl ⟨rfl, rfl, rfl, rfl, rfl, rfl, trivial⟩ ?_
        refine WO_end ?_
        refine WK_seq ?_
        refine WK_seq ?_
        refine WK_region ?_
        refine WO_loadB tbok 0 rfl rfl rfl rfl (fun _ h => h) rfl rfl ?_
        refine WO_pure tbok 1 [(1, .slice a_p1 p1.length c_p1), (3, .pointer (some ⟨b3, 0, none⟩)), (5, .pointer (some ⟨b4, 0, none⟩)), (6, .bool false), (7, .int .u64 y_3), (8, .int .i64 y_4), (40, .agg #[.int .i64 p0_0, .int .i64 p0_1, .int .i64 p0_2, .slice a_p0_3 p0_3.length c_p0_3]), (41, .slice a_p1 p1.length c_p1)] rfl ⟨rfl, rfl, rfl, rfl, rfl, rfl, rfl, rfl, trivial⟩ ?_
        obtain ⟨y_5, hc11, hm⟩ := bind_some hm
        refine WO_call0 (.int .i64 y_5) rfl rfl trivial rfl rfl rfl rfl St_closed ⟨16, #[], #[], rfl, callable_16, fun w hw => ⟨_, hw.sat, fiduciallaw21_code_walk h_p0_3 h_p1 hc11⟩⟩ ?_
        refine WO_pure tbok 1 [(1, .slice a_p1 p1.length c_p1), (3, .pointer (some ⟨b3, 0, none⟩)), (5, .pointer (some ⟨b4, 0, none⟩)), (6, .bool false), (7, .int .u64 y_3), (8, .int .i64 y_4), (9, .int .i64 y_5)] rfl ⟨rfl, rfl, rfl, rfl, rfl, rfl, rfl, trivial⟩ ?_
        refine WO_end ?_
        refine WK_seq ?_
        refine WK_region ?_
        refine WO_pure tbok 2 [(1, .slice a_p1 p1.length c_p1), (3, .pointer (some ⟨b3, 0, none⟩)), (5, .pointer (some ⟨b4, 0, none⟩)), (6, .bool false), (7, .int .u64 y_3), (8, .int .i64 y_4), (9, .int .i64 y_5), (44, .bool (y_5 != 0))] rfl ⟨rfl, rfl, rfl, rfl, rfl, rfl, rfl, rfl, trivial⟩ ?_
        refine WO_end ?_
        refine WK_cond (b := y_5 != 0) rfl (fun hb12 => ?_) (fun hb12 => ?_)
        · have hm := ifT hb12 hm
          refine WK_seq ?_
          refine WK_region ?_
          refine WO_pure tbok 4 [(1, .slice a_p1 p1.length c_p1), (3, .pointer (some ⟨b3, 0, none⟩)), (5, .pointer (some ⟨b4, 0, none⟩)), (6, .bool false), (7, .int .u64 y_3), (8, .int .i64 y_4), (48, .bool (y_4 == y_5))] rfl ⟨rfl, rfl, rfl, rfl, rfl, rfl, rfl, trivial⟩ ?_
          refine WO_split (d := 48) (b := y_4 == y_5) rfl (fun hb13 => ?_) (fun hb13 => ?_)
          · have hm := ifT hb13 hm
            refine WO_pure tbok 4 [(1, .slice a_p1 p1.length c_p1), (3, .pointer (some ⟨b3, 0, none⟩)), (5, .pointer (some ⟨b4, 0, none⟩)), (6, .bool (y_3 == 0)), (7, .int .u64 y_3), (8, .int .i64 y_4)] rfl ⟨rfl, rfl, rfl, rfl, rfl, rfl, trivial⟩ ?_
            refine WO_end ?_
            cases hm
            exact WK_ret (ret_out (L := []) (RLc_tmp rfl RLc_nil) (List.nil_sublist _) rfl)
          · have hm := ifF hb13 hm
            refine WO_pure tbok 4 [(1, .slice a_p1 p1.length c_p1), (3, .pointer (some ⟨b3, 0, none⟩)), (5, .pointer (some ⟨b4, 0, none⟩)), (6, .bool false), (7, .int .u64 y_3), (8, .int .i64 y_4)] rfl ⟨rfl, rfl, rfl, rfl, rfl, rfl, trivial⟩ ?_
            refine WO_end ?_
            cases hm
            exact WK_ret (ret_out (L := []) (RLc_tmp rfl RLc_nil) (List.nil_sublist _) rfl)
        · have hm := ifF hb12 hm
          refine WK_skip ?_
          refine WK_seq ?_
          refine WK_region ?_
          refine WO_loadB tbok 0 rfl rfl rfl rfl (fun _ h => h) rfl rfl ?_
          refine WO_pure tbok 1 [(1, .slice a_p1 p1.length c_p1), (3, .pointer (some ⟨b3, 0, none⟩)), (5, .pointer (some ⟨b4, 0, none⟩)), (6, .bool false), (7, .int .u64 y_3), (8, .int .i64 y_4), (53, .agg #[.int .i64 p0_0, .int .i64 p0_1, .int .i64 p0_2, .slice a_p0_3 p0_3.length c_p0_3]), (54, .pointer (some ⟨b4, 0, none⟩))] rfl ⟨rfl, rfl, rfl, rfl, rfl, rfl, rfl, rfl, trivial⟩ ?_
          refine WO_loadB tbok 1 rfl rfl rfl rfl (fun _ h => h) rfl rfl ?_
          refine WO_pure tbok 1 [(1, .slice a_p1 p1.length c_p1), (3, .pointer (some ⟨b3, 0, none⟩)), (5, .pointer (some ⟨b4, 0, none⟩)), (6, .bool false), (7, .int .u64 y_3), (8, .int .i64 y_4), (53, .agg #[.int .i64 p0_0, .int .i64 p0_1, .int .i64 p0_2, .slice a_p0_3 p0_3.length c_p0_3]), (55, .int .i64 p2_0), (56, .pointer (some ⟨b4, 1, none⟩))] rfl ⟨rfl, rfl, rfl, rfl, rfl, rfl, rfl, rfl, rfl, trivial⟩ ?_
          refine WO_loadB tbok 1 rfl rfl rfl rfl (fun _ h => h) rfl rfl ?_
          refine WO_pure tbok 1 [(1, .slice a_p1 p1.length c_p1), (3, .pointer (some ⟨b3, 0, none⟩)), (5, .pointer (some ⟨b4, 0, none⟩)), (6, .bool false), (7, .int .u64 y_3), (8, .int .i64 y_4), (53, .agg #[.int .i64 p0_0, .int .i64 p0_1, .int .i64 p0_2, .slice a_p0_3 p0_3.length c_p0_3]), (55, .int .i64 p2_0), (57, .int .i64 p2_1), (58, .pointer (some ⟨b4, 2, none⟩))] rfl ⟨rfl, rfl, rfl, rfl, rfl, rfl, rfl, rfl, rfl, rfl, trivial⟩ ?_
          refine WO_loadB tbok 1 rfl rfl rfl rfl (fun _ h => h) rfl rfl ?_
          obtain ⟨⟨y_6, y_7⟩, hc14, hm⟩ := bind_some hm
          refine WO_call0 (.tuple #[.int .i64 y_6, .int .i64 y_7]) rfl rfl trivial rfl rfl rfl rfl St_closed ⟨34, #[], #[], rfl, callable_34, fun w hw => ⟨_, hw.sat, fiduciallaw21_quarter_walk h_p0_3 hc14⟩⟩ ?_
          refine WO_pure tbok 5 [(1, .slice a_p1 p1.length c_p1), (3, .pointer (some ⟨b3, 0, none⟩)), (5, .pointer (some ⟨b4, 0, none⟩)), (6, .bool false), (7, .int .u64 y_3), (8, .int .i64 y_4), (10, .int .i64 y_6), (11, .int .i64 y_7)] rfl ⟨rfl, rfl, rfl, rfl, rfl, rfl, rfl, rfl, trivial⟩ ?_
          refine WO_end ?_
          refine WK_seq ?_
          refine WK_seq ?_
          refine WK_region ?_
          refine WO_pure tbok 2 [(1, .slice a_p1 p1.length c_p1), (3, .pointer (some ⟨b3, 0, none⟩)), (5, .pointer (some ⟨b4, 0, none⟩)), (6, .bool false), (7, .int .u64 y_3), (8, .int .i64 y_4), (10, .int .i64 y_6), (11, .int .i64 y_7), (64, .bool (y_7 != 0))] rfl ⟨rfl, rfl, rfl, rfl, rfl, rfl, rfl, rfl, rfl, trivial⟩ ?_
          refine WO_end ?_
          refine WK_cond (b := y_7 != 0) rfl (fun hb15 => ?_) (fun hb15 => ?_)
          · have hm := ifT hb15 hm
            refine WK_seq ?_
            refine WK_region ?_
            refine WO_pure tbok 4 [(1, .slice a_p1 p1.length c_p1), (3, .pointer (some ⟨b3, 0, none⟩)), (5, .pointer (some ⟨b4, 0, none⟩)), (6, .bool false), (7, .int .u64 y_3), (8, .int .i64 y_4), (10, .int .i64 y_6), (68, .bool (y_4 == y_7))] rfl ⟨rfl, rfl, rfl, rfl, rfl, rfl, rfl, rfl, trivial⟩ ?_
            refine WO_split (d := 68) (b := y_4 == y_7) rfl (fun hb16 => ?_) (fun hb16 => ?_)
            · have hm := ifT hb16 hm
              refine WO_pure tbok 4 [(1, .slice a_p1 p1.length c_p1), (3, .pointer (some ⟨b3, 0, none⟩)), (5, .pointer (some ⟨b4, 0, none⟩)), (6, .bool (y_3 == 0)), (7, .int .u64 y_3), (8, .int .i64 y_4), (10, .int .i64 y_6)] rfl ⟨rfl, rfl, rfl, rfl, rfl, rfl, rfl, trivial⟩ ?_
              refine WO_end ?_
              cases hm
              exact WK_ret (ret_out (L := []) (RLc_tmp rfl RLc_nil) (List.nil_sublist _) rfl)
            · have hm := ifF hb16 hm
              refine WO_pure tbok 4 [(1, .slice a_p1 p1.length c_p1), (3, .pointer (some ⟨b3, 0, none⟩)), (5, .pointer (some ⟨b4, 0, none⟩)), (6, .bool false), (7, .int .u64 y_3), (8, .int .i64 y_4), (10, .int .i64 y_6)] rfl ⟨rfl, rfl, rfl, rfl, rfl, rfl, rfl, trivial⟩ ?_
              refine WO_end ?_
              cases hm
              exact WK_ret (ret_out (L := []) (RLc_tmp rfl RLc_nil) (List.nil_sublist _) rfl)
          · have hm := ifF hb15 hm
            refine WK_skip ?_
            refine WK_seq ?_
            refine WK_region ?_
            refine WO_pure tbok 2 [(1, .slice a_p1 p1.length c_p1), (3, .pointer (some ⟨b3, 0, none⟩)), (5, .pointer (some ⟨b4, 0, none⟩)), (6, .bool false), (7, .int .u64 y_3), (8, .int .i64 y_4), (10, .int .i64 y_6), (12, .slice a_p1 p1.length c_p1)] rfl ⟨rfl, rfl, rfl, rfl, rfl, rfl, rfl, rfl, trivial⟩ ?_
            refine WO_end ?_
            refine WK_seq ?_
            refine WK_seq ?_
            refine WK_region ?_
            refine WO_pure tbok 2 [(1, .slice a_p1 p1.length c_p1), (3, .pointer (some ⟨b3, 0, none⟩)), (5, .pointer (some ⟨b4, 0, none⟩)), (6, .bool false), (7, .int .u64 y_3), (8, .int .i64 y_4), (12, .slice a_p1 p1.length c_p1), (73, .int .i64 y_6), (74, .int .i64 0)] rfl ⟨rfl, rfl, rfl, rfl, rfl, rfl, rfl, rfl, rfl, trivial⟩ ?_
            refine WO_end ?_
            obtain ⟨x31, hx32, hm⟩ := bind_some hm
            refine WK_join (β := (List (Int × Int × Int × Int × Int × Int × Int × Int)) × (Mu × Option Addr × Nat × Nat)) (fun p => p.1 = x31 ∧ Le m p.2.1 ∧ SlR (FE T8) 8 p.2.1 (.slice p.2.2.1 p.2.2.2.1 p.2.2.2.2) p.1) (fun p => [(1, .slice a_p1 p1.length c_p1), (3, .pointer (some ⟨b3, 0, none⟩)), (5, .pointer (some ⟨b4, 0, none⟩)), (6, .bool false), (7, .int .u64 y_3), (8, .int .i64 y_4), (12, .slice p.2.2.1 p.2.2.2.1 p.2.2.2.2)]) (fun p => St w0 m p.2.1 [[⟨b3, 29, [.int .i64 p0_0, .int .i64 p0_1, .int .i64 p0_2, .slice a_p0_3 p0_3.length c_p0_3]⟩], [⟨b4, 68, [.int .i64 p2_0, .int .i64 p2_1, .int .i64 p2_2]⟩]]) ?_ (fun hk33 => ?_)
            · rintro ⟨l_10, ⟨m24, a26, q27, c28⟩⟩ ⟨hq39, hle25, h29⟩
              subst hq39
              have hqq : q27 = l_10.length := SlR.qlen h29
              subst hqq
              refine WK.sub (e' := [(1, .slice a_p1 p1.length c_p1), (3, .pointer (some ⟨b3, 0, none⟩)), (5, .pointer (some ⟨b4, 0, none⟩)), (6, .bool false), (7, .int .u64 y_3), (8, .int .i64 y_4), (12, .slice a26 ((l_10).length) c28)]) ⟨rfl, rfl, rfl, rfl, rfl, rfl, rfl, trivial⟩ (WK.cls (C' := St w0 m m24 [[⟨b3, 29, [.int .i64 p0_0, .int .i64 p0_1, .int .i64 p0_2, .slice a_p0_3 p0_3.length c_p0_3]⟩], [⟨b4, 68, [.int .i64 p2_0, .int .i64 p2_1, .int .i64 p2_2]⟩]]) (fun _ h => h) ?_)
              refine WK_seq ?_
              refine WK_region ?_
              refine WO_loadB tbok 0 rfl rfl rfl rfl (fun _ h => h) rfl rfl ?_
              refine WO_pure tbok 2 [(1, .slice a_p1 p1.length c_p1), (3, .pointer (some ⟨b3, 0, none⟩)), (5, .pointer (some ⟨b4, 0, none⟩)), (6, .bool false), (7, .int .u64 y_3), (8, .int .i64 y_4), (80, .agg #[.int .i64 p0_0, .int .i64 p0_1, .int .i64 p0_2, .slice a_p0_3 p0_3.length c_p0_3]), (81, .slice a26 ((l_10).length) c28), (82, .pointer (some ⟨b4, 0, none⟩))] rfl ⟨rfl, rfl, rfl, rfl, rfl, rfl, rfl, rfl, rfl, trivial⟩ ?_
              refine WO_loadB tbok 1 rfl rfl rfl rfl (fun _ h => h) rfl rfl ?_
              refine WO_pure tbok 1 [(1, .slice a_p1 p1.length c_p1), (3, .pointer (some ⟨b3, 0, none⟩)), (5, .pointer (some ⟨b4, 0, none⟩)), (6, .bool false), (7, .int .u64 y_3), (8, .int .i64 y_4), (80, .agg #[.int .i64 p0_0, .int .i64 p0_1, .int .i64 p0_2, .slice a_p0_3 p0_3.length c_p0_3]), (81, .slice a26 ((l_10).length) c28), (83, .int .i64 p2_0), (84, .pointer (some ⟨b4, 1, none⟩))] rfl ⟨rfl, rfl, rfl, rfl, rfl, rfl, rfl, rfl, rfl, rfl, trivial⟩ ?_
              refine WO_loadB tbok 1 rfl rfl rfl rfl (fun _ h => h) rfl rfl ?_
              obtain ⟨⟨y_11, y_12⟩, hc40, hm⟩ := bind_some hm
              refine WO_call0 (.tuple #[.int .u64 y_11, .bool y_12]) rfl rfl trivial rfl rfl rfl rfl St_closed ⟨18, #[], #[], rfl, callable_18, fun w hw => ⟨_, hw.sat, fiduciallaw21_word_walk (h_p0_3.mono (mono_FE _) hle25) h29 hc40⟩⟩ ?_
              refine WO_pure tbok 5 [(1, .slice a_p1 p1.length c_p1), (3, .pointer (some ⟨b3, 0, none⟩)), (5, .pointer (some ⟨b4, 0, none⟩)), (6, .bool false), (7, .int .u64 y_3), (8, .int .i64 y_4), (13, .int .u64 y_11), (14, .bool y_12)] rfl ⟨rfl, rfl, rfl, rfl, rfl, rfl, rfl, rfl, trivial⟩ ?_
              refine WO_end ?_
              refine WK_seq ?_
              refine WK_seq ?_
              refine WK_region ?_
              refine WO_pure tbok 2 [(1, .slice a_p1 p1.length c_p1), (3, .pointer (some ⟨b3, 0, none⟩)), (5, .pointer (some ⟨b4, 0, none⟩)), (6, .bool false), (7, .int .u64 y_3), (8, .int .i64 y_4), (13, .int .u64 y_11), (90, .bool (!y_12))] rfl ⟨rfl, rfl, rfl, rfl, rfl, rfl, rfl, rfl, trivial⟩ ?_
              refine WO_end ?_
              refine WK_cond (b := !y_12) rfl (fun hb41 => ?_) (fun hb41 => ?_)
              · have hm := ifT hb41 hm
                refine WK_seq ?_
                refine WK_region ?_
                refine WO_pure tbok 3 [(1, .slice a_p1 p1.length c_p1), (3, .pointer (some ⟨b3, 0, none⟩)), (5, .pointer (some ⟨b4, 0, none⟩)), (6, .bool false), (7, .int .u64 y_3), (8, .int .i64 y_4), (13, .int .u64 y_11), (93, .bool (y_4 == 15))] rfl ⟨rfl, rfl, rfl, rfl, rfl, rfl, rfl, rfl, trivial⟩ ?_
                refine WO_split (d := 93) (b := y_4 == 15) rfl (fun hb42 => ?_) (fun hb42 => ?_)
                · have hm := ifT hb42 hm
                  refine WO_pure tbok 4 [(1, .slice a_p1 p1.length c_p1), (3, .pointer (some ⟨b3, 0, none⟩)), (5, .pointer (some ⟨b4, 0, none⟩)), (6, .bool (y_3 == 0)), (7, .int .u64 y_3), (8, .int .i64 y_4), (13, .int .u64 y_11)] rfl ⟨rfl, rfl, rfl, rfl, rfl, rfl, rfl, trivial⟩ ?_
                  refine WO_end ?_
                  cases hm
                  exact WK_ret (ret_out (L := []) (RLc_tmp rfl RLc_nil) (List.nil_sublist _) rfl)
                · have hm := ifF hb42 hm
                  refine WO_pure tbok 4 [(1, .slice a_p1 p1.length c_p1), (3, .pointer (some ⟨b3, 0, none⟩)), (5, .pointer (some ⟨b4, 0, none⟩)), (6, .bool false), (7, .int .u64 y_3), (8, .int .i64 y_4), (13, .int .u64 y_11)] rfl ⟨rfl, rfl, rfl, rfl, rfl, rfl, rfl, trivial⟩ ?_
                  refine WO_end ?_
                  cases hm
                  exact WK_ret (ret_out (L := []) (RLc_tmp rfl RLc_nil) (List.nil_sublist _) rfl)
              · have hm := ifF hb41 hm
                refine WK_skip ?_
                refine WK_seq ?_
                refine WK_draw 19 [0, 2, 3, 4, 5, 6, 7, 8, 9, 10, 11, 12, 1, 13, 14, 15, 16, 17, 18] follows_ok (by kernel_rfl) St_closed ?_
                refine WO_loadB tbok 0 rfl rfl rfl rfl (fun _ h => h) rfl rfl ?_
                refine WO_pure tbok 2 [(3, .pointer (some ⟨b3, 0, none⟩)), (5, .pointer (some ⟨b4, 0, none⟩)), (6, .bool false), (7, .int .u64 y_3), (8, .int .i64 y_4), (13, .int .u64 y_11), (98, .agg #[.int .i64 p0_0, .int .i64 p0_1, .int .i64 p0_2, .slice a_p0_3 p0_3.length c_p0_3]), (100, .slice a_p1 p1.length c_p1), (101, .pointer (some ⟨b4, 1, none⟩))] rfl ⟨rfl, rfl, rfl, rfl, rfl, rfl, rfl, rfl, rfl, trivial⟩ ?_
                refine WO_loadB tbok 1 rfl rfl rfl rfl (fun _ h => h) rfl rfl ?_
                refine WO_pure tbok 1 [(5, .pointer (some ⟨b4, 0, none⟩)), (6, .bool false), (7, .int .u64 y_3), (8, .int .i64 y_4), (13, .int .u64 y_11), (98, .agg #[.int .i64 p0_0, .int .i64 p0_1, .int .i64 p0_2, .slice a_p0_3 p0_3.length c_p0_3]), (100, .slice a_p1 p1.length c_p1), (102, .int .i64 p2_1), (103, .pointer (some ⟨b3, 0, none⟩))] rfl ⟨rfl, rfl, rfl, rfl, rfl, rfl, rfl, rfl, rfl, trivial⟩ ?_
                refine WO_loadB tbok 0 rfl rfl rfl rfl (fun _ h => h) rfl rfl ?_
                refine WO_pure tbok 2 [(5, .pointer (some ⟨b4, 0, none⟩)), (6, .bool false), (7, .int .u64 y_3), (8, .int .i64 y_4), (13, .int .u64 y_11), (98, .agg #[.int .i64 p0_0, .int .i64 p0_1, .int .i64 p0_2, .slice a_p0_3 p0_3.length c_p0_3]), (100, .slice a_p1 p1.length c_p1), (102, .int .i64 p2_1), (105, .int .i64 (w64 (p0_0 - 1))), (106, .pointer (some ⟨b4, 0, none⟩))] rfl ⟨rfl, rfl, rfl, rfl, rfl, rfl, rfl, rfl, rfl, rfl, trivial⟩ ?_
                refine WO_loadB tbok 1 rfl rfl rfl rfl (fun _ h => h) rfl rfl ?_
                refine WO_pure tbok 2 [(6, .bool false), (7, .int .u64 y_3), (8, .int .i64 y_4), (13, .int .u64 y_11), (98, .agg #[.int .i64 p0_0, .int .i64 p0_1, .int .i64 p0_2, .slice a_p0_3 p0_3.length c_p0_3]), (100, .slice a_p1 p1.length c_p1), (102, .int .i64 p2_1), (108, .int .i64 (w64 ((w64 (p0_0 - 1)) - p2_0))), (109, .pointer (some ⟨b4, 2, none⟩))] rfl ⟨rfl, rfl, rfl, rfl, rfl, rfl, rfl, rfl, rfl, trivial⟩ ?_
                refine WO_loadB tbok 1 rfl rfl rfl rfl (fun _ h => h) rfl rfl ?_
                obtain ⟨⟨y_13, y_14, y_15, y_16⟩, hc43, hm⟩ := bind_some hm
                refine WO_call1 (fiducialref13_Turn_Q (y_13, y_14, y_15, y_16)) rfl rfl St_closed rfl rfl rfl rfl ⟨26, #[], #[], rfl, callable_26, fun w hw => ⟨_, hw.sat, fiducialref13_Turn_walk (h_p0_3.mono (mono_FE _) hle25) hc43⟩⟩ (fun v48 L47 hq => ?_)
                obtain ⟨a44, qa44, c45, rfl, hL47⟩ := hq
                obtain rfl := OwnE.qlen hL47
                refine WO.cls (C' := St w0 m m24 [[⟨b3, 29, [.int .i64 p0_0, .int .i64 p0_1, .int .i64 p0_2, .slice a_p0_3 p0_3.length c_p0_3]⟩], [⟨b4, 68, [.int .i64 p2_0, .int .i64 p2_1, .int .i64 p2_2]⟩], L47]) (fun _ h => h) ?_
                obtain ⟨⟨y_17, y_18⟩, hc49, hm⟩ := bind_some hm
                refine WO_call0 (.tuple #[.int .u64 y_17, .int .i64 y_18]) rfl rfl St_closed rfl rfl rfl rfl St_closed ⟨35, #[], #[], rfl, callable_35, fun w hw => ⟨_, hw.satV, descriptor_Upright_walk (OwnE.rd (E := (I1 .i64)) (k := 1) (fun _ => rfl) hL47 (fun _ hx => hw.memV (i := 2) rfl hx)) ((h_p1.mono (mono_FE _) hle25).mono (mono_FE _) hw.leV) hc49⟩⟩ ?_
                refine WO_pure tbok 5 [(6, .bool false), (7, .int .u64 y_3), (8, .int .i64 y_4), (13, .int .u64 y_11), (15, .int .u64 y_17), (16, .int .i64 y_18)] rfl ⟨rfl, rfl, rfl, rfl, rfl, rfl, trivial⟩ ?_
                refine WO_tail ?_
                refine WO_end ?_
                refine WK_seq ?_
                refine WK_region ?_
                refine WO_pure tbok 3 [(6, .bool false), (7, .int .u64 y_3), (13, .int .u64 y_11), (15, .int .u64 y_17), (16, .int .i64 y_18), (116, .bool (y_4 == 0))] rfl ⟨rfl, rfl, rfl, rfl, rfl, rfl, trivial⟩ ?_
                refine WO_split (d := 116) (b := y_4 == 0) rfl (fun hb50 => ?_) (fun hb50 => ?_)
                · have hm := ifT hb50 hm
                  refine WO_pure tbok 5 [(6, .bool false), (7, .int .u64 y_3), (15, .int .u64 y_17), (16, .int .i64 y_18), (121, .bool (y_3 == y_11))] rfl ⟨rfl, rfl, rfl, rfl, rfl, trivial⟩ ?_
                  refine WO_split (d := 121) (b := y_3 == y_11) rfl (fun hb51 => ?_) (fun hb51 => ?_)
                  · have hm := ifT hb51 hm
                    refine WO_pure tbok 4 [(6, .bool false), (7, .int .u64 y_3), (15, .int .u64 y_17), (125, .bool (y_18 == 0))] rfl ⟨rfl, rfl, rfl, rfl, trivial⟩ ?_
                    refine WO_split (d := 125) (b := y_18 == 0) rfl (fun hb52 => ?_) (fun hb52 => ?_)
                    · have hm := ifT hb52 hm
                      refine WO_pure tbok 5 [(6, .bool (y_17 == y_3))] rfl ⟨rfl, trivial⟩ ?_
                      refine WO_end ?_
                      cases hm
                      exact WK_ret (ret_out (L := []) (RLc_tmp rfl RLc_nil) (List.nil_sublist _) rfl)
                    · have hm := ifF hb52 hm
                      refine WO_pure tbok 5 [(6, .bool false)] rfl ⟨rfl, trivial⟩ ?_
                      refine WO_end ?_
                      cases hm
                      exact WK_ret (ret_out (L := []) (RLc_tmp rfl RLc_nil) (List.nil_sublist _) rfl)
                  · have hm := ifF hb51 hm
                    refine WO_pure tbok 9 [(6, .bool false)] rfl ⟨rfl, trivial⟩ ?_
                    refine WO_end ?_
                    cases hm
                    exact WK_ret (ret_out (L := []) (RLc_tmp rfl RLc_nil) (List.nil_sublist _) rfl)
                · have hm := ifF hb50 hm
                  refine WO_pure tbok 14 [(6, .bool false)] rfl ⟨rfl, trivial⟩ ?_
                  refine WO_end ?_
                  cases hm
                  exact WK_ret (ret_out (L := []) (RLc_tmp rfl RLc_nil) (List.nil_sublist _) rfl)
            · refine WK_block ?_
              refine WK_loop (S := List (Int × Int × Int × Int × Int × Int × Int × Int) × Int) (G := Mu × Option Addr × Nat × Nat) (fun s => fiduciallaw21_DescriptorUpright_s1 y_6 s.1 s.2) (fun s g => [(1, .slice a_p1 p1.length c_p1), (3, .pointer (some ⟨b3, 0, none⟩)), (5, .pointer (some ⟨b4, 0, none⟩)), (6, .bool false), (7, .int .u64 y_3), (8, .int .i64 y_4), (12, .slice g.2.1 g.2.2.1 g.2.2.2), (73, .int .i64 y_6), (74, .int .i64 s.2)]) (fun s g => St w0 m g.1 [[⟨b3, 29, [.int .i64 p0_0, .int .i64 p0_1, .int .i64 p0_2, .slice a_p0_3 p0_3.length c_p0_3]⟩], [⟨b4, 68, [.int .i64 p2_0, .int .i64 p2_1, .int .i64 p2_2]⟩]]) (fun s g => Le m g.1 ∧ SlR (FE T8) 8 g.1 (.slice g.2.1 g.2.2.1 g.2.2.2) s.1) FUEL (p1, 0) (m, a_p1, p1.length, c_p1) x31 hx32 ⟨(Le.refl _), h_p1⟩ ⟨rfl, rfl, rfl, rfl, rfl, rfl, rfl, rfl, rfl, trivial⟩ (fun _ h => h) ?_
              rintro ⟨l_8, s_9⟩ ⟨m17, a19, q20, c21⟩ o35 fl36 hm34 ⟨hle18, h22⟩ hn37 hd38
              have hm34 : fiduciallaw21_DescriptorUpright_s1 y_6 l_8 s_9 = some o35 := hm34
              unfold fiduciallaw21_DescriptorUpright_s1 at hm34
              have hqq : q20 = l_8.length := SlR.qlen h22
              subst hqq
              refine WK.sub (e' := [(1, .slice a_p1 p1.length c_p1), (3, .pointer (some ⟨b3, 0, none⟩)), (5, .pointer (some ⟨b4, 0, none⟩)), (6, .bool false), (7, .int .u64 y_3), (8, .int .i64 y_4), (12, .slice a19 ((l_8).length) c21), (73, .int .i64 y_6), (74, .int .i64 s_9)]) ⟨rfl, rfl, rfl, rfl, rfl, rfl, rfl, rfl, rfl, trivial⟩ (WK.cls (C' := St w0 m m17 [[⟨b3, 29, [.int .i64 p0_0, .int .i64 p0_1, .int .i64 p0_2, .slice a_p0_3 p0_3.length c_p0_3]⟩], [⟨b4, 68, [.int .i64 p2_0, .int .i64 p2_1, .int .i64 p2_2]⟩]]) (fun _ h => h) ?_)
              refine WK_seq ?_
              refine WK_region ?_
              refine WO_pure tbok 1 [(1, .slice a_p1 p1.length c_p1), (3, .pointer (some ⟨b3, 0, none⟩)), (5, .pointer (some ⟨b4, 0, none⟩)), (6, .bool false), (7, .int .u64 y_3), (8, .int .i64 y_4), (12, .slice a19 ((l_8).length) c21), (73, .int .i64 y_6), (74, .int .i64 s_9), (75, .bool (decide (s_9 < y_6)))] rfl ⟨rfl, rfl, rfl, rfl, rfl, rfl, rfl, rfl, rfl, rfl, trivial⟩ ?_
              refine WO_end ?_
              refine WK_seq ?_
              refine WK_cond (b := decide (s_9 < y_6)) rfl (fun hb53 => ?_) (fun hb53 => ?_)
              · have hm34 := ifT hb53 hm34
                refine WK_skip ?_
                refine WK_seq ?_
                refine WK_block ?_
                refine WK_region ?_
                refine WO_pure tbok 1 [(1, .slice a_p1 p1.length c_p1), (3, .pointer (some ⟨b3, 0, none⟩)), (5, .pointer (some ⟨b4, 0, none⟩)), (6, .bool false), (7, .int .u64 y_3), (8, .int .i64 y_4), (12, .slice a19 ((l_8).length) c21), (73, .int .i64 y_6), (74, .int .i64 s_9), (76, .slice a19 ((l_8).length) c21)] rfl ⟨rfl, rfl, rfl, rfl, rfl, rfl, rfl, rfl, rfl, rfl, trivial⟩ ?_
                obtain ⟨y_19, hc54, hm34⟩ := bind_some hm34
                refine WO_call1 (fiduciallaw21_turned_Q y_19) rfl rfl trivial rfl rfl rfl rfl ⟨24, #[], #[], rfl, callable_24, fun w hw => ⟨_, hw.sat, fiduciallaw21_turned_walk h22 hc54⟩⟩ (fun v59 L58 hq => ?_)
                obtain ⟨a55, qa55, c56, rfl, hL58⟩ := hq
                obtain rfl := OwnE.qlen hL58
                refine WO.cls (C' := St w0 m m17 [[⟨b3, 29, [.int .i64 p0_0, .int .i64 p0_1, .int .i64 p0_2, .slice a_p0_3 p0_3.length c_p0_3]⟩], [⟨b4, 68, [.int .i64 p2_0, .int .i64 p2_1, .int .i64 p2_2]⟩], L58]) (fun _ h => h) ?_
                refine WO_pure tbok 1 [(1, .slice a_p1 p1.length c_p1), (3, .pointer (some ⟨b3, 0, none⟩)), (5, .pointer (some ⟨b4, 0, none⟩)), (6, .bool false), (7, .int .u64 y_3), (8, .int .i64 y_4), (12, .slice a55 ((y_19).length) c56), (73, .int .i64 y_6), (74, .int .i64 s_9)] rfl ⟨rfl, rfl, rfl, rfl, rfl, rfl, rfl, rfl, rfl, trivial⟩ ?_
                refine WO_end ?_
                refine WK_blk ?_
                refine WK_region ?_
                refine WO_pure tbok 2 [(1, .slice a_p1 p1.length c_p1), (3, .pointer (some ⟨b3, 0, none⟩)), (5, .pointer (some ⟨b4, 0, none⟩)), (6, .bool false), (7, .int .u64 y_3), (8, .int .i64 y_4), (12, .slice a55 ((y_19).length) c56), (73, .int .i64 y_6), (74, .int .i64 (w64 (s_9 + 1)))] rfl ⟨rfl, rfl, rfl, rfl, rfl, rfl, rfl, rfl, rfl, trivial⟩ ?_
                refine WO_end ?_
                refine WK_freeze 2 rfl (fun m60 hle61 hmm62 => ?_)
                refine WK.cls (C' := St w0 m m60 [[⟨b3, 29, [.int .i64 p0_0, .int .i64 p0_1, .int .i64 p0_2, .slice a_p0_3 p0_3.length c_p0_3]⟩], [⟨b4, 68, [.int .i64 p2_0, .int .i64 p2_1, .int .i64 p2_2]⟩], []]) (fun _ h => h) ?_
                cases hm34
                refine WK.sub ?_ (WK.cls (fun _ h => St.take 2 h) (hn37 _ (m60, a55, (y_19).length, c56) rfl ⟨(hle18.trans hle61), (OwnE.rd (E := T8) (k := 8) (fun _ => rfl) hL58 hmm62)⟩))
                exact ⟨rfl, rfl, rfl, rfl, rfl, rfl, rfl, rfl, rfl, trivial⟩
              · have hm34 := ifF hb53 hm34
                refine WK_exit rfl ?_
                cases hm34
                refine WK.sub ?_ (WK.cls (fun _ h => h) (hk33 (l_8, (m17, a19, (l_8).length, c21)) ⟨(hd38 _ rfl), hle18, h22⟩))
                exact ⟨rfl, rfl, rfl, rfl, rfl, rfl, rfl, trivial⟩
    · refine WK_region ?_
      refine WO_loadB tbok 0 rfl rfl rfl rfl (fun _ h => h) rfl rfl ?_
      refine WO_pure tbok 1 [(1, .slice a_p1 p1.length c_p1), (3, .pointer (some ⟨b3, 0, none⟩)), (5, .pointer (some ⟨b4, 0, none⟩)), (6, .bool false), (19, .agg #[.int .i64 p0_0, .int .i64 p0_1, .int .i64 p0_2, .slice a_p0_3 p0_3.length c_p0_3]), (20, .slice a_p1 p1.length c_p1)] rfl ⟨rfl, rfl, rfl, rfl, rfl, rfl, trivial⟩ ?_
      obtain ⟨y_20, hc63, hx7⟩ := bind_some hx7
      refine WO_call0 (.bool y_20) rfl rfl trivial rfl rfl rfl rfl St_closed ⟨14, #[], #[], rfl, callable_14, fun w hw => ⟨_, hw.sat, fiduciallaw21_few_walk h_p0_3 h_p1 hc63⟩⟩ ?_
      refine WO_pure tbok 2 [(1, .slice a_p1 p1.length c_p1), (3, .pointer (some ⟨b3, 0, none⟩)), (5, .pointer (some ⟨b4, 0, none⟩)), (6, .bool false), (23, .bool (!y_20))] rfl ⟨rfl, rfl, rfl, rfl, rfl, trivial⟩ ?_
      refine WO_split (d := 23) (b := !y_20) rfl (fun hb64 => ?_) (fun hb64 => ?_)
      · have hx7 := ifT hb64 hx7
        refine WO_pure tbok 4 [(1, .slice a_p1 p1.length c_p1), (3, .pointer (some ⟨b3, 0, none⟩)), (5, .pointer (some ⟨b4, 0, none⟩)), (6, .bool false), (27, .bool true)] rfl ⟨rfl, rfl, rfl, rfl, rfl, trivial⟩ ?_
        refine WO_end ?_
        cases hx7
        refine WK.sub ?_ (WK.cls (fun _ h => h) hk8)
        exact ⟨rfl, rfl, rfl, rfl, rfl, trivial⟩
      · have hx7 := ifF hb64 hx7
        refine WO_pure tbok 4 [(1, .slice a_p1 p1.length c_p1), (3, .pointer (some ⟨b3, 0, none⟩)), (5, .pointer (some ⟨b4, 0, none⟩)), (6, .bool false), (27, .bool (decide (20 < (p1.length : Int))))] rfl ⟨rfl, rfl, rfl, rfl, rfl, trivial⟩ ?_
        refine WO_end ?_
        cases hx7
        refine WK.sub ?_ (WK.cls (fun _ h => h) hk8)
        exact ⟨rfl, rfl, rfl, rfl, rfl, trivial⟩
end Go.Proofs.Ytdgmeplpkehdnaa
