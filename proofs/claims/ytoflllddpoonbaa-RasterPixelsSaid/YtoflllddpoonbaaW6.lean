import Derived.Test.YtoflllddpoonbaaTab
import Derived.Test.YtoflllddpoonbaaM
import Derived.Test.YtoflllddpoonbaaW5
set_option linter.unusedVariables false
set_option maxRecDepth 100000
set_option maxHeartbeats 4000000
namespace Go.Proofs.Ytoflllddpoonbaa
open Go.E Go.RowKit
attribute [local irreducible] Go.E.WO Go.E.WK
theorem fiduciallaw13_RasterPixels_walk {m : Mu} {p0_0 : Int} {p0_1 : Int} {p0_2 : Int} {p0_3 : List Int} {p1_0 : Int} {p1_1 : Int} {p2 : Int} {a_p0_3 : Option Addr} {q_p0_3 c_p0_3 : Nat} (h_p0_3 : SlR (FE (I1 .i64)) 1 m (.slice a_p0_3 q_p0_3 c_p0_3) p0_3) {r : Bool} (hm : fiduciallaw13_RasterPixels p0_0 p0_1 p0_2 p0_3 p1_0 p1_1 p2 = some r) :
    Go.E.Spec Try.prog 10 [.agg #[.int .i64 p0_0, .int .i64 p0_1, .int .i64 p0_2, .slice a_p0_3 q_p0_3 c_p0_3], .agg #[.int .i64 p1_0, .int .i64 p1_1], .int .i64 p2] m (fun v _ _ => v = .bool r) := by
  refine Spec_enter Try.func10 rfl rfl rfl (fun w0 => ?_)
  refine WK.sub (e' := [(0, .agg #[.int .i64 p0_0, .int .i64 p0_1, .int .i64 p0_2, .slice a_p0_3 q_p0_3 c_p0_3]), (1, .agg #[.int .i64 p1_0, .int .i64 p1_1]), (2, .int .i64 p2)]) ⟨rfl, rfl, rfl, trivial⟩ ?_
  obtain rfl := SlR.qlen h_p0_3
  refine WK.sub (e' := [(0, .agg #[.int .i64 p0_0, .int .i64 p0_1, .int .i64 p0_2, .slice a_p0_3 p0_3.length c_p0_3]), (1, .agg #[.int .i64 p1_0, .int .i64 p1_1]), (2, .int .i64 p2)]) ⟨rfl, rfl, rfl, trivial⟩ ?_
  unfold fiduciallaw13_RasterPixels at hm
  refine WK_seq ?_
  refine WK_region ?_
  refine WO_box [.int .i64 p0_0, .int .i64 p0_1, .int .i64 p0_2, .slice a_p0_3 p0_3.length c_p0_3] rfl rfl trivial rfl rfl rfl (fun b2 => ?_)
  refine WO.cls (C' := St w0 m m [[⟨b2, 24, [.int .i64 p0_0, .int .i64 p0_1, .int .i64 p0_2, .slice a_p0_3 p0_3.length c_p0_3]⟩]]) (fun _ h => h) ?_
  refine WO_box [.int .i64 p1_0, .int .i64 p1_1] rfl rfl trivial rfl rfl rfl (fun b3 => ?_)
  refine WO.cls (C' := St w0 m m [[⟨b2, 24, [.int .i64 p0_0, .int .i64 p0_1, .int .i64 p0_2, .slice a_p0_3 p0_3.length c_p0_3]⟩], [⟨b3, 58, [.int .i64 p1_0, .int .i64 p1_1]⟩]]) (fun _ h => h) ?_
  refine WO_pure tbok 1 [(2, .int .i64 p2), (3, .pointer (some ⟨b2, 0, none⟩)), (4, .pointer (some ⟨b3, 0, none⟩)), (6, .bool false)] rfl ⟨rfl, rfl, rfl, rfl, trivial⟩ ?_
  refine WO_end ?_
  refine WK_seq ?_
  refine WK_seq ?_
  refine WK_region ?_
  obtain ⟨y4, hc5, hm⟩ := bind_some hm
  refine WO_call0 (.bool y4) rfl rfl trivial rfl rfl rfl rfl St_closed ⟨11, #[], #[], rfl, callable_11, fun w hw => ⟨_, hw.sat, fiduciallaw13_known_walk hc5⟩⟩ ?_
  refine WO_pure tbok 1 [(2, .int .i64 p2), (3, .pointer (some ⟨b2, 0, none⟩)), (4, .pointer (some ⟨b3, 0, none⟩)), (6, .bool false), (13, .bool (!y4))] rfl ⟨rfl, rfl, rfl, rfl, rfl, trivial⟩ ?_
  refine WO_end ?_
  refine WK_cond (b := !y4) rfl (fun hb6 => ?_) (fun hb6 => ?_)
  · have hm := ifT hb6 hm
    refine WK_seq ?_
    refine WK_region ?_
    refine WO_pure tbok 1 [(2, .int .i64 p2), (3, .pointer (some ⟨b2, 0, none⟩)), (4, .pointer (some ⟨b3, 0, none⟩)), (6, .bool false)] rfl ⟨rfl, rfl, rfl, rfl, trivial⟩ ?_
    refine WO_end ?_
    cases hm
    exact WK_ret (ret_out (L := []) (RLc_tmp rfl RLc_nil) (List.nil_sublist _) rfl)
  · have hm := ifF hb6 hm
    refine WK_skip ?_
    refine WK_seq ?_
    refine WK_seq ?_
    refine WK_region ?_
    refine WO_loadB tbok 0 rfl rfl rfl rfl (fun _ h => h) rfl rfl ?_
    refine WO_bsliceX (E := V4) (El := El24) tbok (fun _ => rfl) (by decide) [.agg #[.int .i64 p0_0, .int .i64 p0_1, .int .i64 p0_2, .slice a_p0_3 p0_3.length c_p0_3]] [(.int .i64 p0_0, .int .i64 p0_1, .int .i64 p0_2, .slice a_p0_3 p0_3.length c_p0_3)] ([(p0_0, p0_1, p0_2, p0_3)] : List (Int × Int × Int × List Int)) rfl rfl trivial rfl rfl rfl rfl rfl rfl rfl rfl rfl rfl rfl rfl ⟨⟨_, _, _, rfl, h_p0_3⟩, trivial⟩ (fun b7 hb7 => ?_)
    refine WO.cls (C' := St w0 m m [[⟨b2, 24, [.int .i64 p0_0, .int .i64 p0_1, .int .i64 p0_2, .slice a_p0_3 p0_3.length c_p0_3]⟩], [⟨b3, 58, [.int .i64 p1_0, .int .i64 p1_1]⟩], [⟨b7, 24, [.int .i64 p0_0, .int .i64 p0_1, .int .i64 p0_2, .slice a_p0_3 p0_3.length c_p0_3]⟩]]) (fun _ h => h) ?_
    obtain ⟨y9, hc10, hm⟩ := bind_some hm
    refine WO_call0 (.bool y9) rfl rfl trivial rfl rfl rfl rfl St_closed ⟨12, #[], #[], rfl, callable_12, fun w hw => ⟨_, hw.satV, fiduciallaw13_few_walk (OwnX.rd (E := V4) (k := 4) (fun _ => rfl) hb7 mono_El24 hw.leV (fun _ hx => hw.memV (i := 2) rfl hx)) hc10⟩⟩ ?_
    refine WO_pure tbok 1 [(2, .int .i64 p2), (3, .pointer (some ⟨b2, 0, none⟩)), (4, .pointer (some ⟨b3, 0, none⟩)), (6, .bool false), (17, .bool (!y9))] rfl ⟨rfl, rfl, rfl, rfl, rfl, trivial⟩ ?_
    refine WO_end ?_
    refine WK_cond (b := !y9) rfl (fun hb11 => ?_) (fun hb11 => ?_)
    · have hm := ifT hb11 hm
      refine WK_seq ?_
      refine WK_region ?_
      refine WO_pure tbok 1 [(2, .int .i64 p2), (3, .pointer (some ⟨b2, 0, none⟩)), (4, .pointer (some ⟨b3, 0, none⟩)), (6, .bool true)] rfl ⟨rfl, rfl, rfl, rfl, trivial⟩ ?_
      refine WO_end ?_
      cases hm
      exact WK_ret (ret_out (L := []) (RLc_tmp rfl RLc_nil) (List.nil_sublist _) rfl)
    · have hm := ifF hb11 hm
      refine WK_skip ?_
      refine WK_seq ?_
      refine WK_region ?_
      refine WO_loadB tbok 0 rfl rfl rfl rfl (fun _ h => h) rfl rfl ?_
      refine WO_pure tbok 1 [(2, .int .i64 p2), (3, .pointer (some ⟨b2, 0, none⟩)), (4, .pointer (some ⟨b3, 0, none⟩)), (6, .bool false), (19, .agg #[.int .i64 p0_0, .int .i64 p0_1, .int .i64 p0_2, .slice a_p0_3 p0_3.length c_p0_3]), (20, .pointer (some ⟨b3, 0, none⟩))] rfl ⟨rfl, rfl, rfl, rfl, rfl, rfl, trivial⟩ ?_
      refine WO_loadB tbok 1 rfl rfl rfl rfl (fun _ h => h) rfl rfl ?_
      refine WO_pure tbok 1 [(2, .int .i64 p2), (3, .pointer (some ⟨b2, 0, none⟩)), (4, .pointer (some ⟨b3, 0, none⟩)), (6, .bool false), (19, .agg #[.int .i64 p0_0, .int .i64 p0_1, .int .i64 p0_2, .slice a_p0_3 p0_3.length c_p0_3]), (21, .int .i64 p1_0), (22, .pointer (some ⟨b3, 1, none⟩))] rfl ⟨rfl, rfl, rfl, rfl, rfl, rfl, rfl, trivial⟩ ?_
      refine WO_loadB tbok 1 rfl rfl rfl rfl (fun _ h => h) rfl rfl ?_
      obtain ⟨⟨y12, y13⟩, hc14, hm⟩ := bind_some hm
      refine WO_call0 (.tuple #[.int .i64 y12, .int .i64 y13]) rfl rfl trivial rfl rfl rfl rfl St_closed ⟨41, #[], #[], rfl, callable_41, fun w hw => ⟨_, hw.sat, raster_At_walk h_p0_3 hc14⟩⟩ ?_
      refine WO_pure tbok 5 [(2, .int .i64 p2), (3, .pointer (some ⟨b2, 0, none⟩)), (4, .pointer (some ⟨b3, 0, none⟩)), (6, .bool false), (7, .int .i64 y12), (8, .int .i64 y13)] rfl ⟨rfl, rfl, rfl, rfl, rfl, rfl, trivial⟩ ?_
      refine WO_end ?_
      refine WK_seq ?_
      refine WK_region ?_
      refine WO_loadB tbok 0 rfl rfl rfl rfl (fun _ h => h) rfl rfl ?_
      refine WO_pure tbok 1 [(2, .int .i64 p2), (3, .pointer (some ⟨b2, 0, none⟩)), (4, .pointer (some ⟨b3, 0, none⟩)), (6, .bool false), (7, .int .i64 y12), (8, .int .i64 y13), (28, .agg #[.int .i64 p0_0, .int .i64 p0_1, .int .i64 p0_2, .slice a_p0_3 p0_3.length c_p0_3]), (29, .pointer (some ⟨b3, 0, none⟩))] rfl ⟨rfl, rfl, rfl, rfl, rfl, rfl, rfl, rfl, trivial⟩ ?_
      refine WO_loadB tbok 1 rfl rfl rfl rfl (fun _ h => h) rfl rfl ?_
      refine WO_pure tbok 1 [(2, .int .i64 p2), (3, .pointer (some ⟨b2, 0, none⟩)), (4, .pointer (some ⟨b3, 0, none⟩)), (6, .bool false), (7, .int .i64 y12), (8, .int .i64 y13), (28, .agg #[.int .i64 p0_0, .int .i64 p0_1, .int .i64 p0_2, .slice a_p0_3 p0_3.length c_p0_3]), (30, .int .i64 p1_0), (31, .pointer (some ⟨b3, 1, none⟩))] rfl ⟨rfl, rfl, rfl, rfl, rfl, rfl, rfl, rfl, rfl, trivial⟩ ?_
      refine WO_loadB tbok 1 rfl rfl rfl rfl (fun _ h => h) rfl rfl ?_
      refine WO_pure tbok 1 [(2, .int .i64 p2), (3, .pointer (some ⟨b2, 0, none⟩)), (4, .pointer (some ⟨b3, 0, none⟩)), (6, .bool false), (7, .int .i64 y12), (8, .int .i64 y13), (28, .agg #[.int .i64 p0_0, .int .i64 p0_1, .int .i64 p0_2, .slice a_p0_3 p0_3.length c_p0_3]), (30, .int .i64 p1_0), (32, .int .i64 p1_1), (33, .int .i64 p2)] rfl ⟨rfl, rfl, rfl, rfl, rfl, rfl, rfl, rfl, rfl, rfl, trivial⟩ ?_
      obtain ⟨⟨y15, y16, y17, y18, y19⟩, hc20, hm⟩ := bind_some hm
      refine WO_call1 (raster_Set_Q (y15, y16, y17, y18, y19)) rfl rfl trivial rfl rfl rfl rfl ⟨42, #[], #[], rfl, callable_42, fun w hw => ⟨_, hw.sat, raster_Set_walk h_p0_3 hc20⟩⟩ (fun v25 L24 hq => ?_)
      obtain ⟨a21, qa21, c22, rfl, hL24⟩ := hq
      obtain rfl := OwnE.qlen hL24
      refine WO.cls (C' := St w0 m m [[⟨b2, 24, [.int .i64 p0_0, .int .i64 p0_1, .int .i64 p0_2, .slice a_p0_3 p0_3.length c_p0_3]⟩], [⟨b3, 58, [.int .i64 p1_0, .int .i64 p1_1]⟩], [⟨b7, 24, [.int .i64 p0_0, .int .i64 p0_1, .int .i64 p0_2, .slice a_p0_3 p0_3.length c_p0_3]⟩], L24]) (fun _ h => h) ?_
      refine WO_pure tbok 3 [(2, .int .i64 p2), (3, .pointer (some ⟨b2, 0, none⟩)), (4, .pointer (some ⟨b3, 0, none⟩)), (6, .bool false), (7, .int .i64 y12), (8, .int .i64 y13), (35, .agg #[.int .i64 y15, .int .i64 y16, .int .i64 y17, .slice a21 ((y18).length) c22]), (36, .int .i64 y19)] rfl ⟨rfl, rfl, rfl, rfl, rfl, rfl, rfl, rfl, trivial⟩ ?_
      refine WO_alloc tbok [.int .i64 0, .int .i64 0, .int .i64 0, .slice none 0 0] rfl rfl trivial rfl rfl rfl rfl (fun b26 => ?_)
      refine WO.cls (C' := St w0 m m [[⟨b2, 24, [.int .i64 p0_0, .int .i64 p0_1, .int .i64 p0_2, .slice a_p0_3 p0_3.length c_p0_3]⟩], [⟨b3, 58, [.int .i64 p1_0, .int .i64 p1_1]⟩], [⟨b7, 24, [.int .i64 p0_0, .int .i64 p0_1, .int .i64 p0_2, .slice a_p0_3 p0_3.length c_p0_3]⟩], L24, [⟨b26, 24, [.int .i64 0, .int .i64 0, .int .i64 0, .slice none 0 0]⟩]]) (fun _ h => h) ?_
      refine WO_storeB tbok 4 [.int .i64 y15, .int .i64 y16, .int .i64 y17, .slice a21 ((y18).length) c22] rfl rfl rfl rfl rfl rfl rfl ?_
      refine WO.cls (C' := St w0 m m [[⟨b2, 24, [.int .i64 p0_0, .int .i64 p0_1, .int .i64 p0_2, .slice a_p0_3 p0_3.length c_p0_3]⟩], [⟨b3, 58, [.int .i64 p1_0, .int .i64 p1_1]⟩], [⟨b7, 24, [.int .i64 p0_0, .int .i64 p0_1, .int .i64 p0_2, .slice a_p0_3 p0_3.length c_p0_3]⟩], L24, [⟨b26, 24, [.int .i64 y15, .int .i64 y16, .int .i64 y17, .slice a21 ((y18).length) c22]⟩]]) (fun _ h => h) ?_
      refine WO_pure tbok 1 [(2, .int .i64 p2), (3, .pointer (some ⟨b2, 0, none⟩)), (4, .pointer (some ⟨b3, 0, none⟩)), (6, .bool false), (7, .int .i64 y12), (8, .int .i64 y13), (9, .pointer (some ⟨b26, 0, none⟩)), (10, .int .i64 y19)] rfl ⟨rfl, rfl, rfl, rfl, rfl, rfl, rfl, rfl, trivial⟩ ?_
      refine WO_end ?_
      refine WK_seq ?_
      refine WK_region ?_
      refine WO_loadB tbok 0 rfl rfl rfl rfl (fun _ h => h) rfl rfl ?_
      obtain ⟨y27, hc28, hm⟩ := bind_some hm
      refine WO_call0 (.int .i64 y27) rfl rfl trivial rfl rfl rfl rfl St_closed ⟨15, #[], #[], rfl, callable_15, fun w hw => ⟨_, hw.sat, fiducialref13_Check_walk h_p0_3 hc28⟩⟩ ?_
      refine WO_pure tbok 1 [(2, .int .i64 p2), (3, .pointer (some ⟨b2, 0, none⟩)), (4, .pointer (some ⟨b3, 0, none⟩)), (6, .bool false), (7, .int .i64 y12), (8, .int .i64 y13), (9, .pointer (some ⟨b26, 0, none⟩)), (10, .int .i64 y19), (11, .int .i64 y27)] rfl ⟨rfl, rfl, rfl, rfl, rfl, rfl, rfl, rfl, rfl, trivial⟩ ?_
      refine WO_end ?_
      refine WK_seq ?_
      refine WK_seq ?_
      obtain ⟨s29, hx30, hm⟩ := bind_some hm
      refine WK_meet [(2, .int .i64 p2), (3, .pointer (some ⟨b2, 0, none⟩)), (4, .pointer (some ⟨b3, 0, none⟩)), (6, .bool false), (7, .int .i64 y12), (8, .int .i64 y13), (9, .pointer (some ⟨b26, 0, none⟩)), (10, .int .i64 y19), (11, .int .i64 y27), (49, .bool s29)] (St w0 m m [[⟨b2, 24, [.int .i64 p0_0, .int .i64 p0_1, .int .i64 p0_2, .slice a_p0_3 p0_3.length c_p0_3]⟩], [⟨b3, 58, [.int .i64 p1_0, .int .i64 p1_1]⟩], [⟨b7, 24, [.int .i64 p0_0, .int .i64 p0_1, .int .i64 p0_2, .slice a_p0_3 p0_3.length c_p0_3]⟩], L24, [⟨b26, 24, [.int .i64 y15, .int .i64 y16, .int .i64 y17, .slice a21 ((y18).length) c22]⟩]]) ?_ (fun hk31 => ?_)
      · obtain ⟨s32, hx33, hm⟩ := bind_some hm
        refine WK_meet [(2, .int .i64 p2), (3, .pointer (some ⟨b2, 0, none⟩)), (4, .pointer (some ⟨b3, 0, none⟩)), (6, .bool false), (7, .int .i64 y12), (8, .int .i64 y13), (9, .pointer (some ⟨b26, 0, none⟩)), (10, .int .i64 y19), (11, .int .i64 s32)] (St w0 m m [[⟨b2, 24, [.int .i64 p0_0, .int .i64 p0_1, .int .i64 p0_2, .slice a_p0_3 p0_3.length c_p0_3]⟩], [⟨b3, 58, [.int .i64 p1_0, .int .i64 p1_1]⟩], [⟨b7, 24, [.int .i64 p0_0, .int .i64 p0_1, .int .i64 p0_2, .slice a_p0_3 p0_3.length c_p0_3]⟩], L24, [⟨b26, 24, [.int .i64 y15, .int .i64 y16, .int .i64 y17, .slice a21 ((y18).length) c22]⟩]]) ?_ (fun hk34 => ?_)
        · refine WK_seq ?_
          refine WK_seq ?_
          refine WK_region ?_
          refine WO_pure tbok 2 [(2, .int .i64 p2), (3, .pointer (some ⟨b2, 0, none⟩)), (4, .pointer (some ⟨b3, 0, none⟩)), (6, .bool false), (7, .int .i64 y12), (8, .int .i64 y13), (9, .pointer (some ⟨b26, 0, none⟩)), (10, .int .i64 y19), (11, .int .i64 s32), (51, .bool (s32 != 0))] rfl ⟨rfl, rfl, rfl, rfl, rfl, rfl, rfl, rfl, rfl, rfl, trivial⟩ ?_
          refine WO_end ?_
          refine WK_cond (b := s32 != 0) rfl (fun hb35 => ?_) (fun hb35 => ?_)
          · have hm := ifT hb35 hm
            refine WK_seq ?_
            refine WK_region ?_
            refine WO_pure tbok 4 [(2, .int .i64 p2), (3, .pointer (some ⟨b2, 0, none⟩)), (4, .pointer (some ⟨b3, 0, none⟩)), (6, .bool false), (7, .int .i64 y12), (8, .int .i64 y13), (9, .pointer (some ⟨b26, 0, none⟩)), (10, .int .i64 y19), (11, .int .i64 s32), (55, .bool (y13 == s32))] rfl ⟨rfl, rfl, rfl, rfl, rfl, rfl, rfl, rfl, rfl, rfl, trivial⟩ ?_
            refine WO_split (d := 55) (b := y13 == s32) rfl (fun hb36 => ?_) (fun hb36 => ?_)
            · have hm := ifT hb36 hm
              refine WO_pure tbok 5 [(2, .int .i64 p2), (3, .pointer (some ⟨b2, 0, none⟩)), (4, .pointer (some ⟨b3, 0, none⟩)), (6, .bool false), (7, .int .i64 y12), (8, .int .i64 y13), (9, .pointer (some ⟨b26, 0, none⟩)), (10, .int .i64 y19), (60, .bool (y19 == s32))] rfl ⟨rfl, rfl, rfl, rfl, rfl, rfl, rfl, rfl, rfl, trivial⟩ ?_
              refine WO_split (d := 60) (b := y19 == s32) rfl (fun hb37 => ?_) (fun hb37 => ?_)
              · have hm := ifT hb37 hm
                refine WO_pure tbok 4 [(2, .int .i64 p2), (3, .pointer (some ⟨b2, 0, none⟩)), (4, .pointer (some ⟨b3, 0, none⟩)), (6, .bool false), (7, .int .i64 y12), (8, .int .i64 y13), (9, .pointer (some ⟨b26, 0, none⟩)), (10, .int .i64 y19), (64, .bool (y12 == 0))] rfl ⟨rfl, rfl, rfl, rfl, rfl, rfl, rfl, rfl, rfl, trivial⟩ ?_
                refine WO_split (d := 64) (b := y12 == 0) rfl (fun hb38 => ?_) (fun hb38 => ?_)
                · have hm := ifT hb38 hm
                  refine WO_loadB tbok 4 rfl rfl rfl rfl (fun _ h => h) rfl rfl ?_
                  obtain ⟨y39, hc40, hm⟩ := bind_some hm
                  refine WO_call0 (.bool y39) rfl rfl trivial rfl rfl rfl rfl St_closed ⟨16, #[], #[], rfl, callable_16, fun w hw => ⟨_, hw.satV, fiduciallaw13_empty_walk (OwnE.rd (E := (I1 .i64)) (k := 1) (fun _ => rfl) hL24 (fun _ hx => hw.memV (i := 3) rfl hx)) hc40⟩⟩ ?_
                  refine WO_pure tbok 2 [(2, .int .i64 p2), (3, .pointer (some ⟨b2, 0, none⟩)), (4, .pointer (some ⟨b3, 0, none⟩)), (6, .bool y39), (7, .int .i64 y12), (8, .int .i64 y13), (9, .pointer (some ⟨b26, 0, none⟩)), (10, .int .i64 y19)] rfl ⟨rfl, rfl, rfl, rfl, rfl, rfl, rfl, rfl, trivial⟩ ?_
                  refine WO_end ?_
                  cases hm
                  exact WK_ret (ret_out (L := []) (RLc_tmp rfl RLc_nil) (List.nil_sublist _) rfl)
                · have hm := ifF hb38 hm
                  refine WO_pure tbok 1 [(2, .int .i64 p2), (3, .pointer (some ⟨b2, 0, none⟩)), (4, .pointer (some ⟨b3, 0, none⟩)), (6, .bool false), (7, .int .i64 y12), (8, .int .i64 y13), (9, .pointer (some ⟨b26, 0, none⟩)), (10, .int .i64 y19), (64, .bool false)] rfl ⟨rfl, rfl, rfl, rfl, rfl, rfl, rfl, rfl, rfl, trivial⟩ ?_
                  refine WO_skip rfl rfl ?_
                  refine WO_pure tbok 2 [(2, .int .i64 p2), (3, .pointer (some ⟨b2, 0, none⟩)), (4, .pointer (some ⟨b3, 0, none⟩)), (6, .bool false), (7, .int .i64 y12), (8, .int .i64 y13), (9, .pointer (some ⟨b26, 0, none⟩)), (10, .int .i64 y19)] rfl ⟨rfl, rfl, rfl, rfl, rfl, rfl, rfl, rfl, trivial⟩ ?_
                  refine WO_end ?_
                  cases hm
                  exact WK_ret (ret_out (L := []) (RLc_tmp rfl RLc_nil) (List.nil_sublist _) rfl)
              · have hm := ifF hb37 hm
                refine WO_pure tbok 5 [(2, .int .i64 p2), (3, .pointer (some ⟨b2, 0, none⟩)), (4, .pointer (some ⟨b3, 0, none⟩)), (6, .bool false), (7, .int .i64 y12), (8, .int .i64 y13), (9, .pointer (some ⟨b26, 0, none⟩)), (10, .int .i64 y19), (64, .bool false)] rfl ⟨rfl, rfl, rfl, rfl, rfl, rfl, rfl, rfl, rfl, trivial⟩ ?_
                refine WO_skip rfl rfl ?_
                refine WO_pure tbok 2 [(2, .int .i64 p2), (3, .pointer (some ⟨b2, 0, none⟩)), (4, .pointer (some ⟨b3, 0, none⟩)), (6, .bool false), (7, .int .i64 y12), (8, .int .i64 y13), (9, .pointer (some ⟨b26, 0, none⟩)), (10, .int .i64 y19)] rfl ⟨rfl, rfl, rfl, rfl, rfl, rfl, rfl, rfl, trivial⟩ ?_
                refine WO_end ?_
                cases hm
                exact WK_ret (ret_out (L := []) (RLc_tmp rfl RLc_nil) (List.nil_sublist _) rfl)
            · have hm := ifF hb36 hm
              refine WO_pure tbok 10 [(2, .int .i64 p2), (3, .pointer (some ⟨b2, 0, none⟩)), (4, .pointer (some ⟨b3, 0, none⟩)), (6, .bool false), (7, .int .i64 y12), (8, .int .i64 y13), (9, .pointer (some ⟨b26, 0, none⟩)), (10, .int .i64 y19), (64, .bool false)] rfl ⟨rfl, rfl, rfl, rfl, rfl, rfl, rfl, rfl, rfl, trivial⟩ ?_
              refine WO_skip rfl rfl ?_
              refine WO_pure tbok 2 [(2, .int .i64 p2), (3, .pointer (some ⟨b2, 0, none⟩)), (4, .pointer (some ⟨b3, 0, none⟩)), (6, .bool false), (7, .int .i64 y12), (8, .int .i64 y13), (9, .pointer (some ⟨b26, 0, none⟩)), (10, .int .i64 y19)] rfl ⟨rfl, rfl, rfl, rfl, rfl, rfl, rfl, rfl, trivial⟩ ?_
              refine WO_end ?_
              cases hm
              exact WK_ret (ret_out (L := []) (RLc_tmp rfl RLc_nil) (List.nil_sublist _) rfl)
          · have hm := ifF hb35 hm
            refine WK_skip ?_
            refine WK_seq ?_
            refine WK_seq ?_
            obtain ⟨s41, hx42, hm⟩ := bind_some hm
            refine WK_meet [(2, .int .i64 p2), (3, .pointer (some ⟨b2, 0, none⟩)), (4, .pointer (some ⟨b3, 0, none⟩)), (6, .bool false), (9, .pointer (some ⟨b26, 0, none⟩)), (10, .int .i64 y19), (79, .bool s41)] (St w0 m m [[⟨b2, 24, [.int .i64 p0_0, .int .i64 p0_1, .int .i64 p0_2, .slice a_p0_3 p0_3.length c_p0_3]⟩], [⟨b3, 58, [.int .i64 p1_0, .int .i64 p1_1]⟩], [⟨b7, 24, [.int .i64 p0_0, .int .i64 p0_1, .int .i64 p0_2, .slice a_p0_3 p0_3.length c_p0_3]⟩], L24, [⟨b26, 24, [.int .i64 y15, .int .i64 y16, .int .i64 y17, .slice a21 ((y18).length) c22]⟩]]) ?_ (fun hk43 => ?_)
            · refine WK_cond (b := s41) rfl (fun hb44 => ?_) (fun hb44 => ?_)
              · have hm := ifT hb44 hm
                refine WK_seq ?_
                refine WK_region ?_
                refine WO_pure tbok 1 [(2, .int .i64 p2), (3, .pointer (some ⟨b2, 0, none⟩)), (4, .pointer (some ⟨b3, 0, none⟩)), (6, .bool false), (9, .pointer (some ⟨b26, 0, none⟩)), (10, .int .i64 y19)] rfl ⟨rfl, rfl, rfl, rfl, rfl, rfl, trivial⟩ ?_
                refine WO_end ?_
                cases hm
                exact WK_ret (ret_out (L := []) (RLc_tmp rfl RLc_nil) (List.nil_sublist _) rfl)
              · have hm := ifF hb44 hm
                refine WK_skip ?_
                refine WK_seq ?_
                refine WK_seq ?_
                obtain ⟨s45, hx46, hm⟩ := bind_some hm
                refine WK_meet [(2, .int .i64 p2), (3, .pointer (some ⟨b2, 0, none⟩)), (4, .pointer (some ⟨b3, 0, none⟩)), (6, .bool false), (9, .pointer (some ⟨b26, 0, none⟩)), (10, .int .i64 y19), (87, .bool s45)] (St w0 m m [[⟨b2, 24, [.int .i64 p0_0, .int .i64 p0_1, .int .i64 p0_2, .slice a_p0_3 p0_3.length c_p0_3]⟩], [⟨b3, 58, [.int .i64 p1_0, .int .i64 p1_1]⟩], [⟨b7, 24, [.int .i64 p0_0, .int .i64 p0_1, .int .i64 p0_2, .slice a_p0_3 p0_3.length c_p0_3]⟩], L24, [⟨b26, 24, [.int .i64 y15, .int .i64 y16, .int .i64 y17, .slice a21 ((y18).length) c22]⟩]]) ?_ (fun hk47 => ?_)
                · refine WK_cond (b := s45) rfl (fun hb48 => ?_) (fun hb48 => ?_)
                  · have hm := ifT hb48 hm
                    refine WK_seq ?_
                    refine WK_region ?_
                    refine WO_pure tbok 3 [(2, .int .i64 p2), (3, .pointer (some ⟨b2, 0, none⟩)), (4, .pointer (some ⟨b3, 0, none⟩)), (6, .bool false), (9, .pointer (some ⟨b26, 0, none⟩)), (10, .int .i64 y19), (90, .bool (y19 == 2))] rfl ⟨rfl, rfl, rfl, rfl, rfl, rfl, rfl, trivial⟩ ?_
                    refine WO_split (d := 90) (b := y19 == 2) rfl (fun hb49 => ?_) (fun hb49 => ?_)
                    · have hm := ifT hb49 hm
                      refine WO_loadB tbok 4 rfl rfl rfl rfl (fun _ h => h) rfl rfl ?_
                      obtain ⟨y50, hc51, hm⟩ := bind_some hm
                      refine WO_call0 (.bool y50) rfl rfl trivial rfl rfl rfl rfl St_closed ⟨16, #[], #[], rfl, callable_16, fun w hw => ⟨_, hw.satV, fiduciallaw13_empty_walk (OwnE.rd (E := (I1 .i64)) (k := 1) (fun _ => rfl) hL24 (fun _ hx => hw.memV (i := 3) rfl hx)) hc51⟩⟩ ?_
                      refine WO_pure tbok 2 [(2, .int .i64 p2), (3, .pointer (some ⟨b2, 0, none⟩)), (4, .pointer (some ⟨b3, 0, none⟩)), (6, .bool y50), (9, .pointer (some ⟨b26, 0, none⟩)), (10, .int .i64 y19)] rfl ⟨rfl, rfl, rfl, rfl, rfl, rfl, trivial⟩ ?_
                      refine WO_end ?_
                      cases hm
                      exact WK_ret (ret_out (L := []) (RLc_tmp rfl RLc_nil) (List.nil_sublist _) rfl)
                    · have hm := ifF hb49 hm
                      refine WO_pure tbok 1 [(2, .int .i64 p2), (3, .pointer (some ⟨b2, 0, none⟩)), (4, .pointer (some ⟨b3, 0, none⟩)), (6, .bool false), (9, .pointer (some ⟨b26, 0, none⟩)), (10, .int .i64 y19), (90, .bool false)] rfl ⟨rfl, rfl, rfl, rfl, rfl, rfl, rfl, trivial⟩ ?_
                      refine WO_skip rfl rfl ?_
                      refine WO_pure tbok 2 [(2, .int .i64 p2), (3, .pointer (some ⟨b2, 0, none⟩)), (4, .pointer (some ⟨b3, 0, none⟩)), (6, .bool false), (9, .pointer (some ⟨b26, 0, none⟩)), (10, .int .i64 y19)] rfl ⟨rfl, rfl, rfl, rfl, rfl, rfl, trivial⟩ ?_
                      refine WO_end ?_
                      cases hm
                      exact WK_ret (ret_out (L := []) (RLc_tmp rfl RLc_nil) (List.nil_sublist _) rfl)
                  · have hm := ifF hb48 hm
                    refine WK_skip ?_
                    refine WK_seq ?_
                    refine WK_draw 14 [0, 1, 2, 3, 4, 5, 6, 7, 8, 9, 10, 11, 12, 13] follows_ok (by kernel_rfl) St_closed ?_
                    refine WO_pure tbok 3 [(2, .int .i64 p2), (3, .pointer (some ⟨b2, 0, none⟩)), (4, .pointer (some ⟨b3, 0, none⟩)), (6, .bool false), (9, .pointer (some ⟨b26, 0, none⟩)), (96, .bool (y19 == 0))] rfl ⟨rfl, rfl, rfl, rfl, rfl, rfl, trivial⟩ ?_
                    refine WO_split (d := 96) (b := y19 == 0) rfl (fun hb52 => ?_) (fun hb52 => ?_)
                    · have hm := ifT hb52 hm
                      refine WO_loadB tbok 4 rfl rfl rfl rfl (fun _ h => h) rfl rfl ?_
                      refine WO_loadB tbok 0 rfl rfl rfl rfl (fun _ h => h) rfl rfl ?_
                      refine WO_pure tbok 1 [(2, .int .i64 p2), (4, .pointer (some ⟨b3, 0, none⟩)), (6, .bool false), (96, .bool true), (97, .agg #[.int .i64 y15, .int .i64 y16, .int .i64 y17, .slice a21 ((y18).length) c22]), (98, .agg #[.int .i64 p0_0, .int .i64 p0_1, .int .i64 p0_2, .slice a_p0_3 p0_3.length c_p0_3]), (99, .pointer (some ⟨b3, 0, none⟩))] rfl ⟨rfl, rfl, rfl, rfl, rfl, rfl, rfl, trivial⟩ ?_
                      refine WO_loadB tbok 1 rfl rfl rfl rfl (fun _ h => h) rfl rfl ?_
                      refine WO_pure tbok 1 [(2, .int .i64 p2), (6, .bool false), (96, .bool true), (97, .agg #[.int .i64 y15, .int .i64 y16, .int .i64 y17, .slice a21 ((y18).length) c22]), (98, .agg #[.int .i64 p0_0, .int .i64 p0_1, .int .i64 p0_2, .slice a_p0_3 p0_3.length c_p0_3]), (100, .int .i64 p1_0), (101, .pointer (some ⟨b3, 1, none⟩))] rfl ⟨rfl, rfl, rfl, rfl, rfl, rfl, rfl, trivial⟩ ?_
                      refine WO_loadB tbok 1 rfl rfl rfl rfl (fun _ h => h) rfl rfl ?_
                      refine WO_pure tbok 1 [(6, .bool false), (96, .bool true), (97, .agg #[.int .i64 y15, .int .i64 y16, .int .i64 y17, .slice a21 ((y18).length) c22]), (98, .agg #[.int .i64 p0_0, .int .i64 p0_1, .int .i64 p0_2, .slice a_p0_3 p0_3.length c_p0_3]), (100, .int .i64 p1_0), (102, .int .i64 p1_1), (103, .int .i64 p2)] rfl ⟨rfl, rfl, rfl, rfl, rfl, rfl, rfl, trivial⟩ ?_
                      obtain ⟨⟨y53, y54, y55, y56⟩, hc57, hm⟩ := bind_some hm
                      refine WO_call1 (fiducialref13_Set_Q (y53, y54, y55, y56)) rfl rfl St_closed rfl rfl rfl rfl ⟨45, #[], #[], rfl, callable_45, fun w hw => ⟨_, hw.sat, fiducialref13_Set_walk h_p0_3 hc57⟩⟩ (fun v62 L61 hq => ?_)
                      obtain ⟨a58, qa58, c59, rfl, hL61⟩ := hq
                      obtain rfl := OwnE.qlen hL61
                      refine WO.cls (C' := St w0 m m [[⟨b2, 24, [.int .i64 p0_0, .int .i64 p0_1, .int .i64 p0_2, .slice a_p0_3 p0_3.length c_p0_3]⟩], [⟨b3, 58, [.int .i64 p1_0, .int .i64 p1_1]⟩], [⟨b7, 24, [.int .i64 p0_0, .int .i64 p0_1, .int .i64 p0_2, .slice a_p0_3 p0_3.length c_p0_3]⟩], L24, [⟨b26, 24, [.int .i64 y15, .int .i64 y16, .int .i64 y17, .slice a21 ((y18).length) c22]⟩], L61]) (fun _ h => h) ?_
                      obtain ⟨y63, hc64, hm⟩ := bind_some hm
                      refine WO_call0 (.bool y63) rfl rfl St_closed rfl rfl rfl rfl St_closed ⟨17, #[], #[], rfl, callable_17, fun w hw => ⟨_, hw.satV, fiducialref13_Equal_walk (OwnE.rd (E := (I1 .i64)) (k := 1) (fun _ => rfl) hL24 (fun _ hx => hw.memV (i := 3) rfl hx)) (OwnE.rd (E := (I1 .i64)) (k := 1) (fun _ => rfl) hL61 (fun _ hx => hw.memV (i := 5) rfl hx)) hc64⟩⟩ ?_
                      refine WO_pure tbok 2 [(6, .bool y63)] rfl ⟨rfl, trivial⟩ ?_
                      refine WO_tail ?_
                      refine WO_end ?_
                      cases hm
                      exact WK_ret (ret_out (L := []) (RLc_tmp rfl RLc_nil) (List.nil_sublist _) rfl)
                    · have hm := ifF hb52 hm
                      refine WO_pure tbok 7 [(6, .bool false), (96, .bool false)] rfl ⟨rfl, rfl, trivial⟩ ?_
                      refine WO_skip rfl rfl ?_
                      refine WO_skip rfl rfl ?_
                      refine WO_pure tbok 2 [(6, .bool false)] rfl ⟨rfl, trivial⟩ ?_
                      refine WO_tail ?_
                      refine WO_end ?_
                      cases hm
                      exact WK_ret (ret_out (L := []) (RLc_tmp rfl RLc_nil) (List.nil_sublist _) rfl)
                · refine WK_region ?_
                  refine WO_pure tbok 3 [(2, .int .i64 p2), (3, .pointer (some ⟨b2, 0, none⟩)), (4, .pointer (some ⟨b3, 0, none⟩)), (6, .bool false), (9, .pointer (some ⟨b26, 0, none⟩)), (10, .int .i64 y19), (82, .bool (decide (p2 < 0)))] rfl ⟨rfl, rfl, rfl, rfl, rfl, rfl, rfl, trivial⟩ ?_
                  refine WO_split (d := 82) (b := decide (p2 < 0)) rfl (fun hb65 => ?_) (fun hb65 => ?_)
                  · have hx46 := ifT hb65 hx46
                    refine WO_pure tbok 5 [(2, .int .i64 p2), (3, .pointer (some ⟨b2, 0, none⟩)), (4, .pointer (some ⟨b3, 0, none⟩)), (6, .bool false), (9, .pointer (some ⟨b26, 0, none⟩)), (10, .int .i64 y19), (87, .bool true)] rfl ⟨rfl, rfl, rfl, rfl, rfl, rfl, rfl, trivial⟩ ?_
                    refine WO_end ?_
                    cases hx46
                    refine WK.sub ?_ (WK.cls (fun _ h => h) hk47)
                    exact ⟨rfl, rfl, rfl, rfl, rfl, rfl, rfl, trivial⟩
                  · have hx46 := ifF hb65 hx46
                    refine WO_pure tbok 2 [(2, .int .i64 p2), (3, .pointer (some ⟨b2, 0, none⟩)), (4, .pointer (some ⟨b3, 0, none⟩)), (6, .bool false), (9, .pointer (some ⟨b26, 0, none⟩)), (10, .int .i64 y19), (82, .bool false), (83, .int .i64 p2), (84, .pointer (some ⟨b2, 2, none⟩))] rfl ⟨rfl, rfl, rfl, rfl, rfl, rfl, rfl, rfl, rfl, trivial⟩ ?_
                    refine WO_loadB tbok 0 rfl rfl rfl rfl (fun _ h => h) rfl rfl ?_
                    refine WO_pure tbok 2 [(2, .int .i64 p2), (3, .pointer (some ⟨b2, 0, none⟩)), (4, .pointer (some ⟨b3, 0, none⟩)), (6, .bool false), (9, .pointer (some ⟨b26, 0, none⟩)), (10, .int .i64 y19), (87, .bool (decide (p0_2 < p2)))] rfl ⟨rfl, rfl, rfl, rfl, rfl, rfl, rfl, trivial⟩ ?_
                    refine WO_end ?_
                    cases hx46
                    refine WK.sub ?_ (WK.cls (fun _ h => h) hk47)
                    exact ⟨rfl, rfl, rfl, rfl, rfl, rfl, rfl, trivial⟩
            · refine WK_region ?_
              refine WO_pure tbok 3 [(2, .int .i64 p2), (3, .pointer (some ⟨b2, 0, none⟩)), (4, .pointer (some ⟨b3, 0, none⟩)), (6, .bool false), (7, .int .i64 y12), (9, .pointer (some ⟨b26, 0, none⟩)), (10, .int .i64 y19), (70, .bool (y13 != 0))] rfl ⟨rfl, rfl, rfl, rfl, rfl, rfl, rfl, rfl, trivial⟩ ?_
              refine WO_split (d := 70) (b := y13 != 0) rfl (fun hb66 => ?_) (fun hb66 => ?_)
              · have hx42 := ifT hb66 hx42
                refine WO_pure tbok 6 [(2, .int .i64 p2), (3, .pointer (some ⟨b2, 0, none⟩)), (4, .pointer (some ⟨b3, 0, none⟩)), (6, .bool false), (9, .pointer (some ⟨b26, 0, none⟩)), (10, .int .i64 y19), (70, .bool true)] rfl ⟨rfl, rfl, rfl, rfl, rfl, rfl, rfl, trivial⟩ ?_
                refine WO_skip rfl rfl ?_
                refine WO_pure tbok 2 [(2, .int .i64 p2), (3, .pointer (some ⟨b2, 0, none⟩)), (4, .pointer (some ⟨b3, 0, none⟩)), (6, .bool false), (9, .pointer (some ⟨b26, 0, none⟩)), (10, .int .i64 y19), (79, .bool true)] rfl ⟨rfl, rfl, rfl, rfl, rfl, rfl, rfl, trivial⟩ ?_
                refine WO_end ?_
                cases hx42
                refine WK.sub ?_ (WK.cls (fun _ h => h) hk43)
                exact ⟨rfl, rfl, rfl, rfl, rfl, rfl, rfl, trivial⟩
              · have hx42 := ifF hb66 hx42
                refine WO_pure tbok 1 [(2, .int .i64 p2), (3, .pointer (some ⟨b2, 0, none⟩)), (4, .pointer (some ⟨b3, 0, none⟩)), (6, .bool false), (9, .pointer (some ⟨b26, 0, none⟩)), (10, .int .i64 y19), (70, .bool false), (71, .int .i64 y12)] rfl ⟨rfl, rfl, rfl, rfl, rfl, rfl, rfl, rfl, trivial⟩ ?_
                refine WO_loadB tbok 0 rfl rfl rfl rfl (fun _ h => h) rfl rfl ?_
                refine WO_pure tbok 1 [(2, .int .i64 p2), (3, .pointer (some ⟨b2, 0, none⟩)), (4, .pointer (some ⟨b3, 0, none⟩)), (6, .bool false), (9, .pointer (some ⟨b26, 0, none⟩)), (10, .int .i64 y19), (70, .bool false), (71, .int .i64 y12), (72, .agg #[.int .i64 p0_0, .int .i64 p0_1, .int .i64 p0_2, .slice a_p0_3 p0_3.length c_p0_3]), (73, .pointer (some ⟨b3, 0, none⟩))] rfl ⟨rfl, rfl, rfl, rfl, rfl, rfl, rfl, rfl, rfl, rfl, trivial⟩ ?_
                refine WO_loadB tbok 1 rfl rfl rfl rfl (fun _ h => h) rfl rfl ?_
                refine WO_pure tbok 1 [(2, .int .i64 p2), (3, .pointer (some ⟨b2, 0, none⟩)), (4, .pointer (some ⟨b3, 0, none⟩)), (6, .bool false), (9, .pointer (some ⟨b26, 0, none⟩)), (10, .int .i64 y19), (70, .bool false), (71, .int .i64 y12), (72, .agg #[.int .i64 p0_0, .int .i64 p0_1, .int .i64 p0_2, .slice a_p0_3 p0_3.length c_p0_3]), (74, .int .i64 p1_0), (75, .pointer (some ⟨b3, 1, none⟩))] rfl ⟨rfl, rfl, rfl, rfl, rfl, rfl, rfl, rfl, rfl, rfl, rfl, trivial⟩ ?_
                refine WO_loadB tbok 1 rfl rfl rfl rfl (fun _ h => h) rfl rfl ?_
                obtain ⟨y67, hc68, hx42⟩ := bind_some hx42
                refine WO_call0 (.int .i64 y67) rfl rfl trivial rfl rfl rfl rfl St_closed ⟨44, #[], #[], rfl, callable_44, fun w hw => ⟨_, hw.sat, fiducialref13_At_walk h_p0_3 hc68⟩⟩ ?_
                refine WO_pure tbok 2 [(2, .int .i64 p2), (3, .pointer (some ⟨b2, 0, none⟩)), (4, .pointer (some ⟨b3, 0, none⟩)), (6, .bool false), (9, .pointer (some ⟨b26, 0, none⟩)), (10, .int .i64 y19), (79, .bool (y12 != y67))] rfl ⟨rfl, rfl, rfl, rfl, rfl, rfl, rfl, trivial⟩ ?_
                refine WO_end ?_
                cases hx42
                refine WK.sub ?_ (WK.cls (fun _ h => h) hk43)
                exact ⟨rfl, rfl, rfl, rfl, rfl, rfl, rfl, trivial⟩
        · refine WK_cond (b := s29) rfl (fun hb69 => ?_) (fun hb69 => ?_)
          · have hx33 := ifT hb69 hx33
            refine WK_region ?_
            refine WO_pure tbok 1 [(2, .int .i64 p2), (3, .pointer (some ⟨b2, 0, none⟩)), (4, .pointer (some ⟨b3, 0, none⟩)), (6, .bool false), (7, .int .i64 y12), (8, .int .i64 y13), (9, .pointer (some ⟨b26, 0, none⟩)), (10, .int .i64 y19), (11, .int .i64 2)] rfl ⟨rfl, rfl, rfl, rfl, rfl, rfl, rfl, rfl, rfl, trivial⟩ ?_
            refine WO_end ?_
            cases hx33
            refine WK.sub ?_ (WK.cls (fun _ h => h) hk34)
            exact ⟨rfl, rfl, rfl, rfl, rfl, rfl, rfl, rfl, rfl, trivial⟩
          · have hx33 := ifF hb69 hx33
            refine WK_skip ?_
            cases hx33
            refine WK.sub ?_ (WK.cls (fun _ h => h) hk34)
            exact ⟨rfl, rfl, rfl, rfl, rfl, rfl, rfl, rfl, rfl, trivial⟩
      · refine WK_region ?_
        refine WO_pure tbok 3 [(2, .int .i64 p2), (3, .pointer (some ⟨b2, 0, none⟩)), (4, .pointer (some ⟨b3, 0, none⟩)), (6, .bool false), (7, .int .i64 y12), (8, .int .i64 y13), (9, .pointer (some ⟨b26, 0, none⟩)), (10, .int .i64 y19), (11, .int .i64 y27), (41, .bool (y27 == 0))] rfl ⟨rfl, rfl, rfl, rfl, rfl, rfl, rfl, rfl, rfl, rfl, trivial⟩ ?_
        refine WO_split (d := 41) (b := y27 == 0) rfl (fun hb70 => ?_) (fun hb70 => ?_)
        · have hx30 := ifT hb70 hx30
          refine WO_loadB tbok 0 rfl rfl rfl rfl (fun _ h => h) rfl rfl ?_
          refine WO_pure tbok 1 [(2, .int .i64 p2), (3, .pointer (some ⟨b2, 0, none⟩)), (4, .pointer (some ⟨b3, 0, none⟩)), (6, .bool false), (7, .int .i64 y12), (8, .int .i64 y13), (9, .pointer (some ⟨b26, 0, none⟩)), (10, .int .i64 y19), (11, .int .i64 y27), (41, .bool true), (42, .agg #[.int .i64 p0_0, .int .i64 p0_1, .int .i64 p0_2, .slice a_p0_3 p0_3.length c_p0_3]), (43, .pointer (some ⟨b3, 0, none⟩))] rfl ⟨rfl, rfl, rfl, rfl, rfl, rfl, rfl, rfl, rfl, rfl, rfl, rfl, trivial⟩ ?_
          refine WO_loadB tbok 1 rfl rfl rfl rfl (fun _ h => h) rfl rfl ?_
          refine WO_pure tbok 1 [(2, .int .i64 p2), (3, .pointer (some ⟨b2, 0, none⟩)), (4, .pointer (some ⟨b3, 0, none⟩)), (6, .bool false), (7, .int .i64 y12), (8, .int .i64 y13), (9, .pointer (some ⟨b26, 0, none⟩)), (10, .int .i64 y19), (11, .int .i64 y27), (41, .bool true), (42, .agg #[.int .i64 p0_0, .int .i64 p0_1, .int .i64 p0_2, .slice a_p0_3 p0_3.length c_p0_3]), (44, .int .i64 p1_0), (45, .pointer (some ⟨b3, 1, none⟩))] rfl ⟨rfl, rfl, rfl, rfl, rfl, rfl, rfl, rfl, rfl, rfl, rfl, rfl, rfl, trivial⟩ ?_
          refine WO_loadB tbok 1 rfl rfl rfl rfl (fun _ h => h) rfl rfl ?_
          obtain ⟨y71, hc72, hx30⟩ := bind_some hx30
          refine WO_call0 (.bool y71) rfl rfl trivial rfl rfl rfl rfl St_closed ⟨43, #[], #[], rfl, callable_43, fun w hw => ⟨_, hw.sat, fiducialref13_Inside_walk h_p0_3 hc72⟩⟩ ?_
          refine WO_pure tbok 2 [(2, .int .i64 p2), (3, .pointer (some ⟨b2, 0, none⟩)), (4, .pointer (some ⟨b3, 0, none⟩)), (6, .bool false), (7, .int .i64 y12), (8, .int .i64 y13), (9, .pointer (some ⟨b26, 0, none⟩)), (10, .int .i64 y19), (11, .int .i64 y27), (49, .bool (!y71))] rfl ⟨rfl, rfl, rfl, rfl, rfl, rfl, rfl, rfl, rfl, rfl, trivial⟩ ?_
          refine WO_end ?_
          cases hx30
          refine WK.sub ?_ (WK.cls (fun _ h => h) hk31)
          exact ⟨rfl, rfl, rfl, rfl, rfl, rfl, rfl, rfl, rfl, rfl, trivial⟩
        · have hx30 := ifF hb70 hx30
          refine WO_pure tbok 5 [(2, .int .i64 p2), (3, .pointer (some ⟨b2, 0, none⟩)), (4, .pointer (some ⟨b3, 0, none⟩)), (6, .bool false), (7, .int .i64 y12), (8, .int .i64 y13), (9, .pointer (some ⟨b26, 0, none⟩)), (10, .int .i64 y19), (11, .int .i64 y27), (41, .bool false)] rfl ⟨rfl, rfl, rfl, rfl, rfl, rfl, rfl, rfl, rfl, rfl, trivial⟩ ?_
          refine WO_skip rfl rfl ?_
          refine WO_pure tbok 2 [(2, .int .i64 p2), (3, .pointer (some ⟨b2, 0, none⟩)), (4, .pointer (some ⟨b3, 0, none⟩)), (6, .bool false), (7, .int .i64 y12), (8, .int .i64 y13), (9, .pointer (some ⟨b26, 0, none⟩)), (10, .int .i64 y19), (11, .int .i64 y27), (49, .bool false)] rfl ⟨rfl, rfl, rfl, rfl, rfl, rfl, rfl, rfl, rfl, rfl, trivial⟩ ?_
          refine WO_end ?_
          cases hx30
          refine WK.sub ?_ (WK.cls (fun _ h => h) hk31)
          exact ⟨rfl, rfl, rfl, rfl, rfl, rfl, rfl, rfl, rfl, rfl, trivial⟩
end Go.Proofs.Ytoflllddpoonbaa
