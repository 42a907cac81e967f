import Derived.Test.YtgakaghdiodakaaDoorTab
import Derived.Test.YtgakaghdiodakaaDoorM
import Derived.Test.YtgakaghdiodakaaDoorW3
set_option linter.unusedVariables false
set_option maxRecDepth 100000
set_option maxHeartbeats 4000000
namespace Go.Proofs.YtgakaghdiodakaaDoor
open Go.E Go.RowKit
attribute [local irreducible] Go.E.WO Go.E.WK
theorem fiduciallaw45_AggregatePaths_walk {m : Mu} {p0_0 : Int} {p0_1 : Int} {p0_2 : Int} {p0_3 : List Int} {p1_0 : Int} {p1_1 : Int} {p2 : Int} {a_p0_3 : Option Addr} {q_p0_3 c_p0_3 : Nat} {fr0 : Nat × Nat} {tg0 : TypeId} (hg0 : m 0 = some (.cells ([.int .i64 1, .int .i64 0, .int .i64 (-1), .int .i64 0, .int .i64 0, .int .i64 1, .int .i64 0, .int .i64 (-1), .int .i64 1, .int .i64 1, .int .i64 (-1), .int .i64 (-1), .int .i64 1, .int .i64 (-1), .int .i64 (-1), .int .i64 1] : List Value).toArray tg0 fr0)) (h_p0_3 : SlR (FE (I1 .i64)) 1 m (.slice a_p0_3 q_p0_3 c_p0_3) p0_3) {r : Bool} (hm : fiduciallaw45_AggregatePaths p0_0 p0_1 p0_2 p0_3 p1_0 p1_1 p2 = some r) :
    Go.E.Spec Tryd.prog 3 [.agg #[.int .i64 p0_0, .int .i64 p0_1, .int .i64 p0_2, .slice a_p0_3 q_p0_3 c_p0_3], .agg #[.int .i64 p1_0, .int .i64 p1_1], .int .i64 p2] m (fun v _ _ => v = .bool r) := by
  refine Spec_enter Tryd.func3 rfl rfl rfl (fun w0 => ?_)
  refine WK.sub (e' := [(0, .agg #[.int .i64 p0_0, .int .i64 p0_1, .int .i64 p0_2, .slice a_p0_3 q_p0_3 c_p0_3]), (1, .agg #[.int .i64 p1_0, .int .i64 p1_1]), (2, .int .i64 p2)]) ⟨rfl, rfl, rfl, trivial⟩ ?_
  obtain rfl := SlR.qlen h_p0_3
  refine WK.sub (e' := [(0, .agg #[.int .i64 p0_0, .int .i64 p0_1, .int .i64 p0_2, .slice a_p0_3 p0_3.length c_p0_3]), (1, .agg #[.int .i64 p1_0, .int .i64 p1_1]), (2, .int .i64 p2)]) ⟨rfl, rfl, rfl, trivial⟩ ?_
  unfold fiduciallaw45_AggregatePaths at hm
  refine WK_seq ?_
  refine WK_region ?_
  refine WO_box [.int .i64 p0_0, .int .i64 p0_1, .int .i64 p0_2, .slice a_p0_3 p0_3.length c_p0_3] rfl rfl trivial rfl rfl rfl (fun b1 => ?_)
  refine WO.cls (C' := St w0 m m [[⟨b1, 24, [.int .i64 p0_0, .int .i64 p0_1, .int .i64 p0_2, .slice a_p0_3 p0_3.length c_p0_3]⟩]]) (fun _ h => h) ?_
  refine WO_box [.int .i64 p1_0, .int .i64 p1_1] rfl rfl trivial rfl rfl rfl (fun b2 => ?_)
  refine WO.cls (C' := St w0 m m [[⟨b1, 24, [.int .i64 p0_0, .int .i64 p0_1, .int .i64 p0_2, .slice a_p0_3 p0_3.length c_p0_3]⟩], [⟨b2, 25, [.int .i64 p1_0, .int .i64 p1_1]⟩]]) (fun _ h => h) ?_
  refine WO_pure tbok 1 [(2, .int .i64 p2), (3, .pointer (some ⟨b1, 0, none⟩)), (4, .pointer (some ⟨b2, 0, none⟩)), (6, .bool false)] rfl ⟨rfl, rfl, rfl, rfl, trivial⟩ ?_
  refine WO_end ?_
  refine WK_seq ?_
  refine WK_seq ?_
  refine WK_region ?_
  obtain ⟨y_1, hc3, hm⟩ := bind_some hm
  refine WO_call0 (.bool y_1) rfl rfl trivial rfl rfl rfl rfl St_closed ⟨5, #[], #[], rfl, callable_5, fun w hw => ⟨_, hw.sat, fiduciallaw45_known_walk hc3⟩⟩ ?_
  refine WO_pure tbok 1 [(2, .int .i64 p2), (3, .pointer (some ⟨b1, 0, none⟩)), (4, .pointer (some ⟨b2, 0, none⟩)), (6, .bool false), (13, .bool (!y_1))] rfl ⟨rfl, rfl, rfl, rfl, rfl, trivial⟩ ?_
  refine WO_end ?_
  refine WK_cond (b := !y_1) rfl (fun hb4 => ?_) (fun hb4 => ?_)
  · have hm := ifT hb4 hm
    refine WK_seq ?_
    refine WK_region ?_
    refine WO_pure tbok 1 [(2, .int .i64 p2), (3, .pointer (some ⟨b1, 0, none⟩)), (4, .pointer (some ⟨b2, 0, none⟩)), (6, .bool false)] rfl ⟨rfl, rfl, rfl, rfl, trivial⟩ ?_
    refine WO_end ?_
    cases hm
    exact WK_ret (ret_out (L := []) (RLc_tmp rfl RLc_nil) (List.nil_sublist _) rfl)
  · have hm := ifF hb4 hm
    refine WK_skip ?_
    refine WK_seq ?_
    refine WK_seq ?_
    refine WK_region ?_
    refine WO_loadB tbok 0 rfl rfl rfl rfl (fun _ h => h) rfl rfl ?_
    obtain ⟨y_2, hc5, hm⟩ := bind_some hm
    refine WO_call0 (.bool y_2) rfl rfl trivial rfl rfl rfl rfl St_closed ⟨6, #[], #[], rfl, callable_6, fun w hw => ⟨_, hw.sat, fiduciallaw45_small_walk h_p0_3 hc5⟩⟩ ?_
    refine WO_pure tbok 1 [(2, .int .i64 p2), (3, .pointer (some ⟨b1, 0, none⟩)), (4, .pointer (some ⟨b2, 0, none⟩)), (6, .bool false), (16, .bool (!y_2))] rfl ⟨rfl, rfl, rfl, rfl, rfl, trivial⟩ ?_
    refine WO_end ?_
    refine WK_cond (b := !y_2) rfl (fun hb6 => ?_) (fun hb6 => ?_)
    · have hm := ifT hb6 hm
      refine WK_seq ?_
      refine WK_region ?_
      refine WO_pure tbok 1 [(2, .int .i64 p2), (3, .pointer (some ⟨b1, 0, none⟩)), (4, .pointer (some ⟨b2, 0, none⟩)), (6, .bool true)] rfl ⟨rfl, rfl, rfl, rfl, trivial⟩ ?_
      refine WO_end ?_
      cases hm
      exact WK_ret (ret_out (L := []) (RLc_tmp rfl RLc_nil) (List.nil_sublist _) rfl)
    · have hm := ifF hb6 hm
      refine WK_skip ?_
      refine WK_seq ?_
      refine WK_region ?_
      refine WO_loadB tbok 0 rfl rfl rfl rfl (fun _ h => h) rfl rfl ?_
      refine WO_pure tbok 1 [(2, .int .i64 p2), (3, .pointer (some ⟨b1, 0, none⟩)), (4, .pointer (some ⟨b2, 0, none⟩)), (6, .bool false), (18, .agg #[.int .i64 p0_0, .int .i64 p0_1, .int .i64 p0_2, .slice a_p0_3 p0_3.length c_p0_3]), (19, .pointer (some ⟨b2, 0, none⟩))] rfl ⟨rfl, rfl, rfl, rfl, rfl, rfl, trivial⟩ ?_
      refine WO_loadB tbok 1 rfl rfl rfl rfl (fun _ h => h) rfl rfl ?_
      refine WO_pure tbok 1 [(2, .int .i64 p2), (3, .pointer (some ⟨b1, 0, none⟩)), (4, .pointer (some ⟨b2, 0, none⟩)), (6, .bool false), (18, .agg #[.int .i64 p0_0, .int .i64 p0_1, .int .i64 p0_2, .slice a_p0_3 p0_3.length c_p0_3]), (20, .int .i64 p1_0), (21, .pointer (some ⟨b2, 1, none⟩))] rfl ⟨rfl, rfl, rfl, rfl, rfl, rfl, rfl, trivial⟩ ?_
      refine WO_loadB tbok 1 rfl rfl rfl rfl (fun _ h => h) rfl rfl ?_
      refine WO_pure tbok 1 [(2, .int .i64 p2), (3, .pointer (some ⟨b1, 0, none⟩)), (4, .pointer (some ⟨b2, 0, none⟩)), (6, .bool false), (18, .agg #[.int .i64 p0_0, .int .i64 p0_1, .int .i64 p0_2, .slice a_p0_3 p0_3.length c_p0_3]), (20, .int .i64 p1_0), (22, .int .i64 p1_1), (23, .int .i64 p2)] rfl ⟨rfl, rfl, rfl, rfl, rfl, rfl, rfl, rfl, trivial⟩ ?_
      obtain ⟨⟨y_3, y_4, y_5, y_6, y_7⟩, hc7, hm⟩ := bind_some hm
      refine WO_call1 (aggregate_Path_Q (y_3, y_4, y_5, y_6, y_7)) rfl rfl trivial rfl rfl rfl rfl ⟨7, #[], #[], rfl, callable_7, fun w hw => ⟨_, hw.sat, aggregate_Path_walk hg0 h_p0_3 hc7⟩⟩ (fun v11 L10 hq => ?_)
      obtain ⟨a8, qa8, c9, rfl, hL10⟩ := hq
      obtain rfl := OwnE.qlen hL10
      refine WO.cls (C' := St w0 m m [[⟨b1, 24, [.int .i64 p0_0, .int .i64 p0_1, .int .i64 p0_2, .slice a_p0_3 p0_3.length c_p0_3]⟩], [⟨b2, 25, [.int .i64 p1_0, .int .i64 p1_1]⟩], L10]) (fun _ h => h) ?_
      refine WO_pure tbok 3 [(2, .int .i64 p2), (3, .pointer (some ⟨b1, 0, none⟩)), (4, .pointer (some ⟨b2, 0, none⟩)), (6, .bool false), (25, .agg #[.int .i64 y_3, .int .i64 y_4, .int .i64 y_5, .slice a8 ((y_6).length) c9]), (26, .int .i64 y_7)] rfl ⟨rfl, rfl, rfl, rfl, rfl, rfl, trivial⟩ ?_
      refine WO_alloc tbok [.int .i64 0, .int .i64 0, .int .i64 0, .slice none 0 0] rfl rfl trivial rfl rfl rfl rfl (fun b12 => ?_)
      refine WO.cls (C' := St w0 m m [[⟨b1, 24, [.int .i64 p0_0, .int .i64 p0_1, .int .i64 p0_2, .slice a_p0_3 p0_3.length c_p0_3]⟩], [⟨b2, 25, [.int .i64 p1_0, .int .i64 p1_1]⟩], L10, [⟨b12, 24, [.int .i64 0, .int .i64 0, .int .i64 0, .slice none 0 0]⟩]]) (fun _ h => h) ?_
      refine WO_storeB tbok 3 [.int .i64 y_3, .int .i64 y_4, .int .i64 y_5, .slice a8 ((y_6).length) c9] rfl rfl rfl rfl rfl rfl rfl ?_
      refine WO.cls (C' := St w0 m m [[⟨b1, 24, [.int .i64 p0_0, .int .i64 p0_1, .int .i64 p0_2, .slice a_p0_3 p0_3.length c_p0_3]⟩], [⟨b2, 25, [.int .i64 p1_0, .int .i64 p1_1]⟩], L10, [⟨b12, 24, [.int .i64 y_3, .int .i64 y_4, .int .i64 y_5, .slice a8 ((y_6).length) c9]⟩]]) (fun _ h => h) ?_
      refine WO_pure tbok 1 [(2, .int .i64 p2), (3, .pointer (some ⟨b1, 0, none⟩)), (4, .pointer (some ⟨b2, 0, none⟩)), (6, .bool false), (7, .pointer (some ⟨b12, 0, none⟩)), (8, .int .i64 y_7)] rfl ⟨rfl, rfl, rfl, rfl, rfl, rfl, trivial⟩ ?_
      refine WO_end ?_
      refine WK_seq ?_
      refine WK_region ?_
      refine WO_loadB tbok 0 rfl rfl rfl rfl (fun _ h => h) rfl rfl ?_
      refine WO_pure tbok 1 [(2, .int .i64 p2), (3, .pointer (some ⟨b1, 0, none⟩)), (4, .pointer (some ⟨b2, 0, none⟩)), (6, .bool false), (7, .pointer (some ⟨b12, 0, none⟩)), (8, .int .i64 y_7), (27, .agg #[.int .i64 p0_0, .int .i64 p0_1, .int .i64 p0_2, .slice a_p0_3 p0_3.length c_p0_3]), (28, .pointer (some ⟨b2, 0, none⟩))] rfl ⟨rfl, rfl, rfl, rfl, rfl, rfl, rfl, rfl, trivial⟩ ?_
      refine WO_loadB tbok 1 rfl rfl rfl rfl (fun _ h => h) rfl rfl ?_
      refine WO_pure tbok 1 [(2, .int .i64 p2), (3, .pointer (some ⟨b1, 0, none⟩)), (4, .pointer (some ⟨b2, 0, none⟩)), (6, .bool false), (7, .pointer (some ⟨b12, 0, none⟩)), (8, .int .i64 y_7), (27, .agg #[.int .i64 p0_0, .int .i64 p0_1, .int .i64 p0_2, .slice a_p0_3 p0_3.length c_p0_3]), (29, .int .i64 p1_0), (30, .pointer (some ⟨b2, 1, none⟩))] rfl ⟨rfl, rfl, rfl, rfl, rfl, rfl, rfl, rfl, rfl, trivial⟩ ?_
      refine WO_loadB tbok 1 rfl rfl rfl rfl (fun _ h => h) rfl rfl ?_
      obtain ⟨y_8, hc13, hm⟩ := bind_some hm
      refine WO_call0 (.int .i64 y_8) rfl rfl trivial rfl rfl rfl rfl St_closed ⟨8, #[], #[], rfl, callable_8, fun w hw => ⟨_, hw.sat, fiduciallaw45_image_walk h_p0_3 hc13⟩⟩ ?_
      refine WO_pure tbok 1 [(2, .int .i64 p2), (3, .pointer (some ⟨b1, 0, none⟩)), (4, .pointer (some ⟨b2, 0, none⟩)), (6, .bool false), (7, .pointer (some ⟨b12, 0, none⟩)), (8, .int .i64 y_7), (9, .int .i64 y_8)] rfl ⟨rfl, rfl, rfl, rfl, rfl, rfl, rfl, trivial⟩ ?_
      refine WO_end ?_
      refine WK_seq ?_
      refine WK_seq ?_
      obtain ⟨s_9, hx14, hm⟩ := bind_some hm
      refine WK_meet [(2, .int .i64 p2), (3, .pointer (some ⟨b1, 0, none⟩)), (4, .pointer (some ⟨b2, 0, none⟩)), (6, .bool false), (7, .pointer (some ⟨b12, 0, none⟩)), (8, .int .i64 y_7), (9, .int .i64 y_8), (42, .bool s_9)] (St w0 m m [[⟨b1, 24, [.int .i64 p0_0, .int .i64 p0_1, .int .i64 p0_2, .slice a_p0_3 p0_3.length c_p0_3]⟩], [⟨b2, 25, [.int .i64 p1_0, .int .i64 p1_1]⟩], L10, [⟨b12, 24, [.int .i64 y_3, .int .i64 y_4, .int .i64 y_5, .slice a8 ((y_6).length) c9]⟩]]) ?_ (fun hk15 => ?_)
      · obtain ⟨s_10, hx16, hm⟩ := bind_some hm
        refine WK_meet [(2, .int .i64 p2), (3, .pointer (some ⟨b1, 0, none⟩)), (4, .pointer (some ⟨b2, 0, none⟩)), (6, .bool false), (7, .pointer (some ⟨b12, 0, none⟩)), (8, .int .i64 y_7), (9, .int .i64 s_10)] (St w0 m m [[⟨b1, 24, [.int .i64 p0_0, .int .i64 p0_1, .int .i64 p0_2, .slice a_p0_3 p0_3.length c_p0_3]⟩], [⟨b2, 25, [.int .i64 p1_0, .int .i64 p1_1]⟩], L10, [⟨b12, 24, [.int .i64 y_3, .int .i64 y_4, .int .i64 y_5, .slice a8 ((y_6).length) c9]⟩]]) ?_ (fun hk17 => ?_)
        · refine WK_seq ?_
          refine WK_seq ?_
          refine WK_region ?_
          refine WO_pure tbok 2 [(2, .int .i64 p2), (3, .pointer (some ⟨b1, 0, none⟩)), (4, .pointer (some ⟨b2, 0, none⟩)), (6, .bool false), (7, .pointer (some ⟨b12, 0, none⟩)), (8, .int .i64 y_7), (9, .int .i64 s_10), (44, .bool (s_10 != 0))] rfl ⟨rfl, rfl, rfl, rfl, rfl, rfl, rfl, rfl, trivial⟩ ?_
          refine WO_end ?_
          refine WK_cond (b := s_10 != 0) rfl (fun hb18 => ?_) (fun hb18 => ?_)
          · have hm := ifT hb18 hm
            refine WK_seq ?_
            refine WK_region ?_
            refine WO_pure tbok 4 [(2, .int .i64 p2), (3, .pointer (some ⟨b1, 0, none⟩)), (4, .pointer (some ⟨b2, 0, none⟩)), (6, .bool false), (7, .pointer (some ⟨b12, 0, none⟩)), (8, .int .i64 y_7), (48, .bool (y_7 == s_10))] rfl ⟨rfl, rfl, rfl, rfl, rfl, rfl, rfl, trivial⟩ ?_
            refine WO_split (d := 48) (b := y_7 == s_10) rfl (fun hb19 => ?_) (fun hb19 => ?_)
            · have hm := ifT hb19 hm
              refine WO_loadB tbok 3 rfl rfl rfl rfl (fun _ h => h) rfl rfl ?_
              obtain ⟨y_11, hc20, hm⟩ := bind_some hm
              refine WO_call0 (.bool y_11) rfl rfl trivial rfl rfl rfl rfl St_closed ⟨9, #[], #[], rfl, callable_9, fun w hw => ⟨_, hw.satV, fiduciallaw45_empty_walk (OwnE.rd (E := (I1 .i64)) (k := 1) (fun _ => rfl) hL10 (fun _ hx => hw.memV (i := 2) rfl hx)) hc20⟩⟩ ?_
              refine WO_pure tbok 2 [(2, .int .i64 p2), (3, .pointer (some ⟨b1, 0, none⟩)), (4, .pointer (some ⟨b2, 0, none⟩)), (6, .bool y_11), (7, .pointer (some ⟨b12, 0, none⟩)), (8, .int .i64 y_7)] rfl ⟨rfl, rfl, rfl, rfl, rfl, rfl, trivial⟩ ?_
              refine WO_end ?_
              cases hm
              exact WK_ret (ret_out (L := []) (RLc_tmp rfl RLc_nil) (List.nil_sublist _) rfl)
            · have hm := ifF hb19 hm
              refine WO_pure tbok 1 [(2, .int .i64 p2), (3, .pointer (some ⟨b1, 0, none⟩)), (4, .pointer (some ⟨b2, 0, none⟩)), (6, .bool false), (7, .pointer (some ⟨b12, 0, none⟩)), (8, .int .i64 y_7), (48, .bool false)] rfl ⟨rfl, rfl, rfl, rfl, rfl, rfl, rfl, trivial⟩ ?_
              refine WO_skip rfl rfl ?_
              refine WO_pure tbok 2 [(2, .int .i64 p2), (3, .pointer (some ⟨b1, 0, none⟩)), (4, .pointer (some ⟨b2, 0, none⟩)), (6, .bool false), (7, .pointer (some ⟨b12, 0, none⟩)), (8, .int .i64 y_7)] rfl ⟨rfl, rfl, rfl, rfl, rfl, rfl, trivial⟩ ?_
              refine WO_end ?_
              cases hm
              exact WK_ret (ret_out (L := []) (RLc_tmp rfl RLc_nil) (List.nil_sublist _) rfl)
          · have hm := ifF hb18 hm
            refine WK_skip ?_
            refine WK_seq ?_
            refine WK_seq ?_
            obtain ⟨s_12, hx21, hm⟩ := bind_some hm
            refine WK_meet [(3, .pointer (some ⟨b1, 0, none⟩)), (4, .pointer (some ⟨b2, 0, none⟩)), (6, .bool false), (7, .pointer (some ⟨b12, 0, none⟩)), (65, .bool s_12)] (St w0 m m [[⟨b1, 24, [.int .i64 p0_0, .int .i64 p0_1, .int .i64 p0_2, .slice a_p0_3 p0_3.length c_p0_3]⟩], [⟨b2, 25, [.int .i64 p1_0, .int .i64 p1_1]⟩], L10, [⟨b12, 24, [.int .i64 y_3, .int .i64 y_4, .int .i64 y_5, .slice a8 ((y_6).length) c9]⟩]]) ?_ (fun hk22 => ?_)
            · refine WK_cond (b := s_12) rfl (fun hb23 => ?_) (fun hb23 => ?_)
              · have hm := ifT hb23 hm
                refine WK_seq ?_
                refine WK_region ?_
                refine WO_pure tbok 1 [(3, .pointer (some ⟨b1, 0, none⟩)), (4, .pointer (some ⟨b2, 0, none⟩)), (6, .bool false), (7, .pointer (some ⟨b12, 0, none⟩))] rfl ⟨rfl, rfl, rfl, rfl, trivial⟩ ?_
                refine WO_end ?_
                cases hm
                exact WK_ret (ret_out (L := []) (RLc_tmp rfl RLc_nil) (List.nil_sublist _) rfl)
              · have hm := ifF hb23 hm
                refine WK_skip ?_
                refine WK_seq ?_
                refine WK_seq ?_
                refine WK_region ?_
                refine WO_pure tbok 1 [(3, .pointer (some ⟨b1, 0, none⟩)), (4, .pointer (some ⟨b2, 0, none⟩)), (6, .bool false), (66, .pointer (some ⟨b12, 3, none⟩))] rfl ⟨rfl, rfl, rfl, rfl, trivial⟩ ?_
                refine WO_loadB tbok 3 rfl rfl rfl rfl (fun _ h => h) rfl rfl ?_
                refine WO_pure tbok 2 [(3, .pointer (some ⟨b1, 0, none⟩)), (4, .pointer (some ⟨b2, 0, none⟩)), (6, .bool false), (67, .slice a8 ((y_6).length) c9), (68, .int .i64 ((y_6).length : Int)), (69, .int .i64 0)] rfl ⟨rfl, rfl, rfl, rfl, rfl, rfl, trivial⟩ ?_
                refine WO_end ?_
                obtain ⟨x24, hx25, hm⟩ := bind_some hm
                refine WK_join (β := Unit × Unit) (fun p => Sum.inr p.1 = x24) (fun p => [(6, .bool false)]) (fun p => St w0 m m [[⟨b1, 24, [.int .i64 p0_0, .int .i64 p0_1, .int .i64 p0_2, .slice a_p0_3 p0_3.length c_p0_3]⟩], [⟨b2, 25, [.int .i64 p1_0, .int .i64 p1_1]⟩], L10, [⟨b12, 24, [.int .i64 y_3, .int .i64 y_4, .int .i64 y_5, .slice a8 ((y_6).length) c9]⟩]]) ?_ (fun hk26 => ?_)
                · rintro ⟨⟨⟩, ⟨⟩⟩ hq32
                  subst hq32
                  refine WK.sub (e' := [(6, .bool false)]) ⟨rfl, trivial⟩ (WK.cls (C' := St w0 m m [[⟨b1, 24, [.int .i64 p0_0, .int .i64 p0_1, .int .i64 p0_2, .slice a_p0_3 p0_3.length c_p0_3]⟩], [⟨b2, 25, [.int .i64 p1_0, .int .i64 p1_1]⟩], L10, [⟨b12, 24, [.int .i64 y_3, .int .i64 y_4, .int .i64 y_5, .slice a8 ((y_6).length) c9]⟩]]) (fun _ h => h) ?_)
                  refine WK_seq ?_
                  refine WK_region ?_
                  refine WO_pure tbok 1 [(6, .bool true)] rfl ⟨rfl, trivial⟩ ?_
                  refine WO_end ?_
                  cases hm
                  exact WK_ret (ret_out (L := []) (RLc_tmp rfl RLc_nil) (List.nil_sublist _) rfl)
                · refine WK_block ?_
                  refine WK_loop (S := Int) (G := Unit) (fun s => fiduciallaw45_AggregatePaths_s1 p0_3 p1_1 y_6 s) (fun s g => [(3, .pointer (some ⟨b1, 0, none⟩)), (4, .pointer (some ⟨b2, 0, none⟩)), (6, .bool false), (67, .slice a8 ((y_6).length) c9), (68, .int .i64 ((y_6).length : Int)), (69, .int .i64 s)]) (fun s g => St w0 m m [[⟨b1, 24, [.int .i64 p0_0, .int .i64 p0_1, .int .i64 p0_2, .slice a_p0_3 p0_3.length c_p0_3]⟩], [⟨b2, 25, [.int .i64 p1_0, .int .i64 p1_1]⟩], L10, [⟨b12, 24, [.int .i64 y_3, .int .i64 y_4, .int .i64 y_5, .slice a8 ((y_6).length) c9]⟩]]) (fun s g => True) FUEL 0 () x24 hx25 trivial ⟨rfl, rfl, rfl, rfl, rfl, rfl, trivial⟩ (fun _ h => h) ?_
                  rintro s_13 ⟨⟩ o28 fl29 hm27 - hn30 hd31
                  have hm27 : fiduciallaw45_AggregatePaths_s1 p0_3 p1_1 y_6 s_13 = some o28 := hm27
                  unfold fiduciallaw45_AggregatePaths_s1 at hm27
                  refine WK.sub (e' := [(3, .pointer (some ⟨b1, 0, none⟩)), (4, .pointer (some ⟨b2, 0, none⟩)), (6, .bool false), (67, .slice a8 ((y_6).length) c9), (68, .int .i64 ((y_6).length : Int)), (69, .int .i64 s_13)]) ⟨rfl, rfl, rfl, rfl, rfl, rfl, trivial⟩ (WK.cls (C' := St w0 m m [[⟨b1, 24, [.int .i64 p0_0, .int .i64 p0_1, .int .i64 p0_2, .slice a_p0_3 p0_3.length c_p0_3]⟩], [⟨b2, 25, [.int .i64 p1_0, .int .i64 p1_1]⟩], L10, [⟨b12, 24, [.int .i64 y_3, .int .i64 y_4, .int .i64 y_5, .slice a8 ((y_6).length) c9]⟩]]) (fun _ h => h) ?_)
                  refine WK_seq ?_
                  refine WK_region ?_
                  refine WO_pure tbok 1 [(3, .pointer (some ⟨b1, 0, none⟩)), (4, .pointer (some ⟨b2, 0, none⟩)), (6, .bool false), (67, .slice a8 ((y_6).length) c9), (68, .int .i64 ((y_6).length : Int)), (69, .int .i64 s_13), (70, .bool (decide (s_13 < ((y_6).length : Int))))] rfl ⟨rfl, rfl, rfl, rfl, rfl, rfl, rfl, trivial⟩ ?_
                  refine WO_end ?_
                  refine WK_seq ?_
                  refine WK_cond (b := decide (s_13 < ((y_6).length : Int))) rfl (fun hb33 => ?_) (fun hb33 => ?_)
                  · have hm27 := ifT hb33 hm27
                    refine WK_skip ?_
                    refine WK_seq ?_
                    refine WK_block ?_
                    refine WK_seq ?_
                    refine WK_region ?_
                    refine WO_pure tbok 1 [(3, .pointer (some ⟨b1, 0, none⟩)), (4, .pointer (some ⟨b2, 0, none⟩)), (6, .bool false), (67, .slice a8 ((y_6).length) c9), (68, .int .i64 ((y_6).length : Int)), (69, .int .i64 s_13), (71, .int .i64 s_13)] rfl ⟨rfl, rfl, rfl, rfl, rfl, rfl, rfl, trivial⟩ ?_
                    obtain ⟨v_14, hy34, hm27⟩ := bind_some hm27
                    obtain ⟨hc35, hy34⟩ := ix_some hy34
                    refine WO_index tbok rfl rfl rfl rfl rfl rfl rfl rfl (OwnE.addr hL10) (by simpa using hc35) ?_
                    refine WO_loadO (E := (I1 .i64)) tbok (fun _ => rfl) 2 rfl rfl rfl rfl (fun _ h => h) hL10 rfl hy34 rfl ?_
                    refine WO_pure tbok 2 [(3, .pointer (some ⟨b1, 0, none⟩)), (4, .pointer (some ⟨b2, 0, none⟩)), (6, .bool false), (10, .int .i64 s_13), (11, .int .i64 v_14), (67, .slice a8 ((y_6).length) c9), (68, .int .i64 ((y_6).length : Int)), (69, .int .i64 s_13)] rfl ⟨rfl, rfl, rfl, rfl, rfl, rfl, rfl, rfl, trivial⟩ ?_
                    refine WO_end ?_
                    refine WK_seq ?_
                    obtain ⟨s_15, hx36, hm27⟩ := bind_some hm27
                    refine WK_meet [(3, .pointer (some ⟨b1, 0, none⟩)), (4, .pointer (some ⟨b2, 0, none⟩)), (6, .bool false), (67, .slice a8 ((y_6).length) c9), (68, .int .i64 ((y_6).length : Int)), (69, .int .i64 s_13), (92, .bool s_15)] (St w0 m m [[⟨b1, 24, [.int .i64 p0_0, .int .i64 p0_1, .int .i64 p0_2, .slice a_p0_3 p0_3.length c_p0_3]⟩], [⟨b2, 25, [.int .i64 p1_0, .int .i64 p1_1]⟩], L10, [⟨b12, 24, [.int .i64 y_3, .int .i64 y_4, .int .i64 y_5, .slice a8 ((y_6).length) c9]⟩]]) ?_ (fun hk37 => ?_)
                    · refine WK_cond (b := s_15) rfl (fun hb38 => ?_) (fun hb38 => ?_)
                      · have hm27 := ifT hb38 hm27
                        refine WK_seq ?_
                        refine WK_region ?_
                        refine WO_pure tbok 1 [(3, .pointer (some ⟨b1, 0, none⟩)), (4, .pointer (some ⟨b2, 0, none⟩)), (6, .bool false), (67, .slice a8 ((y_6).length) c9), (68, .int .i64 ((y_6).length : Int)), (69, .int .i64 s_13)] rfl ⟨rfl, rfl, rfl, rfl, rfl, rfl, trivial⟩ ?_
                        refine WO_end ?_
                        cases hm27
                        have hq := hd31 _ rfl
                        subst hq
                        have hm : some _ = some _ := hm
                        cases hm
                        exact WK_ret (ret_out (L := []) (RLc_tmp rfl RLc_nil) (List.nil_sublist _) rfl)
                      · have hm27 := ifF hb38 hm27
                        refine WK_skip ?_
                        refine WK_blk ?_
                        refine WK_region ?_
                        refine WO_pure tbok 2 [(3, .pointer (some ⟨b1, 0, none⟩)), (4, .pointer (some ⟨b2, 0, none⟩)), (6, .bool false), (67, .slice a8 ((y_6).length) c9), (68, .int .i64 ((y_6).length : Int)), (69, .int .i64 (w64 (s_13 + 1)))] rfl ⟨rfl, rfl, rfl, rfl, rfl, rfl, trivial⟩ ?_
                        refine WO_end ?_
                        cases hm27
                        refine WK.sub ?_ (WK.cls (fun _ h => h) (hn30 _ () rfl trivial))
                        exact ⟨rfl, rfl, rfl, rfl, rfl, rfl, trivial⟩
                    · refine WK_draw 19 [0, 1, 2, 3, 4, 5, 6, 7, 8, 9, 10, 11, 12, 13, 14, 15, 16, 17, 18] follows_ok (by kernel_rfl) St_closed ?_
                      refine WO_pure tbok 2 [(3, .pointer (some ⟨b1, 0, none⟩)), (4, .pointer (some ⟨b2, 0, none⟩)), (6, .bool false), (10, .int .i64 s_13), (11, .int .i64 v_14), (67, .slice a8 ((y_6).length) c9), (68, .int .i64 ((y_6).length : Int)), (69, .int .i64 s_13), (74, .int .i64 v_14), (75, .pointer (some ⟨b1, 3, none⟩))] rfl ⟨rfl, rfl, rfl, rfl, rfl, rfl, rfl, rfl, rfl, rfl, trivial⟩ ?_
                      refine WO_loadB tbok 0 rfl rfl rfl rfl (fun _ h => h) rfl rfl ?_
                      refine WO_pure tbok 1 [(3, .pointer (some ⟨b1, 0, none⟩)), (4, .pointer (some ⟨b2, 0, none⟩)), (6, .bool false), (10, .int .i64 s_13), (11, .int .i64 v_14), (67, .slice a8 ((y_6).length) c9), (68, .int .i64 ((y_6).length : Int)), (69, .int .i64 s_13), (74, .int .i64 v_14), (76, .slice a_p0_3 p0_3.length c_p0_3), (77, .int .i64 s_13)] rfl ⟨rfl, rfl, rfl, rfl, rfl, rfl, rfl, rfl, rfl, rfl, rfl, trivial⟩ ?_
                      obtain ⟨v_16, hy39, hx36⟩ := bind_some hx36
                      obtain ⟨hc40, hy39⟩ := ix_some hy39
                      refine WO_index tbok rfl rfl rfl rfl rfl rfl rfl rfl (SlR.addr h_p0_3) hc40 ?_
                      refine WO_loadE tbok rfl rfl rfl rfl (fun _ h => St.sat h) h_p0_3 hy39 rfl ?_
                      refine WO_pure tbok 2 [(3, .pointer (some ⟨b1, 0, none⟩)), (4, .pointer (some ⟨b2, 0, none⟩)), (6, .bool false), (10, .int .i64 s_13), (11, .int .i64 v_14), (67, .slice a8 ((y_6).length) c9), (68, .int .i64 ((y_6).length : Int)), (69, .int .i64 s_13), (81, .bool (decide (v_14 < v_16)))] rfl ⟨rfl, rfl, rfl, rfl, rfl, rfl, rfl, rfl, rfl, trivial⟩ ?_
                      refine WO_split (d := 81) (b := decide (v_14 < v_16)) rfl (fun hb41 => ?_) (fun hb41 => ?_)
                      · have hx36 := ifT hb41 hx36
                        refine WO_pure tbok 11 [(3, .pointer (some ⟨b1, 0, none⟩)), (4, .pointer (some ⟨b2, 0, none⟩)), (6, .bool false), (67, .slice a8 ((y_6).length) c9), (68, .int .i64 ((y_6).length : Int)), (69, .int .i64 s_13), (92, .bool true)] rfl ⟨rfl, rfl, rfl, rfl, rfl, rfl, rfl, trivial⟩ ?_
                        refine WO_tail ?_
                        refine WO_end ?_
                        cases hx36
                        refine WK.sub ?_ (WK.cls (fun _ h => h) hk37)
                        exact ⟨rfl, rfl, rfl, rfl, rfl, rfl, rfl, trivial⟩
                      · have hx36 := ifF hb41 hx36
                        refine WO_pure tbok 2 [(3, .pointer (some ⟨b1, 0, none⟩)), (4, .pointer (some ⟨b2, 0, none⟩)), (6, .bool false), (10, .int .i64 s_13), (67, .slice a8 ((y_6).length) c9), (68, .int .i64 ((y_6).length : Int)), (69, .int .i64 s_13), (81, .bool false), (82, .int .i64 v_14), (83, .pointer (some ⟨b1, 3, none⟩))] rfl ⟨rfl, rfl, rfl, rfl, rfl, rfl, rfl, rfl, rfl, rfl, trivial⟩ ?_
                        refine WO_loadB tbok 0 rfl rfl rfl rfl (fun _ h => h) rfl rfl ?_
                        refine WO_pure tbok 1 [(3, .pointer (some ⟨b1, 0, none⟩)), (4, .pointer (some ⟨b2, 0, none⟩)), (6, .bool false), (67, .slice a8 ((y_6).length) c9), (68, .int .i64 ((y_6).length : Int)), (69, .int .i64 s_13), (81, .bool false), (82, .int .i64 v_14), (84, .slice a_p0_3 p0_3.length c_p0_3), (85, .int .i64 s_13)] rfl ⟨rfl, rfl, rfl, rfl, rfl, rfl, rfl, rfl, rfl, rfl, trivial⟩ ?_
                        obtain ⟨v_17, hy42, hx36⟩ := bind_some hx36
                        obtain ⟨hc43, hy42⟩ := ix_some hy42
                        refine WO_index tbok rfl rfl rfl rfl rfl rfl rfl rfl (SlR.addr h_p0_3) hc43 ?_
                        refine WO_loadE tbok rfl rfl rfl rfl (fun _ h => St.sat h) h_p0_3 hy42 rfl ?_
                        refine WO_pure tbok 1 [(3, .pointer (some ⟨b1, 0, none⟩)), (4, .pointer (some ⟨b2, 0, none⟩)), (6, .bool false), (67, .slice a8 ((y_6).length) c9), (68, .int .i64 ((y_6).length : Int)), (69, .int .i64 s_13), (81, .bool false), (82, .int .i64 v_14), (87, .int .i64 v_17), (88, .pointer (some ⟨b2, 1, none⟩))] rfl ⟨rfl, rfl, rfl, rfl, rfl, rfl, rfl, rfl, rfl, rfl, trivial⟩ ?_
                        refine WO_loadB tbok 1 rfl rfl rfl rfl (fun _ h => h) rfl rfl ?_
                        refine WO_pure tbok 3 [(3, .pointer (some ⟨b1, 0, none⟩)), (4, .pointer (some ⟨b2, 0, none⟩)), (6, .bool false), (67, .slice a8 ((y_6).length) c9), (68, .int .i64 ((y_6).length : Int)), (69, .int .i64 s_13), (92, .bool (decide ((w64 (v_17 + p1_1)) < v_14)))] rfl ⟨rfl, rfl, rfl, rfl, rfl, rfl, rfl, trivial⟩ ?_
                        refine WO_tail ?_
                        refine WO_end ?_
                        cases hx36
                        refine WK.sub ?_ (WK.cls (fun _ h => h) hk37)
                        exact ⟨rfl, rfl, rfl, rfl, rfl, rfl, rfl, trivial⟩
                  · have hm27 := ifF hb33 hm27
                    refine WK_exit rfl ?_
                    cases hm27
                    refine WK.sub ?_ (WK.cls (fun _ h => h) (hk26 ((), ()) (hd31 _ rfl)))
                    exact ⟨rfl, trivial⟩
            · refine WK_draw 14 [0, 1, 2, 3, 4, 5, 6, 7, 8, 9, 10, 11, 12, 13] follows_ok (by kernel_rfl) St_closed ?_
              refine WO_pure tbok 3 [(2, .int .i64 p2), (3, .pointer (some ⟨b1, 0, none⟩)), (4, .pointer (some ⟨b2, 0, none⟩)), (6, .bool false), (7, .pointer (some ⟨b12, 0, none⟩)), (54, .bool (y_7 != 0))] rfl ⟨rfl, rfl, rfl, rfl, rfl, rfl, trivial⟩ ?_
              refine WO_split (d := 54) (b := y_7 != 0) rfl (fun hb44 => ?_) (fun hb44 => ?_)
              · have hx21 := ifT hb44 hx21
                refine WO_pure tbok 7 [(3, .pointer (some ⟨b1, 0, none⟩)), (4, .pointer (some ⟨b2, 0, none⟩)), (6, .bool false), (7, .pointer (some ⟨b12, 0, none⟩)), (54, .bool true)] rfl ⟨rfl, rfl, rfl, rfl, rfl, trivial⟩ ?_
                refine WO_skip rfl rfl ?_
                refine WO_skip rfl rfl ?_
                refine WO_pure tbok 2 [(3, .pointer (some ⟨b1, 0, none⟩)), (4, .pointer (some ⟨b2, 0, none⟩)), (6, .bool false), (7, .pointer (some ⟨b12, 0, none⟩)), (65, .bool true)] rfl ⟨rfl, rfl, rfl, rfl, rfl, trivial⟩ ?_
                refine WO_tail ?_
                refine WO_end ?_
                cases hx21
                refine WK.sub ?_ (WK.cls (fun _ h => h) hk22)
                exact ⟨rfl, rfl, rfl, rfl, rfl, trivial⟩
              · have hx21 := ifF hb44 hx21
                refine WO_loadB tbok 3 rfl rfl rfl rfl (fun _ h => h) rfl rfl ?_
                refine WO_loadB tbok 0 rfl rfl rfl rfl (fun _ h => h) rfl rfl ?_
                refine WO_pure tbok 1 [(2, .int .i64 p2), (3, .pointer (some ⟨b1, 0, none⟩)), (4, .pointer (some ⟨b2, 0, none⟩)), (6, .bool false), (7, .pointer (some ⟨b12, 0, none⟩)), (54, .bool false), (55, .agg #[.int .i64 y_3, .int .i64 y_4, .int .i64 y_5, .slice a8 ((y_6).length) c9]), (56, .agg #[.int .i64 p0_0, .int .i64 p0_1, .int .i64 p0_2, .slice a_p0_3 p0_3.length c_p0_3]), (57, .pointer (some ⟨b2, 0, none⟩))] rfl ⟨rfl, rfl, rfl, rfl, rfl, rfl, rfl, rfl, rfl, trivial⟩ ?_
                refine WO_loadB tbok 1 rfl rfl rfl rfl (fun _ h => h) rfl rfl ?_
                refine WO_pure tbok 1 [(2, .int .i64 p2), (3, .pointer (some ⟨b1, 0, none⟩)), (4, .pointer (some ⟨b2, 0, none⟩)), (6, .bool false), (7, .pointer (some ⟨b12, 0, none⟩)), (54, .bool false), (55, .agg #[.int .i64 y_3, .int .i64 y_4, .int .i64 y_5, .slice a8 ((y_6).length) c9]), (56, .agg #[.int .i64 p0_0, .int .i64 p0_1, .int .i64 p0_2, .slice a_p0_3 p0_3.length c_p0_3]), (58, .int .i64 p1_0), (59, .pointer (some ⟨b2, 1, none⟩))] rfl ⟨rfl, rfl, rfl, rfl, rfl, rfl, rfl, rfl, rfl, rfl, trivial⟩ ?_
                refine WO_loadB tbok 1 rfl rfl rfl rfl (fun _ h => h) rfl rfl ?_
                refine WO_pure tbok 1 [(3, .pointer (some ⟨b1, 0, none⟩)), (4, .pointer (some ⟨b2, 0, none⟩)), (6, .bool false), (7, .pointer (some ⟨b12, 0, none⟩)), (54, .bool false), (55, .agg #[.int .i64 y_3, .int .i64 y_4, .int .i64 y_5, .slice a8 ((y_6).length) c9]), (56, .agg #[.int .i64 p0_0, .int .i64 p0_1, .int .i64 p0_2, .slice a_p0_3 p0_3.length c_p0_3]), (58, .int .i64 p1_0), (60, .int .i64 p1_1), (61, .int .i64 p2)] rfl ⟨rfl, rfl, rfl, rfl, rfl, rfl, rfl, rfl, rfl, rfl, trivial⟩ ?_
                obtain ⟨⟨y_18, y_19, y_20, y_21⟩, hc45, hx21⟩ := bind_some hx21
                refine WO_call1 (fiduciallaw45_path_Q (y_18, y_19, y_20, y_21)) rfl rfl St_closed rfl rfl rfl rfl ⟨11, #[], #[], rfl, callable_11, fun w hw => ⟨_, hw.sat, fiduciallaw45_path_walk h_p0_3 hc45⟩⟩ (fun v49 L48 hq => ?_)
                obtain ⟨a46, qa46, c47, rfl, hL48⟩ := hq
                obtain rfl := OwnE.qlen hL48
                refine WO.cls (C' := St w0 m m [[⟨b1, 24, [.int .i64 p0_0, .int .i64 p0_1, .int .i64 p0_2, .slice a_p0_3 p0_3.length c_p0_3]⟩], [⟨b2, 25, [.int .i64 p1_0, .int .i64 p1_1]⟩], L10, [⟨b12, 24, [.int .i64 y_3, .int .i64 y_4, .int .i64 y_5, .slice a8 ((y_6).length) c9]⟩], L48]) (fun _ h => h) ?_
                obtain ⟨y_22, hc50, hx21⟩ := bind_some hx21
                refine WO_call0 (.bool y_22) rfl rfl St_closed rfl rfl rfl rfl St_closed ⟨10, #[], #[], rfl, callable_10, fun w hw => ⟨_, hw.satV, fiduciallaw45_Same_walk (OwnE.rd (E := (I1 .i64)) (k := 1) (fun _ => rfl) hL10 (fun _ hx => hw.memV (i := 2) rfl hx)) (OwnE.rd (E := (I1 .i64)) (k := 1) (fun _ => rfl) hL48 (fun _ hx => hw.memV (i := 4) rfl hx)) hc50⟩⟩ ?_
                refine WO_pure tbok 2 [(3, .pointer (some ⟨b1, 0, none⟩)), (4, .pointer (some ⟨b2, 0, none⟩)), (6, .bool false), (7, .pointer (some ⟨b12, 0, none⟩)), (65, .bool (!y_22))] rfl ⟨rfl, rfl, rfl, rfl, rfl, trivial⟩ ?_
                refine WO_tail ?_
                refine WO_end ?_
                cases hx21
                refine WK.sub ?_ (WK.cls (fun _ h => St.take 4 h) hk22)
                exact ⟨rfl, rfl, rfl, rfl, rfl, trivial⟩
        · refine WK_cond (b := s_9) rfl (fun hb51 => ?_) (fun hb51 => ?_)
          · have hx16 := ifT hb51 hx16
            refine WK_region ?_
            refine WO_pure tbok 1 [(2, .int .i64 p2), (3, .pointer (some ⟨b1, 0, none⟩)), (4, .pointer (some ⟨b2, 0, none⟩)), (6, .bool false), (7, .pointer (some ⟨b12, 0, none⟩)), (8, .int .i64 y_7), (9, .int .i64 1)] rfl ⟨rfl, rfl, rfl, rfl, rfl, rfl, rfl, trivial⟩ ?_
            refine WO_end ?_
            cases hx16
            refine WK.sub ?_ (WK.cls (fun _ h => h) hk17)
            exact ⟨rfl, rfl, rfl, rfl, rfl, rfl, rfl, trivial⟩
          · have hx16 := ifF hb51 hx16
            refine WK_skip ?_
            cases hx16
            refine WK.sub ?_ (WK.cls (fun _ h => h) hk17)
            exact ⟨rfl, rfl, rfl, rfl, rfl, rfl, rfl, trivial⟩
      · refine WK_region ?_
        refine WO_pure tbok 3 [(2, .int .i64 p2), (3, .pointer (some ⟨b1, 0, none⟩)), (4, .pointer (some ⟨b2, 0, none⟩)), (6, .bool false), (7, .pointer (some ⟨b12, 0, none⟩)), (8, .int .i64 y_7), (9, .int .i64 y_8), (35, .bool (y_8 == 0))] rfl ⟨rfl, rfl, rfl, rfl, rfl, rfl, rfl, rfl, trivial⟩ ?_
        refine WO_split (d := 35) (b := y_8 == 0) rfl (fun hb52 => ?_) (fun hb52 => ?_)
        · have hx14 := ifT hb52 hx14
          refine WO_pure tbok 3 [(2, .int .i64 p2), (3, .pointer (some ⟨b1, 0, none⟩)), (4, .pointer (some ⟨b2, 0, none⟩)), (6, .bool false), (7, .pointer (some ⟨b12, 0, none⟩)), (8, .int .i64 y_7), (9, .int .i64 y_8), (35, .bool true), (38, .bool (decide (p2 < 0)))] rfl ⟨rfl, rfl, rfl, rfl, rfl, rfl, rfl, rfl, rfl, trivial⟩ ?_
          refine WO_split (d := 38) (b := decide (p2 < 0)) rfl (fun hb53 => ?_) (fun hb53 => ?_)
          · have hx14 := ifT hb53 hx14
            refine WO_pure tbok 4 [(2, .int .i64 p2), (3, .pointer (some ⟨b1, 0, none⟩)), (4, .pointer (some ⟨b2, 0, none⟩)), (6, .bool false), (7, .pointer (some ⟨b12, 0, none⟩)), (8, .int .i64 y_7), (9, .int .i64 y_8), (42, .bool true)] rfl ⟨rfl, rfl, rfl, rfl, rfl, rfl, rfl, rfl, trivial⟩ ?_
            refine WO_end ?_
            cases hx14
            refine WK.sub ?_ (WK.cls (fun _ h => h) hk15)
            exact ⟨rfl, rfl, rfl, rfl, rfl, rfl, rfl, rfl, trivial⟩
          · have hx14 := ifF hb53 hx14
            refine WO_pure tbok 4 [(2, .int .i64 p2), (3, .pointer (some ⟨b1, 0, none⟩)), (4, .pointer (some ⟨b2, 0, none⟩)), (6, .bool false), (7, .pointer (some ⟨b12, 0, none⟩)), (8, .int .i64 y_7), (9, .int .i64 y_8), (42, .bool (decide (7 < p2)))] rfl ⟨rfl, rfl, rfl, rfl, rfl, rfl, rfl, rfl, trivial⟩ ?_
            refine WO_end ?_
            cases hx14
            refine WK.sub ?_ (WK.cls (fun _ h => h) hk15)
            exact ⟨rfl, rfl, rfl, rfl, rfl, rfl, rfl, rfl, trivial⟩
        · have hx14 := ifF hb52 hx14
          refine WO_pure tbok 7 [(2, .int .i64 p2), (3, .pointer (some ⟨b1, 0, none⟩)), (4, .pointer (some ⟨b2, 0, none⟩)), (6, .bool false), (7, .pointer (some ⟨b12, 0, none⟩)), (8, .int .i64 y_7), (9, .int .i64 y_8), (42, .bool false)] rfl ⟨rfl, rfl, rfl, rfl, rfl, rfl, rfl, rfl, trivial⟩ ?_
          refine WO_end ?_
          cases hx14
          refine WK.sub ?_ (WK.cls (fun _ h => h) hk15)
          exact ⟨rfl, rfl, rfl, rfl, rfl, rfl, rfl, rfl, trivial⟩
def aggregate_Sum_Q (r : Int × Int × Int × List Int × Int) : Value → List Ent → Prop := fun v L => ∃ (a0 : Option Addr) (q0 c0 : Nat), v = .tuple #[.agg #[.int .i64 r.1, .int .i64 r.2.1, .int .i64 r.2.2.1, .slice a0 q0 c0], .int .i64 r.2.2.2.2] ∧ OwnE 3 1 (I1 .i64) (.slice a0 q0 c0) r.2.2.2.1 L
theorem aggregate_Sum_walk {m : Mu} {p0_0 : Int} {p0_1 : Int} {p0_2 : Int} {p0_3 : List Int} {p1 : Int} {p2 : Int} {p3 : List Int} {a_p0_3 : Option Addr} {q_p0_3 c_p0_3 : Nat} {a_p3 : Option Addr} {q_p3 c_p3 : Nat} {fr0 : Nat × Nat} {tg0 : TypeId} (hg0 : m 0 = some (.cells ([.int .i64 1, .int .i64 0, .int .i64 (-1), .int .i64 0, .int .i64 0, .int .i64 1, .int .i64 0, .int .i64 (-1), .int .i64 1, .int .i64 1, .int .i64 (-1), .int .i64 (-1), .int .i64 1, .int .i64 (-1), .int .i64 (-1), .int .i64 1] : List Value).toArray tg0 fr0)) (h_p0_3 : SlR (FE (I1 .i64)) 1 m (.slice a_p0_3 q_p0_3 c_p0_3) p0_3) (h_p3 : SlR (FE (I1 .i64)) 1 m (.slice a_p3 q_p3 c_p3) p3) {r : Int × Int × Int × List Int × Int} (hm : aggregate_Sum p0_0 p0_1 p0_2 p0_3 p1 p2 p3 = some r) :
    Go.E.Spec Tryd.prog 12 [.agg #[.int .i64 p0_0, .int .i64 p0_1, .int .i64 p0_2, .slice a_p0_3 q_p0_3 c_p0_3], .int .i64 p1, .int .i64 p2, .slice a_p3 q_p3 c_p3] m (fun v _ L => aggregate_Sum_Q r v L) := by
  refine Spec_enter Tryd.func12 rfl rfl rfl (fun w0 => ?_)
  refine WK.sub (e' := [(0, .agg #[.int .i64 p0_0, .int .i64 p0_1, .int .i64 p0_2, .slice a_p0_3 q_p0_3 c_p0_3]), (1, .int .i64 p1), (2, .int .i64 p2), (3, .slice a_p3 q_p3 c_p3)]) ⟨rfl, rfl, rfl, rfl, trivial⟩ ?_
  obtain rfl := SlR.qlen h_p0_3
  obtain rfl := SlR.qlen h_p3
  refine WK.sub (e' := [(0, .agg #[.int .i64 p0_0, .int .i64 p0_1, .int .i64 p0_2, .slice a_p0_3 p0_3.length c_p0_3]), (1, .int .i64 p1), (2, .int .i64 p2), (3, .slice a_p3 p3.length c_p3)]) ⟨rfl, rfl, rfl, rfl, trivial⟩ ?_
  unfold aggregate_Sum at hm
  refine WK_seq ?_
  refine WK_region ?_
  refine WO_box [.int .i64 p0_0, .int .i64 p0_1, .int .i64 p0_2, .slice a_p0_3 p0_3.length c_p0_3] rfl rfl trivial rfl rfl rfl (fun b1 => ?_)
  refine WO.cls (C' := St w0 m m [[⟨b1, 24, [.int .i64 p0_0, .int .i64 p0_1, .int .i64 p0_2, .slice a_p0_3 p0_3.length c_p0_3]⟩]]) (fun _ h => h) ?_
  refine WO_alloc tbok [.int .i64 0, .int .i64 0, .int .i64 0, .slice none 0 0] rfl rfl trivial rfl rfl rfl rfl (fun b2 => ?_)
  refine WO.cls (C' := St w0 m m [[⟨b1, 24, [.int .i64 p0_0, .int .i64 p0_1, .int .i64 p0_2, .slice a_p0_3 p0_3.length c_p0_3]⟩], [⟨b2, 24, [.int .i64 0, .int .i64 0, .int .i64 0, .slice none 0 0]⟩]]) (fun _ h => h) ?_
  refine WO_pure tbok 1 [(1, .int .i64 p1), (2, .int .i64 p2), (3, .slice a_p3 p3.length c_p3), (4, .pointer (some ⟨b1, 0, none⟩)), (8, .pointer (some ⟨b2, 0, none⟩)), (9, .int .i64 0)] rfl ⟨rfl, rfl, rfl, rfl, rfl, rfl, trivial⟩ ?_
  refine WO_end ?_
  refine WK_seq ?_
  refine WK_seq ?_
  refine WK_region ?_
  refine WO_loadB tbok 0 rfl rfl rfl rfl (fun _ h => h) rfl rfl ?_
  refine WO_pure tbok 2 [(1, .int .i64 p1), (2, .int .i64 p2), (3, .slice a_p3 p3.length c_p3), (4, .pointer (some ⟨b1, 0, none⟩)), (8, .pointer (some ⟨b2, 0, none⟩)), (9, .int .i64 0), (18, .agg #[.int .i64 p0_0, .int .i64 p0_1, .int .i64 p0_2, .slice a_p0_3 p0_3.length c_p0_3]), (19, .int .i64 p1), (20, .int .i64 p2)] rfl ⟨rfl, rfl, rfl, rfl, rfl, rfl, rfl, rfl, rfl, trivial⟩ ?_
  obtain ⟨y_1, hc3, hm⟩ := bind_some hm
  refine WO_call0 (.int .i64 y_1) rfl rfl trivial rfl rfl rfl rfl St_closed ⟨17, #[], #[], rfl, callable_17, fun w hw => ⟨_, hw.sat, aggregate_grid_walk h_p0_3 hc3⟩⟩ ?_
  refine WO_pure tbok 1 [(1, .int .i64 p1), (2, .int .i64 p2), (3, .slice a_p3 p3.length c_p3), (4, .pointer (some ⟨b1, 0, none⟩)), (8, .pointer (some ⟨b2, 0, none⟩)), (9, .int .i64 0), (10, .int .i64 y_1)] rfl ⟨rfl, rfl, rfl, rfl, rfl, rfl, rfl, trivial⟩ ?_
  refine WO_end ?_
  refine WK_seq ?_
  refine WK_region ?_
  refine WO_pure tbok 2 [(1, .int .i64 p1), (2, .int .i64 p2), (3, .slice a_p3 p3.length c_p3), (4, .pointer (some ⟨b1, 0, none⟩)), (8, .pointer (some ⟨b2, 0, none⟩)), (9, .int .i64 0), (10, .int .i64 y_1), (23, .bool (y_1 != 0))] rfl ⟨rfl, rfl, rfl, rfl, rfl, rfl, rfl, rfl, trivial⟩ ?_
  refine WO_end ?_
  refine WK_cond (b := y_1 != 0) rfl (fun hb4 => ?_) (fun hb4 => ?_)
  · have hm := ifT hb4 hm
    refine WK_seq ?_
    refine WK_region ?_
    refine WO_pure tbok 2 [(1, .int .i64 p1), (2, .int .i64 p2), (3, .slice a_p3 p3.length c_p3), (4, .pointer (some ⟨b1, 0, none⟩)), (8, .pointer (some ⟨b2, 0, none⟩)), (9, .int .i64 0), (24, .agg #[.int .i64 0, .int .i64 0, .int .i64 0, .slice none 0 0]), (25, .int .i64 y_1)] rfl ⟨rfl, rfl, rfl, rfl, rfl, rfl, rfl, rfl, trivial⟩ ?_
    refine WO_storeB tbok 1 [.int .i64 0, .int .i64 0, .int .i64 0, .slice none 0 0] rfl rfl rfl rfl rfl rfl rfl ?_
    refine WO.cls (C' := St w0 m m [[⟨b1, 24, [.int .i64 p0_0, .int .i64 p0_1, .int .i64 p0_2, .slice a_p0_3 p0_3.length c_p0_3]⟩], [⟨b2, 24, [.int .i64 0, .int .i64 0, .int .i64 0, .slice none 0 0]⟩]]) (fun _ h => h) ?_
    refine WO_pure tbok 1 [(1, .int .i64 p1), (2, .int .i64 p2), (3, .slice a_p3 p3.length c_p3), (4, .pointer (some ⟨b1, 0, none⟩)), (8, .pointer (some ⟨b2, 0, none⟩)), (9, .int .i64 y_1)] rfl ⟨rfl, rfl, rfl, rfl, rfl, rfl, trivial⟩ ?_
    refine WO_end ?_
    cases hm
    exact WK_ret (ret_out (L := []) (RLc_cell tbok 1 rfl rfl rfl (RLc_tmp rfl RLc_nil)) (List.nil_sublist _) ⟨none, 0, 0, rfl, (OwnE.nil none)⟩)
  · have hm := ifF hb4 hm
    refine WK_skip ?_
    refine WK_seq ?_
    refine WK_seq ?_
    refine WK_region ?_
    refine WO_pure tbok 3 [(1, .int .i64 p1), (2, .int .i64 p2), (3, .slice a_p3 p3.length c_p3), (4, .pointer (some ⟨b1, 0, none⟩)), (8, .pointer (some ⟨b2, 0, none⟩)), (9, .int .i64 0), (28, .bool ((p3.length : Int) == 0))] rfl ⟨rfl, rfl, rfl, rfl, rfl, rfl, rfl, trivial⟩ ?_
    refine WO_end ?_
    refine WK_cond (b := (p3.length : Int) == 0) rfl (fun hb5 => ?_) (fun hb5 => ?_)
    · have hm := ifT hb5 hm
      refine WK_seq ?_
      refine WK_region ?_
      refine WO_pure tbok 1 [(1, .int .i64 p1), (2, .int .i64 p2), (3, .slice a_p3 p3.length c_p3), (4, .pointer (some ⟨b1, 0, none⟩)), (8, .pointer (some ⟨b2, 0, none⟩)), (9, .int .i64 0), (29, .agg #[.int .i64 0, .int .i64 0, .int .i64 0, .slice none 0 0])] rfl ⟨rfl, rfl, rfl, rfl, rfl, rfl, rfl, trivial⟩ ?_
      refine WO_storeB tbok 1 [.int .i64 0, .int .i64 0, .int .i64 0, .slice none 0 0] rfl rfl rfl rfl rfl rfl rfl ?_
      refine WO.cls (C' := St w0 m m [[⟨b1, 24, [.int .i64 p0_0, .int .i64 p0_1, .int .i64 p0_2, .slice a_p0_3 p0_3.length c_p0_3]⟩], [⟨b2, 24, [.int .i64 0, .int .i64 0, .int .i64 0, .slice none 0 0]⟩]]) (fun _ h => h) ?_
      refine WO_pure tbok 1 [(1, .int .i64 p1), (2, .int .i64 p2), (3, .slice a_p3 p3.length c_p3), (4, .pointer (some ⟨b1, 0, none⟩)), (8, .pointer (some ⟨b2, 0, none⟩)), (9, .int .i64 1)] rfl ⟨rfl, rfl, rfl, rfl, rfl, rfl, trivial⟩ ?_
      refine WO_end ?_
      cases hm
      exact WK_ret (ret_out (L := []) (RLc_cell tbok 1 rfl rfl rfl (RLc_tmp rfl RLc_nil)) (List.nil_sublist _) ⟨none, 0, 0, rfl, (OwnE.nil none)⟩)
    · have hm := ifF hb5 hm
      refine WK_skip ?_
      refine WK_seq ?_
      refine WK_seq ?_
      refine WK_region ?_
      refine WO_pure tbok 3 [(1, .int .i64 p1), (2, .int .i64 p2), (3, .slice a_p3 p3.length c_p3), (4, .pointer (some ⟨b1, 0, none⟩)), (8, .pointer (some ⟨b2, 0, none⟩)), (9, .int .i64 0), (30, .slice a_p3 p3.length c_p3), (31, .int .i64 (p3.length : Int)), (32, .int .i64 0)] rfl ⟨rfl, rfl, rfl, rfl, rfl, rfl, rfl, rfl, rfl, trivial⟩ ?_
      refine WO_end ?_
      obtain ⟨x6, hx7, hm⟩ := bind_some hm
      refine WK_join (β := Unit × Unit) (fun p => Sum.inr p.1 = x6) (fun p => [(1, .int .i64 p1), (2, .int .i64 p2), (3, .slice a_p3 p3.length c_p3), (4, .pointer (some ⟨b1, 0, none⟩)), (8, .pointer (some ⟨b2, 0, none⟩)), (9, .int .i64 0)]) (fun p => St w0 m m [[⟨b1, 24, [.int .i64 p0_0, .int .i64 p0_1, .int .i64 p0_2, .slice a_p0_3 p0_3.length c_p0_3]⟩], [⟨b2, 24, [.int .i64 0, .int .i64 0, .int .i64 0, .slice none 0 0]⟩]]) ?_ (fun hk8 => ?_)
      · rintro ⟨⟨⟩, ⟨⟩⟩ hq14
        subst hq14
        refine WK.sub (e' := [(1, .int .i64 p1), (2, .int .i64 p2), (3, .slice a_p3 p3.length c_p3), (4, .pointer (some ⟨b1, 0, none⟩)), (8, .pointer (some ⟨b2, 0, none⟩)), (9, .int .i64 0)]) ⟨rfl, rfl, rfl, rfl, rfl, rfl, trivial⟩ (WK.cls (C' := St w0 m m [[⟨b1, 24, [.int .i64 p0_0, .int .i64 p0_1, .int .i64 p0_2, .slice a_p0_3 p0_3.length c_p0_3]⟩], [⟨b2, 24, [.int .i64 0, .int .i64 0, .int .i64 0, .slice none 0 0]⟩]]) (fun _ h => h) ?_)
        refine WK_seq ?_
        obtain ⟨⟨l_3, s_4, s_5, s_6⟩, hx19, hm⟩ := bind_some hm
        refine WK_join (β := Option Addr × Nat × List Ent × Nat) (fun p => OwnE 3 1 (I1 .i64) (.slice p.1 ((l_3).length) p.2.1) l_3 p.2.2.1) (fun p => [(1, .int .i64 p1), (2, .int .i64 p2), (3, .slice a_p3 p3.length c_p3), (4, .pointer (some ⟨b1, 0, none⟩)), (8, .pointer (some ⟨b2, 0, none⟩)), (9, .int .i64 0), (13, .pointer (some ⟨p.2.2.2, 0, none⟩))]) (fun p => St w0 m m [[⟨b1, 24, [.int .i64 p0_0, .int .i64 p0_1, .int .i64 p0_2, .slice a_p0_3 p0_3.length c_p0_3]⟩], [⟨b2, 24, [.int .i64 0, .int .i64 0, .int .i64 0, .slice none 0 0]⟩], [⟨p.2.2.2, 24, [.int .i64 s_4, .int .i64 s_5, .int .i64 s_6, .slice p.1 ((l_3).length) p.2.1]⟩], p.2.2.1]) ?_ (fun hk20 => ?_)
        · rintro ⟨a15, c16, L17, b18⟩ hL17
          refine WK.sub (e' := [(1, .int .i64 p1), (2, .int .i64 p2), (3, .slice a_p3 p3.length c_p3), (4, .pointer (some ⟨b1, 0, none⟩)), (8, .pointer (some ⟨b2, 0, none⟩)), (9, .int .i64 0), (13, .pointer (some ⟨b18, 0, none⟩))]) ⟨rfl, rfl, rfl, rfl, rfl, rfl, rfl, trivial⟩ (WK.cls (C' := St w0 m m [[⟨b1, 24, [.int .i64 p0_0, .int .i64 p0_1, .int .i64 p0_2, .slice a_p0_3 p0_3.length c_p0_3]⟩], [⟨b2, 24, [.int .i64 0, .int .i64 0, .int .i64 0, .slice none 0 0]⟩], [⟨b18, 24, [.int .i64 s_4, .int .i64 s_5, .int .i64 s_6, .slice a15 ((l_3).length) c16]⟩], L17]) (fun _ h => h) ?_)
          refine WK_seq ?_
          refine WK_seq ?_
          refine WK_region ?_
          refine WO_pure tbok 3 [(1, .int .i64 p1), (2, .int .i64 p2), (4, .pointer (some ⟨b1, 0, none⟩)), (8, .pointer (some ⟨b2, 0, none⟩)), (9, .int .i64 0), (13, .pointer (some ⟨b18, 0, none⟩)), (69, .slice a_p3 p3.length c_p3), (70, .int .i64 (p3.length : Int)), (71, .int .i64 0)] rfl ⟨rfl, rfl, rfl, rfl, rfl, rfl, rfl, rfl, rfl, trivial⟩ ?_
          refine WO_end ?_
          obtain ⟨x23, hx24, hm⟩ := bind_some hm
          refine WK_join (β := (List Int) × (List Ent)) (fun p => p.1 = x23 ∧ OwnE 3 1 (I1 .i64) (.slice a15 ((l_3).length) c16) p.1 p.2) (fun p => [(8, .pointer (some ⟨b2, 0, none⟩)), (9, .int .i64 0), (13, .pointer (some ⟨b18, 0, none⟩))]) (fun p => St w0 m m [[⟨b1, 24, [.int .i64 p0_0, .int .i64 p0_1, .int .i64 p0_2, .slice a_p0_3 p0_3.length c_p0_3]⟩], [⟨b2, 24, [.int .i64 0, .int .i64 0, .int .i64 0, .slice none 0 0]⟩], [⟨b18, 24, [.int .i64 s_4, .int .i64 s_5, .int .i64 s_6, .slice a15 ((l_3).length) c16]⟩], p.2]) ?_ (fun hk25 => ?_)
          · rintro ⟨l_9, L22⟩ ⟨hq31, hL22⟩
            subst hq31
            refine WK.sub (e' := [(8, .pointer (some ⟨b2, 0, none⟩)), (9, .int .i64 0), (13, .pointer (some ⟨b18, 0, none⟩))]) ⟨rfl, rfl, rfl, trivial⟩ (WK.cls (C' := St w0 m m [[⟨b1, 24, [.int .i64 p0_0, .int .i64 p0_1, .int .i64 p0_2, .slice a_p0_3 p0_3.length c_p0_3]⟩], [⟨b2, 24, [.int .i64 0, .int .i64 0, .int .i64 0, .slice none 0 0]⟩], [⟨b18, 24, [.int .i64 s_4, .int .i64 s_5, .int .i64 s_6, .slice a15 ((l_3).length) c16]⟩], L22]) (fun _ h => h) ?_)
            refine WK_seq ?_
            refine WK_region ?_
            refine WO_loadB tbok 2 rfl rfl rfl rfl (fun _ h => h) rfl rfl ?_
            refine WO_storeB tbok 1 [.int .i64 s_4, .int .i64 s_5, .int .i64 s_6, .slice a15 ((l_3).length) c16] rfl rfl rfl rfl rfl rfl rfl ?_
            refine WO.cls (C' := St w0 m m [[⟨b1, 24, [.int .i64 p0_0, .int .i64 p0_1, .int .i64 p0_2, .slice a_p0_3 p0_3.length c_p0_3]⟩], [⟨b2, 24, [.int .i64 s_4, .int .i64 s_5, .int .i64 s_6, .slice a15 ((l_3).length) c16]⟩], [⟨b18, 24, [.int .i64 s_4, .int .i64 s_5, .int .i64 s_6, .slice a15 ((l_3).length) c16]⟩], L22]) (fun _ h => h) ?_
            refine WO_pure tbok 1 [(8, .pointer (some ⟨b2, 0, none⟩)), (9, .int .i64 0)] rfl ⟨rfl, rfl, trivial⟩ ?_
            refine WO_end ?_
            cases hm
            exact WK_ret (ret_out (L := L22) (RLc_cell tbok 1 rfl rfl rfl (RLc_tmp rfl RLc_nil)) (seg_sub 3 rfl) ⟨a15, _, c16, rfl, hL22⟩)
          · refine WK_block ?_
            refine WK_loop (S := List Int × Int) (G := List Ent) (fun s => aggregate_Sum_s2 p0_0 p0_1 p0_2 p0_3 p1 p2 p3 s.1 s.2) (fun s g => [(1, .int .i64 p1), (2, .int .i64 p2), (4, .pointer (some ⟨b1, 0, none⟩)), (8, .pointer (some ⟨b2, 0, none⟩)), (9, .int .i64 0), (13, .pointer (some ⟨b18, 0, none⟩)), (69, .slice a_p3 p3.length c_p3), (70, .int .i64 (p3.length : Int)), (71, .int .i64 s.2)]) (fun s g => St w0 m m [[⟨b1, 24, [.int .i64 p0_0, .int .i64 p0_1, .int .i64 p0_2, .slice a_p0_3 p0_3.length c_p0_3]⟩], [⟨b2, 24, [.int .i64 0, .int .i64 0, .int .i64 0, .slice none 0 0]⟩], [⟨b18, 24, [.int .i64 s_4, .int .i64 s_5, .int .i64 s_6, .slice a15 ((l_3).length) c16]⟩], g]) (fun s g => OwnE 3 1 (I1 .i64) (.slice a15 ((l_3).length) c16) s.1 g) FUEL (l_3, 0) L17 x23 hx24 hL17 ⟨rfl, rfl, rfl, rfl, rfl, rfl, rfl, rfl, rfl, trivial⟩ (fun _ h => h) ?_
            rintro ⟨l_7, s_8⟩ L21 o27 fl28 hm26 hL21 hn29 hd30
            have hm26 : aggregate_Sum_s2 p0_0 p0_1 p0_2 p0_3 p1 p2 p3 l_7 s_8 = some o27 := hm26
            unfold aggregate_Sum_s2 at hm26
            refine WK.sub (e' := [(1, .int .i64 p1), (2, .int .i64 p2), (4, .pointer (some ⟨b1, 0, none⟩)), (8, .pointer (some ⟨b2, 0, none⟩)), (9, .int .i64 0), (13, .pointer (some ⟨b18, 0, none⟩)), (69, .slice a_p3 p3.length c_p3), (70, .int .i64 (p3.length : Int)), (71, .int .i64 s_8)]) ⟨rfl, rfl, rfl, rfl, rfl, rfl, rfl, rfl, rfl, trivial⟩ (WK.cls (C' := St w0 m m [[⟨b1, 24, [.int .i64 p0_0, .int .i64 p0_1, .int .i64 p0_2, .slice a_p0_3 p0_3.length c_p0_3]⟩], [⟨b2, 24, [.int .i64 0, .int .i64 0, .int .i64 0, .slice none 0 0]⟩], [⟨b18, 24, [.int .i64 s_4, .int .i64 s_5, .int .i64 s_6, .slice a15 ((l_3).length) c16]⟩], L21]) (fun _ h => h) ?_)
            refine WK_seq ?_
            refine WK_region ?_
            refine WO_pure tbok 1 [(1, .int .i64 p1), (2, .int .i64 p2), (4, .pointer (some ⟨b1, 0, none⟩)), (8, .pointer (some ⟨b2, 0, none⟩)), (9, .int .i64 0), (13, .pointer (some ⟨b18, 0, none⟩)), (69, .slice a_p3 p3.length c_p3), (70, .int .i64 (p3.length : Int)), (71, .int .i64 s_8), (72, .bool (decide (s_8 < (p3.length : Int))))] rfl ⟨rfl, rfl, rfl, rfl, rfl, rfl, rfl, rfl, rfl, rfl, trivial⟩ ?_
            refine WO_end ?_
            refine WK_seq ?_
            refine WK_cond (b := decide (s_8 < (p3.length : Int))) rfl (fun hb32 => ?_) (fun hb32 => ?_)
            · have hm26 := ifT hb32 hm26
              refine WK_skip ?_
              refine WK_seq ?_
              refine WK_block ?_
              refine WK_seq ?_
              refine WK_region ?_
              obtain ⟨v_10, hy33, hm26⟩ := bind_some hm26
              obtain ⟨hc34, hy33⟩ := ix_some hy33
              refine WO_index tbok rfl rfl rfl rfl rfl rfl rfl rfl (SlR.addr h_p3) hc34 ?_
              refine WO_loadE tbok rfl rfl rfl rfl (fun _ h => St.sat h) h_p3 hy33 rfl ?_
              refine WO_pure tbok 1 [(1, .int .i64 p1), (2, .int .i64 p2), (4, .pointer (some ⟨b1, 0, none⟩)), (8, .pointer (some ⟨b2, 0, none⟩)), (9, .int .i64 0), (13, .pointer (some ⟨b18, 0, none⟩)), (15, .int .i64 v_10), (69, .slice a_p3 p3.length c_p3), (70, .int .i64 (p3.length : Int)), (71, .int .i64 s_8)] rfl ⟨rfl, rfl, rfl, rfl, rfl, rfl, rfl, rfl, rfl, rfl, trivial⟩ ?_
              refine WO_end ?_
              refine WK_seq ?_
              refine WK_region ?_
              refine WO_loadB tbok 0 rfl rfl rfl rfl (fun _ h => h) rfl rfl ?_
              refine WO_pure tbok 3 [(1, .int .i64 p1), (2, .int .i64 p2), (4, .pointer (some ⟨b1, 0, none⟩)), (8, .pointer (some ⟨b2, 0, none⟩)), (9, .int .i64 0), (13, .pointer (some ⟨b18, 0, none⟩)), (69, .slice a_p3 p3.length c_p3), (70, .int .i64 (p3.length : Int)), (71, .int .i64 s_8), (75, .agg #[.int .i64 p0_0, .int .i64 p0_1, .int .i64 p0_2, .slice a_p0_3 p0_3.length c_p0_3]), (76, .int .i64 p1), (77, .int .i64 p2), (78, .int .i64 v_10)] rfl ⟨rfl, rfl, rfl, rfl, rfl, rfl, rfl, rfl, rfl, rfl, rfl, rfl, rfl, trivial⟩ ?_
              obtain ⟨⟨y_11, y_12, y_13, y_14⟩, hc35, hm26⟩ := bind_some hm26
              refine WO_call1 (aggregate_path_Q (y_11, y_12, y_13, y_14)) rfl rfl trivial rfl rfl rfl rfl ⟨18, #[], #[], rfl, callable_18, fun w hw => ⟨_, hw.sat, aggregate_path_walk hg0 h_p0_3 hc35⟩⟩ (fun v39 L38 hq => ?_)
              obtain ⟨a36, qa36, c37, rfl, hL38⟩ := hq
              obtain rfl := OwnE.qlen hL38
              refine WO.cls (C' := St w0 m m [[⟨b1, 24, [.int .i64 p0_0, .int .i64 p0_1, .int .i64 p0_2, .slice a_p0_3 p0_3.length c_p0_3]⟩], [⟨b2, 24, [.int .i64 0, .int .i64 0, .int .i64 0, .slice none 0 0]⟩], [⟨b18, 24, [.int .i64 s_4, .int .i64 s_5, .int .i64 s_6, .slice a15 ((l_3).length) c16]⟩], L21, L38]) (fun _ h => h) ?_
              refine WO_field tbok rfl rfl trivial rfl rfl rfl rfl rfl rfl rfl rfl ?_
              refine WO_pure tbok 2 [(1, .int .i64 p1), (2, .int .i64 p2), (4, .pointer (some ⟨b1, 0, none⟩)), (8, .pointer (some ⟨b2, 0, none⟩)), (9, .int .i64 0), (13, .pointer (some ⟨b18, 0, none⟩)), (69, .slice a_p3 p3.length c_p3), (70, .int .i64 (p3.length : Int)), (71, .int .i64 s_8), (80, .slice a36 ((y_14).length) c37), (81, .int .i64 ((y_14).length : Int)), (82, .int .i64 0)] rfl ⟨rfl, rfl, rfl, rfl, rfl, rfl, rfl, rfl, rfl, rfl, rfl, rfl, trivial⟩ ?_
              refine WO_end ?_
              obtain ⟨x42, hx43, hm26⟩ := bind_some hm26
              refine WK_join (β := (List Int) × (List Ent)) (fun p => p.1 = x42 ∧ OwnE 3 1 (I1 .i64) (.slice a15 ((l_3).length) c16) p.1 p.2) (fun p => [(1, .int .i64 p1), (2, .int .i64 p2), (4, .pointer (some ⟨b1, 0, none⟩)), (8, .pointer (some ⟨b2, 0, none⟩)), (9, .int .i64 0), (13, .pointer (some ⟨b18, 0, none⟩)), (69, .slice a_p3 p3.length c_p3), (70, .int .i64 (p3.length : Int)), (71, .int .i64 s_8)]) (fun p => St w0 m m [[⟨b1, 24, [.int .i64 p0_0, .int .i64 p0_1, .int .i64 p0_2, .slice a_p0_3 p0_3.length c_p0_3]⟩], [⟨b2, 24, [.int .i64 0, .int .i64 0, .int .i64 0, .slice none 0 0]⟩], [⟨b18, 24, [.int .i64 s_4, .int .i64 s_5, .int .i64 s_6, .slice a15 ((l_3).length) c16]⟩], p.2, L38]) ?_ (fun hk44 => ?_)
              · rintro ⟨l_17, L41⟩ ⟨hq50, hL41⟩
                subst hq50
                refine WK.sub (e' := [(1, .int .i64 p1), (2, .int .i64 p2), (4, .pointer (some ⟨b1, 0, none⟩)), (8, .pointer (some ⟨b2, 0, none⟩)), (9, .int .i64 0), (13, .pointer (some ⟨b18, 0, none⟩)), (69, .slice a_p3 p3.length c_p3), (70, .int .i64 (p3.length : Int)), (71, .int .i64 s_8)]) ⟨rfl, rfl, rfl, rfl, rfl, rfl, rfl, rfl, rfl, trivial⟩ (WK.cls (C' := St w0 m m [[⟨b1, 24, [.int .i64 p0_0, .int .i64 p0_1, .int .i64 p0_2, .slice a_p0_3 p0_3.length c_p0_3]⟩], [⟨b2, 24, [.int .i64 0, .int .i64 0, .int .i64 0, .slice none 0 0]⟩], [⟨b18, 24, [.int .i64 s_4, .int .i64 s_5, .int .i64 s_6, .slice a15 ((l_3).length) c16]⟩], L41, L38]) (fun _ h => h) ?_)
                refine WK_blk ?_
                refine WK_region ?_
                refine WO_pure tbok 2 [(1, .int .i64 p1), (2, .int .i64 p2), (4, .pointer (some ⟨b1, 0, none⟩)), (8, .pointer (some ⟨b2, 0, none⟩)), (9, .int .i64 0), (13, .pointer (some ⟨b18, 0, none⟩)), (69, .slice a_p3 p3.length c_p3), (70, .int .i64 (p3.length : Int)), (71, .int .i64 (w64 (s_8 + 1)))] rfl ⟨rfl, rfl, rfl, rfl, rfl, rfl, rfl, rfl, rfl, trivial⟩ ?_
                refine WO_end ?_
                cases hm26
                refine WK.sub ?_ (WK.cls (fun _ h => St.take 4 h) (hn29 _ L41 rfl hL41))
                exact ⟨rfl, rfl, rfl, rfl, rfl, rfl, rfl, rfl, rfl, trivial⟩
              · refine WK_block ?_
                refine WK_loop (S := List Int × Int) (G := List Ent) (fun s => aggregate_Sum_s3 y_14 s.1 s.2) (fun s g => [(1, .int .i64 p1), (2, .int .i64 p2), (4, .pointer (some ⟨b1, 0, none⟩)), (8, .pointer (some ⟨b2, 0, none⟩)), (9, .int .i64 0), (13, .pointer (some ⟨b18, 0, none⟩)), (69, .slice a_p3 p3.length c_p3), (70, .int .i64 (p3.length : Int)), (71, .int .i64 s_8), (80, .slice a36 ((y_14).length) c37), (81, .int .i64 ((y_14).length : Int)), (82, .int .i64 s.2)]) (fun s g => St w0 m m [[⟨b1, 24, [.int .i64 p0_0, .int .i64 p0_1, .int .i64 p0_2, .slice a_p0_3 p0_3.length c_p0_3]⟩], [⟨b2, 24, [.int .i64 0, .int .i64 0, .int .i64 0, .slice none 0 0]⟩], [⟨b18, 24, [.int .i64 s_4, .int .i64 s_5, .int .i64 s_6, .slice a15 ((l_3).length) c16]⟩], g, L38]) (fun s g => OwnE 3 1 (I1 .i64) (.slice a15 ((l_3).length) c16) s.1 g) FUEL (l_7, 0) L21 x42 hx43 hL21 ⟨rfl, rfl, rfl, rfl, rfl, rfl, rfl, rfl, rfl, rfl, rfl, rfl, trivial⟩ (fun _ h => h) ?_
                rintro ⟨l_15, s_16⟩ L40 o46 fl47 hm45 hL40 hn48 hd49
                have hm45 : aggregate_Sum_s3 y_14 l_15 s_16 = some o46 := hm45
                unfold aggregate_Sum_s3 at hm45
                refine WK.sub (e' := [(1, .int .i64 p1), (2, .int .i64 p2), (4, .pointer (some ⟨b1, 0, none⟩)), (8, .pointer (some ⟨b2, 0, none⟩)), (9, .int .i64 0), (13, .pointer (some ⟨b18, 0, none⟩)), (69, .slice a_p3 p3.length c_p3), (70, .int .i64 (p3.length : Int)), (71, .int .i64 s_8), (80, .slice a36 ((y_14).length) c37), (81, .int .i64 ((y_14).length : Int)), (82, .int .i64 s_16)]) ⟨rfl, rfl, rfl, rfl, rfl, rfl, rfl, rfl, rfl, rfl, rfl, rfl, trivial⟩ (WK.cls (C' := St w0 m m [[⟨b1, 24, [.int .i64 p0_0, .int .i64 p0_1, .int .i64 p0_2, .slice a_p0_3 p0_3.length c_p0_3]⟩], [⟨b2, 24, [.int .i64 0, .int .i64 0, .int .i64 0, .slice none 0 0]⟩], [⟨b18, 24, [.int .i64 s_4, .int .i64 s_5, .int .i64 s_6, .slice a15 ((l_3).length) c16]⟩], L40, L38]) (fun _ h => h) ?_)
                refine WK_seq ?_
                refine WK_region ?_
                refine WO_pure tbok 1 [(1, .int .i64 p1), (2, .int .i64 p2), (4, .pointer (some ⟨b1, 0, none⟩)), (8, .pointer (some ⟨b2, 0, none⟩)), (9, .int .i64 0), (13, .pointer (some ⟨b18, 0, none⟩)), (69, .slice a_p3 p3.length c_p3), (70, .int .i64 (p3.length : Int)), (71, .int .i64 s_8), (80, .slice a36 ((y_14).length) c37), (81, .int .i64 ((y_14).length : Int)), (82, .int .i64 s_16), (83, .bool (decide (s_16 < ((y_14).length : Int))))] rfl ⟨rfl, rfl, rfl, rfl, rfl, rfl, rfl, rfl, rfl, rfl, rfl, rfl, rfl, trivial⟩ ?_
                refine WO_end ?_
                refine WK_seq ?_
                refine WK_cond (b := decide (s_16 < ((y_14).length : Int))) rfl (fun hb51 => ?_) (fun hb51 => ?_)
                · have hm45 := ifT hb51 hm45
                  refine WK_skip ?_
                  refine WK_seq ?_
                  refine WK_block ?_
                  refine WK_seq ?_
                  refine WK_region ?_
                  refine WO_pure tbok 1 [(1, .int .i64 p1), (2, .int .i64 p2), (4, .pointer (some ⟨b1, 0, none⟩)), (8, .pointer (some ⟨b2, 0, none⟩)), (9, .int .i64 0), (13, .pointer (some ⟨b18, 0, none⟩)), (69, .slice a_p3 p3.length c_p3), (70, .int .i64 (p3.length : Int)), (71, .int .i64 s_8), (80, .slice a36 ((y_14).length) c37), (81, .int .i64 ((y_14).length : Int)), (82, .int .i64 s_16), (84, .int .i64 s_16)] rfl ⟨rfl, rfl, rfl, rfl, rfl, rfl, rfl, rfl, rfl, rfl, rfl, rfl, rfl, trivial⟩ ?_
                  obtain ⟨v_18, hy52, hm45⟩ := bind_some hm45
                  obtain ⟨hc53, hy52⟩ := ix_some hy52
                  refine WO_index tbok rfl rfl rfl rfl rfl rfl rfl rfl (OwnE.addr hL38) (by simpa using hc53) ?_
                  refine WO_loadO (E := (I1 .i64)) tbok (fun _ => rfl) 4 rfl rfl rfl rfl (fun _ h => h) hL38 rfl hy52 rfl ?_
                  refine WO_pure tbok 2 [(1, .int .i64 p1), (2, .int .i64 p2), (4, .pointer (some ⟨b1, 0, none⟩)), (8, .pointer (some ⟨b2, 0, none⟩)), (9, .int .i64 0), (13, .pointer (some ⟨b18, 0, none⟩)), (16, .int .i64 s_16), (17, .int .i64 v_18), (69, .slice a_p3 p3.length c_p3), (70, .int .i64 (p3.length : Int)), (71, .int .i64 s_8), (80, .slice a36 ((y_14).length) c37), (81, .int .i64 ((y_14).length : Int)), (82, .int .i64 s_16)] rfl ⟨rfl, rfl, rfl, rfl, rfl, rfl, rfl, rfl, rfl, rfl, rfl, rfl, rfl, rfl, trivial⟩ ?_
                  refine WO_end ?_
                  refine WK_region ?_
                  refine WO_pure tbok 1 [(1, .int .i64 p1), (2, .int .i64 p2), (4, .pointer (some ⟨b1, 0, none⟩)), (8, .pointer (some ⟨b2, 0, none⟩)), (9, .int .i64 0), (13, .pointer (some ⟨b18, 0, none⟩)), (16, .int .i64 s_16), (17, .int .i64 v_18), (69, .slice a_p3 p3.length c_p3), (70, .int .i64 (p3.length : Int)), (71, .int .i64 s_8), (80, .slice a36 ((y_14).length) c37), (81, .int .i64 ((y_14).length : Int)), (82, .int .i64 s_16), (87, .pointer (some ⟨b18, 3, none⟩))] rfl ⟨rfl, rfl, rfl, rfl, rfl, rfl, rfl, rfl, rfl, rfl, rfl, rfl, rfl, rfl, rfl, trivial⟩ ?_
                  refine WO_loadB tbok 2 rfl rfl rfl rfl (fun _ h => h) rfl rfl ?_
                  refine WO_pure tbok 1 [(1, .int .i64 p1), (2, .int .i64 p2), (4, .pointer (some ⟨b1, 0, none⟩)), (8, .pointer (some ⟨b2, 0, none⟩)), (9, .int .i64 0), (13, .pointer (some ⟨b18, 0, none⟩)), (17, .int .i64 v_18), (69, .slice a_p3 p3.length c_p3), (70, .int .i64 (p3.length : Int)), (71, .int .i64 s_8), (80, .slice a36 ((y_14).length) c37), (81, .int .i64 ((y_14).length : Int)), (82, .int .i64 s_16), (88, .slice a15 ((l_3).length) c16), (89, .int .i64 s_16)] rfl ⟨rfl, rfl, rfl, rfl, rfl, rfl, rfl, rfl, rfl, rfl, rfl, rfl, rfl, rfl, rfl, trivial⟩ ?_
                  obtain ⟨v_19, hy54, hm45⟩ := bind_some hm45
                  obtain ⟨hc55, hy54⟩ := ix_some hy54
                  refine WO_index tbok rfl rfl rfl rfl rfl rfl rfl rfl (OwnE.addr hL40) (by simpa using hc55) ?_
                  refine WO_loadO (E := (I1 .i64)) tbok (fun _ => rfl) 3 rfl rfl rfl rfl (fun _ h => h) hL40 rfl hy54 rfl ?_
                  refine WO_pure tbok 2 [(1, .int .i64 p1), (2, .int .i64 p2), (4, .pointer (some ⟨b1, 0, none⟩)), (8, .pointer (some ⟨b2, 0, none⟩)), (9, .int .i64 0), (13, .pointer (some ⟨b18, 0, none⟩)), (69, .slice a_p3 p3.length c_p3), (70, .int .i64 (p3.length : Int)), (71, .int .i64 s_8), (80, .slice a36 ((y_14).length) c37), (81, .int .i64 ((y_14).length : Int)), (82, .int .i64 s_16), (88, .slice a15 ((l_3).length) c16), (89, .int .i64 s_16), (93, .int .i64 (w64 (v_19 + v_18)))] rfl ⟨rfl, rfl, rfl, rfl, rfl, rfl, rfl, rfl, rfl, rfl, rfl, rfl, rfl, rfl, rfl, trivial⟩ ?_
                  obtain ⟨hc56, hm45⟩ := chk_some hm45
                  refine WO_index tbok rfl rfl rfl rfl rfl rfl rfl rfl (OwnE.addr hL40) (by simpa using hc56) ?_
                  refine WO_storeO (E := (I1 .i64)) tbok (fun _ => rfl) 3 (w64 (v_19 + v_18)) rfl rfl rfl rfl rfl hL40 rfl (by simpa using idx_lt hc56) rfl rfl rfl rfl (fun L57 hL57 => ?_)
                  refine WO.cls (C' := St w0 m m [[⟨b1, 24, [.int .i64 p0_0, .int .i64 p0_1, .int .i64 p0_2, .slice a_p0_3 p0_3.length c_p0_3]⟩], [⟨b2, 24, [.int .i64 0, .int .i64 0, .int .i64 0, .slice none 0 0]⟩], [⟨b18, 24, [.int .i64 s_4, .int .i64 s_5, .int .i64 s_6, .slice a15 ((l_3).length) c16]⟩], L57, L38]) (fun _ h => h) ?_
                  refine WO_end ?_
                  refine WK_blk ?_
                  refine WK_region ?_
                  refine WO_pure tbok 2 [(1, .int .i64 p1), (2, .int .i64 p2), (4, .pointer (some ⟨b1, 0, none⟩)), (8, .pointer (some ⟨b2, 0, none⟩)), (9, .int .i64 0), (13, .pointer (some ⟨b18, 0, none⟩)), (69, .slice a_p3 p3.length c_p3), (70, .int .i64 (p3.length : Int)), (71, .int .i64 s_8), (80, .slice a36 ((y_14).length) c37), (81, .int .i64 ((y_14).length : Int)), (82, .int .i64 (w64 (s_16 + 1)))] rfl ⟨rfl, rfl, rfl, rfl, rfl, rfl, rfl, rfl, rfl, rfl, rfl, rfl, trivial⟩ ?_
                  refine WO_end ?_
                  cases hm45
                  refine WK.sub ?_ (WK.cls (fun _ h => h) (hn48 _ L57 rfl hL57))
                  exact ⟨rfl, rfl, rfl, rfl, rfl, rfl, rfl, rfl, rfl, rfl, rfl, rfl, trivial⟩
                · have hm45 := ifF hb51 hm45
                  refine WK_exit rfl ?_
                  cases hm45
                  refine WK.sub ?_ (WK.cls (fun _ h => h) (hk44 (l_15, L40) ⟨(hd49 _ rfl), hL40⟩))
                  exact ⟨rfl, rfl, rfl, rfl, rfl, rfl, rfl, rfl, rfl, trivial⟩
            · have hm26 := ifF hb32 hm26
              refine WK_exit rfl ?_
              cases hm26
              refine WK.sub ?_ (WK.cls (fun _ h => h) (hk25 (l_7, L21) ⟨(hd30 _ rfl), hL21⟩))
              exact ⟨rfl, rfl, rfl, trivial⟩
        · refine WK_plan 12 [0, 2, 4, 6] (.run [1, 3, 5, 7, 8] (.alt 9 (.run [10, 11] .fin) (.alt 11 (.run [9, 10] .fin) .none))) follows_ok (by kernel_rfl) St_closed ?_
          refine WO_pure tbok 4 [(1, .int .i64 p1), (2, .int .i64 p2), (3, .slice a_p3 p3.length c_p3), (4, .pointer (some ⟨b1, 0, none⟩)), (8, .pointer (some ⟨b2, 0, none⟩)), (9, .int .i64 0), (58, .pointer (some ⟨b1, 0, none⟩)), (60, .pointer (some ⟨b1, 1, none⟩)), (62, .pointer (some ⟨b1, 2, none⟩)), (64, .pointer (some ⟨b1, 3, none⟩))] rfl ⟨rfl, rfl, rfl, rfl, rfl, rfl, rfl, rfl, rfl, rfl, trivial⟩ ?_
          refine WO_plan ?_
          refine WT_run ?_
          refine WO_loadB tbok 0 rfl rfl rfl rfl (fun _ h => h) rfl rfl ?_
          refine WO_loadB tbok 0 rfl rfl rfl rfl (fun _ h => h) rfl rfl ?_
          refine WO_loadB tbok 0 rfl rfl rfl rfl (fun _ h => h) rfl rfl ?_
          refine WO_loadB tbok 0 rfl rfl rfl rfl (fun _ h => h) rfl rfl ?_
          refine WO_pure tbok 1 [(1, .int .i64 p1), (2, .int .i64 p2), (3, .slice a_p3 p3.length c_p3), (4, .pointer (some ⟨b1, 0, none⟩)), (8, .pointer (some ⟨b2, 0, none⟩)), (9, .int .i64 0), (59, .int .i64 p0_0), (61, .int .i64 p0_1), (63, .int .i64 p0_2), (66, .int .i64 (p0_3.length : Int))] rfl ⟨rfl, rfl, rfl, rfl, rfl, rfl, rfl, rfl, rfl, rfl, trivial⟩ ?_
          refine WO_tree rfl ?_
          refine WT_alt rfl ?_ ?_
          · obtain ⟨hc58, hx19⟩ := chk_some hx19
            refine WO_make (E := (I1 .i64)) tbok (fun _ => rfl) (by decide) (0 : Int) rfl rfl St_closed rfl rfl rfl rfl rfl rfl rfl rfl rfl (mk_ok (by decide) hc58) (fun b59 c60 L61 hL61 => ?_)
            refine WO.cls (C' := St w0 m m [[⟨b1, 24, [.int .i64 p0_0, .int .i64 p0_1, .int .i64 p0_2, .slice a_p0_3 p0_3.length c_p0_3]⟩], [⟨b2, 24, [.int .i64 0, .int .i64 0, .int .i64 0, .slice none 0 0]⟩], L61]) (fun _ h => h) ?_
            refine WO_tree rfl ?_
            refine WT_run ?_
            refine WO_pure tbok 1 [(1, .int .i64 p1), (2, .int .i64 p2), (3, .slice a_p3 p3.length c_p3), (4, .pointer (some ⟨b1, 0, none⟩)), (8, .pointer (some ⟨b2, 0, none⟩)), (9, .int .i64 0), (68, .agg #[.int .i64 p0_0, .int .i64 p0_1, .int .i64 p0_2, .slice (some ⟨b59, 0, none⟩) ((List.replicate (p0_3.length : Int).toNat (0 : Int)).length) c60])] rfl ⟨rfl, rfl, rfl, rfl, rfl, rfl, rfl, trivial⟩ ?_
            refine WO_alloc tbok [.int .i64 0, .int .i64 0, .int .i64 0, .slice none 0 0] rfl rfl St_closed rfl rfl rfl rfl (fun b62 => ?_)
            refine WO.cls (C' := St w0 m m [[⟨b1, 24, [.int .i64 p0_0, .int .i64 p0_1, .int .i64 p0_2, .slice a_p0_3 p0_3.length c_p0_3]⟩], [⟨b2, 24, [.int .i64 0, .int .i64 0, .int .i64 0, .slice none 0 0]⟩], L61, [⟨b62, 24, [.int .i64 0, .int .i64 0, .int .i64 0, .slice none 0 0]⟩]]) (fun _ h => h) ?_
            refine WO_tree rfl ?_
            refine WT_fin ?_
            refine WO_storeB tbok 3 [.int .i64 p0_0, .int .i64 p0_1, .int .i64 p0_2, .slice (some ⟨b59, 0, none⟩) ((List.replicate (p0_3.length : Int).toNat (0 : Int)).length) c60] rfl rfl rfl rfl rfl rfl rfl ?_
            refine WO.cls (C' := St w0 m m [[⟨b1, 24, [.int .i64 p0_0, .int .i64 p0_1, .int .i64 p0_2, .slice a_p0_3 p0_3.length c_p0_3]⟩], [⟨b2, 24, [.int .i64 0, .int .i64 0, .int .i64 0, .slice none 0 0]⟩], L61, [⟨b62, 24, [.int .i64 p0_0, .int .i64 p0_1, .int .i64 p0_2, .slice (some ⟨b59, 0, none⟩) ((List.replicate (p0_3.length : Int).toNat (0 : Int)).length) c60]⟩]]) (fun _ h => h) ?_
            refine WO_end ?_
            refine WK.cls (fun _ h => h.perm (Ls' := [[⟨b1, 24, [.int .i64 p0_0, .int .i64 p0_1, .int .i64 p0_2, .slice a_p0_3 p0_3.length c_p0_3]⟩], [⟨b2, 24, [.int .i64 0, .int .i64 0, .int .i64 0, .slice none 0 0]⟩], [⟨b62, 24, [.int .i64 p0_0, .int .i64 p0_1, .int .i64 p0_2, .slice (some ⟨b59, 0, none⟩) ((List.replicate (p0_3.length : Int).toNat (0 : Int)).length) c60]⟩], L61]) (List.Perm.flatten (List.Perm.cons _ (List.Perm.cons _ (List.Perm.swap _ _ _))))) ?_
            cases hx19
            refine WK.sub ?_ (hk20 ⟨some ⟨b59, 0, none⟩, c60, L61, b62⟩ hL61)
            exact ⟨rfl, rfl, rfl, rfl, rfl, rfl, rfl, trivial⟩
          · refine WT_alt rfl ?_ ?_
            · refine WO_alloc tbok [.int .i64 0, .int .i64 0, .int .i64 0, .slice none 0 0] rfl rfl St_closed rfl rfl rfl rfl (fun b63 => ?_)
              refine WO.cls (C' := St w0 m m [[⟨b1, 24, [.int .i64 p0_0, .int .i64 p0_1, .int .i64 p0_2, .slice a_p0_3 p0_3.length c_p0_3]⟩], [⟨b2, 24, [.int .i64 0, .int .i64 0, .int .i64 0, .slice none 0 0]⟩], [⟨b63, 24, [.int .i64 0, .int .i64 0, .int .i64 0, .slice none 0 0]⟩]]) (fun _ h => h) ?_
              refine WO_tree rfl ?_
              refine WT_run ?_
              obtain ⟨hc64, hx19⟩ := chk_some hx19
              refine WO_make (E := (I1 .i64)) tbok (fun _ => rfl) (by decide) (0 : Int) rfl rfl St_closed rfl rfl rfl rfl rfl rfl rfl rfl rfl (mk_ok (by decide) hc64) (fun b65 c66 L67 hL67 => ?_)
              refine WO.cls (C' := St w0 m m [[⟨b1, 24, [.int .i64 p0_0, .int .i64 p0_1, .int .i64 p0_2, .slice a_p0_3 p0_3.length c_p0_3]⟩], [⟨b2, 24, [.int .i64 0, .int .i64 0, .int .i64 0, .slice none 0 0]⟩], [⟨b63, 24, [.int .i64 0, .int .i64 0, .int .i64 0, .slice none 0 0]⟩], L67]) (fun _ h => h) ?_
              refine WO_pure tbok 1 [(1, .int .i64 p1), (2, .int .i64 p2), (3, .slice a_p3 p3.length c_p3), (4, .pointer (some ⟨b1, 0, none⟩)), (8, .pointer (some ⟨b2, 0, none⟩)), (9, .int .i64 0), (13, .pointer (some ⟨b63, 0, none⟩)), (68, .agg #[.int .i64 p0_0, .int .i64 p0_1, .int .i64 p0_2, .slice (some ⟨b65, 0, none⟩) ((List.replicate (p0_3.length : Int).toNat (0 : Int)).length) c66])] rfl ⟨rfl, rfl, rfl, rfl, rfl, rfl, rfl, rfl, trivial⟩ ?_
              refine WO_tree rfl ?_
              refine WT_fin ?_
              refine WO_storeB tbok 2 [.int .i64 p0_0, .int .i64 p0_1, .int .i64 p0_2, .slice (some ⟨b65, 0, none⟩) ((List.replicate (p0_3.length : Int).toNat (0 : Int)).length) c66] rfl rfl rfl rfl rfl rfl rfl ?_
              refine WO.cls (C' := St w0 m m [[⟨b1, 24, [.int .i64 p0_0, .int .i64 p0_1, .int .i64 p0_2, .slice a_p0_3 p0_3.length c_p0_3]⟩], [⟨b2, 24, [.int .i64 0, .int .i64 0, .int .i64 0, .slice none 0 0]⟩], [⟨b63, 24, [.int .i64 p0_0, .int .i64 p0_1, .int .i64 p0_2, .slice (some ⟨b65, 0, none⟩) ((List.replicate (p0_3.length : Int).toNat (0 : Int)).length) c66]⟩], L67]) (fun _ h => h) ?_
              refine WO_end ?_
              cases hx19
              refine WK.sub ?_ (hk20 ⟨some ⟨b65, 0, none⟩, c66, L67, b63⟩ hL67)
              exact ⟨rfl, rfl, rfl, rfl, rfl, rfl, rfl, trivial⟩
            · exact WT_none
      · refine WK_block ?_
        refine WK_loop (S := Int) (G := Unit) (fun s => aggregate_Sum_s1 p3 s) (fun s g => [(1, .int .i64 p1), (2, .int .i64 p2), (3, .slice a_p3 p3.length c_p3), (4, .pointer (some ⟨b1, 0, none⟩)), (8, .pointer (some ⟨b2, 0, none⟩)), (9, .int .i64 0), (30, .slice a_p3 p3.length c_p3), (31, .int .i64 (p3.length : Int)), (32, .int .i64 s)]) (fun s g => St w0 m m [[⟨b1, 24, [.int .i64 p0_0, .int .i64 p0_1, .int .i64 p0_2, .slice a_p0_3 p0_3.length c_p0_3]⟩], [⟨b2, 24, [.int .i64 0, .int .i64 0, .int .i64 0, .slice none 0 0]⟩]]) (fun s g => True) FUEL 0 () x6 hx7 trivial ⟨rfl, rfl, rfl, rfl, rfl, rfl, rfl, rfl, rfl, trivial⟩ (fun _ h => h) ?_
        rintro s_2 ⟨⟩ o10 fl11 hm9 - hn12 hd13
        have hm9 : aggregate_Sum_s1 p3 s_2 = some o10 := hm9
        unfold aggregate_Sum_s1 at hm9
        refine WK.sub (e' := [(1, .int .i64 p1), (2, .int .i64 p2), (3, .slice a_p3 p3.length c_p3), (4, .pointer (some ⟨b1, 0, none⟩)), (8, .pointer (some ⟨b2, 0, none⟩)), (9, .int .i64 0), (30, .slice a_p3 p3.length c_p3), (31, .int .i64 (p3.length : Int)), (32, .int .i64 s_2)]) ⟨rfl, rfl, rfl, rfl, rfl, rfl, rfl, rfl, rfl, trivial⟩ (WK.cls (C' := St w0 m m [[⟨b1, 24, [.int .i64 p0_0, .int .i64 p0_1, .int .i64 p0_2, .slice a_p0_3 p0_3.length c_p0_3]⟩], [⟨b2, 24, [.int .i64 0, .int .i64 0, .int .i64 0, .slice none 0 0]⟩]]) (fun _ h => h) ?_)
        refine WK_seq ?_
        refine WK_region ?_
        refine WO_pure tbok 1 [(1, .int .i64 p1), (2, .int .i64 p2), (3, .slice a_p3 p3.length c_p3), (4, .pointer (some ⟨b1, 0, none⟩)), (8, .pointer (some ⟨b2, 0, none⟩)), (9, .int .i64 0), (30, .slice a_p3 p3.length c_p3), (31, .int .i64 (p3.length : Int)), (32, .int .i64 s_2), (33, .bool (decide (s_2 < (p3.length : Int))))] rfl ⟨rfl, rfl, rfl, rfl, rfl, rfl, rfl, rfl, rfl, rfl, trivial⟩ ?_
        refine WO_end ?_
        refine WK_seq ?_
        refine WK_cond (b := decide (s_2 < (p3.length : Int))) rfl (fun hb68 => ?_) (fun hb68 => ?_)
        · have hm9 := ifT hb68 hm9
          refine WK_skip ?_
          refine WK_seq ?_
          refine WK_block ?_
          refine WK_seq ?_
          refine WK_region ?_
          refine WO_pure tbok 1 [(1, .int .i64 p1), (2, .int .i64 p2), (3, .slice a_p3 p3.length c_p3), (4, .pointer (some ⟨b1, 0, none⟩)), (8, .pointer (some ⟨b2, 0, none⟩)), (9, .int .i64 0), (30, .slice a_p3 p3.length c_p3), (31, .int .i64 (p3.length : Int)), (32, .int .i64 s_2), (34, .int .i64 s_2)] rfl ⟨rfl, rfl, rfl, rfl, rfl, rfl, rfl, rfl, rfl, rfl, trivial⟩ ?_
          obtain ⟨v_20, hy69, hm9⟩ := bind_some hm9
          obtain ⟨hc70, hy69⟩ := ix_some hy69
          refine WO_index tbok rfl rfl rfl rfl rfl rfl rfl rfl (SlR.addr h_p3) hc70 ?_
          refine WO_loadE tbok rfl rfl rfl rfl (fun _ h => St.sat h) h_p3 hy69 rfl ?_
          refine WO_pure tbok 2 [(1, .int .i64 p1), (2, .int .i64 p2), (3, .slice a_p3 p3.length c_p3), (4, .pointer (some ⟨b1, 0, none⟩)), (8, .pointer (some ⟨b2, 0, none⟩)), (9, .int .i64 0), (11, .int .i64 s_2), (12, .int .i64 v_20), (30, .slice a_p3 p3.length c_p3), (31, .int .i64 (p3.length : Int)), (32, .int .i64 s_2)] rfl ⟨rfl, rfl, rfl, rfl, rfl, rfl, rfl, rfl, rfl, rfl, rfl, trivial⟩ ?_
          refine WO_end ?_
          refine WK_seq ?_
          obtain ⟨s_21, hx71, hm9⟩ := bind_some hm9
          refine WK_meet [(1, .int .i64 p1), (2, .int .i64 p2), (3, .slice a_p3 p3.length c_p3), (4, .pointer (some ⟨b1, 0, none⟩)), (8, .pointer (some ⟨b2, 0, none⟩)), (9, .int .i64 0), (30, .slice a_p3 p3.length c_p3), (31, .int .i64 (p3.length : Int)), (32, .int .i64 s_2), (55, .bool s_21)] (St w0 m m [[⟨b1, 24, [.int .i64 p0_0, .int .i64 p0_1, .int .i64 p0_2, .slice a_p0_3 p0_3.length c_p0_3]⟩], [⟨b2, 24, [.int .i64 0, .int .i64 0, .int .i64 0, .slice none 0 0]⟩]]) ?_ (fun hk72 => ?_)
          · refine WK_cond (b := s_21) rfl (fun hb73 => ?_) (fun hb73 => ?_)
            · have hm9 := ifT hb73 hm9
              refine WK_seq ?_
              refine WK_region ?_
              refine WO_pure tbok 1 [(1, .int .i64 p1), (2, .int .i64 p2), (3, .slice a_p3 p3.length c_p3), (4, .pointer (some ⟨b1, 0, none⟩)), (8, .pointer (some ⟨b2, 0, none⟩)), (9, .int .i64 0), (30, .slice a_p3 p3.length c_p3), (31, .int .i64 (p3.length : Int)), (32, .int .i64 s_2), (56, .agg #[.int .i64 0, .int .i64 0, .int .i64 0, .slice none 0 0])] rfl ⟨rfl, rfl, rfl, rfl, rfl, rfl, rfl, rfl, rfl, rfl, trivial⟩ ?_
              refine WO_storeB tbok 1 [.int .i64 0, .int .i64 0, .int .i64 0, .slice none 0 0] rfl rfl rfl rfl rfl rfl rfl ?_
              refine WO.cls (C' := St w0 m m [[⟨b1, 24, [.int .i64 p0_0, .int .i64 p0_1, .int .i64 p0_2, .slice a_p0_3 p0_3.length c_p0_3]⟩], [⟨b2, 24, [.int .i64 0, .int .i64 0, .int .i64 0, .slice none 0 0]⟩]]) (fun _ h => h) ?_
              refine WO_pure tbok 1 [(1, .int .i64 p1), (2, .int .i64 p2), (3, .slice a_p3 p3.length c_p3), (4, .pointer (some ⟨b1, 0, none⟩)), (8, .pointer (some ⟨b2, 0, none⟩)), (9, .int .i64 1), (30, .slice a_p3 p3.length c_p3), (31, .int .i64 (p3.length : Int)), (32, .int .i64 s_2)] rfl ⟨rfl, rfl, rfl, rfl, rfl, rfl, rfl, rfl, rfl, trivial⟩ ?_
              refine WO_end ?_
              cases hm9
              have hq := hd13 _ rfl
              subst hq
              have hm : some _ = some _ := hm
              cases hm
              exact WK_ret (ret_out (L := []) (RLc_cell tbok 1 rfl rfl rfl (RLc_tmp rfl RLc_nil)) (List.nil_sublist _) ⟨none, 0, 0, rfl, (OwnE.nil none)⟩)
            · have hm9 := ifF hb73 hm9
              refine WK_skip ?_
              refine WK_blk ?_
              refine WK_region ?_
              refine WO_pure tbok 2 [(1, .int .i64 p1), (2, .int .i64 p2), (3, .slice a_p3 p3.length c_p3), (4, .pointer (some ⟨b1, 0, none⟩)), (8, .pointer (some ⟨b2, 0, none⟩)), (9, .int .i64 0), (30, .slice a_p3 p3.length c_p3), (31, .int .i64 (p3.length : Int)), (32, .int .i64 (w64 (s_2 + 1)))] rfl ⟨rfl, rfl, rfl, rfl, rfl, rfl, rfl, rfl, rfl, trivial⟩ ?_
              refine WO_end ?_
              cases hm9
              refine WK.sub ?_ (WK.cls (fun _ h => h) (hn12 _ () rfl trivial))
              exact ⟨rfl, rfl, rfl, rfl, rfl, rfl, rfl, rfl, rfl, trivial⟩
          · refine WK_region ?_
            refine WO_pure tbok 3 [(1, .int .i64 p1), (2, .int .i64 p2), (3, .slice a_p3 p3.length c_p3), (4, .pointer (some ⟨b1, 0, none⟩)), (8, .pointer (some ⟨b2, 0, none⟩)), (9, .int .i64 0), (11, .int .i64 s_2), (12, .int .i64 v_20), (30, .slice a_p3 p3.length c_p3), (31, .int .i64 (p3.length : Int)), (32, .int .i64 s_2), (39, .bool (decide (v_20 < 0)))] rfl ⟨rfl, rfl, rfl, rfl, rfl, rfl, rfl, rfl, rfl, rfl, rfl, rfl, trivial⟩ ?_
            refine WO_split (d := 39) (b := decide (v_20 < 0)) rfl (fun hb74 => ?_) (fun hb74 => ?_)
            · have hx71 := ifT hb74 hx71
              refine WO_pure tbok 16 [(1, .int .i64 p1), (2, .int .i64 p2), (3, .slice a_p3 p3.length c_p3), (4, .pointer (some ⟨b1, 0, none⟩)), (8, .pointer (some ⟨b2, 0, none⟩)), (9, .int .i64 0), (30, .slice a_p3 p3.length c_p3), (31, .int .i64 (p3.length : Int)), (32, .int .i64 s_2), (55, .bool true)] rfl ⟨rfl, rfl, rfl, rfl, rfl, rfl, rfl, rfl, rfl, rfl, trivial⟩ ?_
              refine WO_end ?_
              cases hx71
              refine WK.sub ?_ (WK.cls (fun _ h => h) hk72)
              exact ⟨rfl, rfl, rfl, rfl, rfl, rfl, rfl, rfl, rfl, rfl, trivial⟩
            · have hx71 := ifF hb74 hx71
              refine WO_pure tbok 4 [(1, .int .i64 p1), (2, .int .i64 p2), (3, .slice a_p3 p3.length c_p3), (4, .pointer (some ⟨b1, 0, none⟩)), (8, .pointer (some ⟨b2, 0, none⟩)), (9, .int .i64 0), (11, .int .i64 s_2), (12, .int .i64 v_20), (30, .slice a_p3 p3.length c_p3), (31, .int .i64 (p3.length : Int)), (32, .int .i64 s_2), (43, .bool (decide (7 < v_20)))] rfl ⟨rfl, rfl, rfl, rfl, rfl, rfl, rfl, rfl, rfl, rfl, rfl, rfl, trivial⟩ ?_
              refine WO_split (d := 43) (b := decide (7 < v_20)) rfl (fun hb75 => ?_) (fun hb75 => ?_)
              · have hx71 := ifT hb75 hx71
                refine WO_pure tbok 12 [(1, .int .i64 p1), (2, .int .i64 p2), (3, .slice a_p3 p3.length c_p3), (4, .pointer (some ⟨b1, 0, none⟩)), (8, .pointer (some ⟨b2, 0, none⟩)), (9, .int .i64 0), (30, .slice a_p3 p3.length c_p3), (31, .int .i64 (p3.length : Int)), (32, .int .i64 s_2), (55, .bool true)] rfl ⟨rfl, rfl, rfl, rfl, rfl, rfl, rfl, rfl, rfl, rfl, trivial⟩ ?_
                refine WO_end ?_
                cases hx71
                refine WK.sub ?_ (WK.cls (fun _ h => h) hk72)
                exact ⟨rfl, rfl, rfl, rfl, rfl, rfl, rfl, rfl, rfl, rfl, trivial⟩
              · have hx71 := ifF hb75 hx71
                refine WO_pure tbok 3 [(1, .int .i64 p1), (2, .int .i64 p2), (3, .slice a_p3 p3.length c_p3), (4, .pointer (some ⟨b1, 0, none⟩)), (8, .pointer (some ⟨b2, 0, none⟩)), (9, .int .i64 0), (11, .int .i64 s_2), (12, .int .i64 v_20), (30, .slice a_p3 p3.length c_p3), (31, .int .i64 (p3.length : Int)), (32, .int .i64 s_2), (43, .bool false), (46, .bool (decide (0 < s_2)))] rfl ⟨rfl, rfl, rfl, rfl, rfl, rfl, rfl, rfl, rfl, rfl, rfl, rfl, rfl, trivial⟩ ?_
                refine WO_split (d := 46) (b := decide (0 < s_2)) rfl (fun hb76 => ?_) (fun hb76 => ?_)
                · have hx71 := ifT hb76 hx71
                  refine WO_pure tbok 3 [(1, .int .i64 p1), (2, .int .i64 p2), (3, .slice a_p3 p3.length c_p3), (4, .pointer (some ⟨b1, 0, none⟩)), (8, .pointer (some ⟨b2, 0, none⟩)), (9, .int .i64 0), (12, .int .i64 v_20), (30, .slice a_p3 p3.length c_p3), (31, .int .i64 (p3.length : Int)), (32, .int .i64 s_2), (43, .bool false), (46, .bool true), (47, .slice a_p3 p3.length c_p3), (49, .int .i64 (w64 (s_2 - 1)))] rfl ⟨rfl, rfl, rfl, rfl, rfl, rfl, rfl, rfl, rfl, rfl, rfl, rfl, rfl, rfl, trivial⟩ ?_
                  obtain ⟨v_22, hy77, hx71⟩ := bind_some hx71
                  obtain ⟨hc78, hy77⟩ := ix_some hy77
                  refine WO_index tbok rfl rfl rfl rfl rfl rfl rfl rfl (SlR.addr h_p3) hc78 ?_
                  refine WO_loadE tbok rfl rfl rfl rfl (fun _ h => St.sat h) h_p3 hy77 rfl ?_
                  refine WO_pure tbok 4 [(1, .int .i64 p1), (2, .int .i64 p2), (3, .slice a_p3 p3.length c_p3), (4, .pointer (some ⟨b1, 0, none⟩)), (8, .pointer (some ⟨b2, 0, none⟩)), (9, .int .i64 0), (30, .slice a_p3 p3.length c_p3), (31, .int .i64 (p3.length : Int)), (32, .int .i64 s_2), (55, .bool (decide (v_20 ≤ v_22)))] rfl ⟨rfl, rfl, rfl, rfl, rfl, rfl, rfl, rfl, rfl, rfl, trivial⟩ ?_
                  refine WO_end ?_
                  cases hx71
                  refine WK.sub ?_ (WK.cls (fun _ h => h) hk72)
                  exact ⟨rfl, rfl, rfl, rfl, rfl, rfl, rfl, rfl, rfl, rfl, trivial⟩
                · have hx71 := ifF hb76 hx71
                  refine WO_pure tbok 9 [(1, .int .i64 p1), (2, .int .i64 p2), (3, .slice a_p3 p3.length c_p3), (4, .pointer (some ⟨b1, 0, none⟩)), (8, .pointer (some ⟨b2, 0, none⟩)), (9, .int .i64 0), (30, .slice a_p3 p3.length c_p3), (31, .int .i64 (p3.length : Int)), (32, .int .i64 s_2), (55, .bool false)] rfl ⟨rfl, rfl, rfl, rfl, rfl, rfl, rfl, rfl, rfl, rfl, trivial⟩ ?_
                  refine WO_end ?_
                  cases hx71
                  refine WK.sub ?_ (WK.cls (fun _ h => h) hk72)
                  exact ⟨rfl, rfl, rfl, rfl, rfl, rfl, rfl, rfl, rfl, rfl, trivial⟩
        · have hm9 := ifF hb68 hm9
          refine WK_exit rfl ?_
          cases hm9
          refine WK.sub ?_ (WK.cls (fun _ h => h) (hk8 ((), ()) (hd13 _ rfl)))
          exact ⟨rfl, rfl, rfl, rfl, rfl, rfl, trivial⟩
theorem fiduciallaw45_AggregateSums_walk {m : Mu} {p0_0 : Int} {p0_1 : Int} {p0_2 : Int} {p0_3 : List Int} {p1_0 : Int} {p1_1 : Int} {p2 : List Int} {a_p0_3 : Option Addr} {q_p0_3 c_p0_3 : Nat} {a_p2 : Option Addr} {q_p2 c_p2 : Nat} {fr0 : Nat × Nat} {tg0 : TypeId} (hg0 : m 0 = some (.cells ([.int .i64 1, .int .i64 0, .int .i64 (-1), .int .i64 0, .int .i64 0, .int .i64 1, .int .i64 0, .int .i64 (-1), .int .i64 1, .int .i64 1, .int .i64 (-1), .int .i64 (-1), .int .i64 1, .int .i64 (-1), .int .i64 (-1), .int .i64 1] : List Value).toArray tg0 fr0)) (h_p0_3 : SlR (FE (I1 .i64)) 1 m (.slice a_p0_3 q_p0_3 c_p0_3) p0_3) (h_p2 : SlR (FE (I1 .i64)) 1 m (.slice a_p2 q_p2 c_p2) p2) {r : Bool} (hm : fiduciallaw45_AggregateSums p0_0 p0_1 p0_2 p0_3 p1_0 p1_1 p2 = some r) :
    Go.E.Spec Tryd.prog 4 [.agg #[.int .i64 p0_0, .int .i64 p0_1, .int .i64 p0_2, .slice a_p0_3 q_p0_3 c_p0_3], .agg #[.int .i64 p1_0, .int .i64 p1_1], .slice a_p2 q_p2 c_p2] m (fun v _ _ => v = .bool r) := by
  refine Spec_enter Tryd.func4 rfl rfl rfl (fun w0 => ?_)
  refine WK.sub (e' := [(0, .agg #[.int .i64 p0_0, .int .i64 p0_1, .int .i64 p0_2, .slice a_p0_3 q_p0_3 c_p0_3]), (1, .agg #[.int .i64 p1_0, .int .i64 p1_1]), (2, .slice a_p2 q_p2 c_p2)]) ⟨rfl, rfl, rfl, trivial⟩ ?_
  obtain rfl := SlR.qlen h_p0_3
  obtain rfl := SlR.qlen h_p2
  refine WK.sub (e' := [(0, .agg #[.int .i64 p0_0, .int .i64 p0_1, .int .i64 p0_2, .slice a_p0_3 p0_3.length c_p0_3]), (1, .agg #[.int .i64 p1_0, .int .i64 p1_1]), (2, .slice a_p2 p2.length c_p2)]) ⟨rfl, rfl, rfl, trivial⟩ ?_
  unfold fiduciallaw45_AggregateSums at hm
  refine WK_seq ?_
  refine WK_region ?_
  refine WO_box [.int .i64 p0_0, .int .i64 p0_1, .int .i64 p0_2, .slice a_p0_3 p0_3.length c_p0_3] rfl rfl trivial rfl rfl rfl (fun b1 => ?_)
  refine WO.cls (C' := St w0 m m [[⟨b1, 24, [.int .i64 p0_0, .int .i64 p0_1, .int .i64 p0_2, .slice a_p0_3 p0_3.length c_p0_3]⟩]]) (fun _ h => h) ?_
  refine WO_box [.int .i64 p1_0, .int .i64 p1_1] rfl rfl trivial rfl rfl rfl (fun b2 => ?_)
  refine WO.cls (C' := St w0 m m [[⟨b1, 24, [.int .i64 p0_0, .int .i64 p0_1, .int .i64 p0_2, .slice a_p0_3 p0_3.length c_p0_3]⟩], [⟨b2, 25, [.int .i64 p1_0, .int .i64 p1_1]⟩]]) (fun _ h => h) ?_
  refine WO_pure tbok 1 [(2, .slice a_p2 p2.length c_p2), (3, .pointer (some ⟨b1, 0, none⟩)), (4, .pointer (some ⟨b2, 0, none⟩)), (6, .bool false)] rfl ⟨rfl, rfl, rfl, rfl, trivial⟩ ?_
  refine WO_end ?_
  refine WK_seq ?_
  refine WK_seq ?_
  refine WK_region ?_
  obtain ⟨y_1, hc3, hm⟩ := bind_some hm
  refine WO_call0 (.bool y_1) rfl rfl trivial rfl rfl rfl rfl St_closed ⟨5, #[], #[], rfl, callable_5, fun w hw => ⟨_, hw.sat, fiduciallaw45_known_walk hc3⟩⟩ ?_
  refine WO_pure tbok 1 [(2, .slice a_p2 p2.length c_p2), (3, .pointer (some ⟨b1, 0, none⟩)), (4, .pointer (some ⟨b2, 0, none⟩)), (6, .bool false), (18, .bool (!y_1))] rfl ⟨rfl, rfl, rfl, rfl, rfl, trivial⟩ ?_
  refine WO_end ?_
  refine WK_cond (b := !y_1) rfl (fun hb4 => ?_) (fun hb4 => ?_)
  · have hm := ifT hb4 hm
    refine WK_seq ?_
    refine WK_region ?_
    refine WO_pure tbok 1 [(2, .slice a_p2 p2.length c_p2), (3, .pointer (some ⟨b1, 0, none⟩)), (4, .pointer (some ⟨b2, 0, none⟩)), (6, .bool false)] rfl ⟨rfl, rfl, rfl, rfl, trivial⟩ ?_
    refine WO_end ?_
    cases hm
    exact WK_ret (ret_out (L := []) (RLc_tmp rfl RLc_nil) (List.nil_sublist _) rfl)
  · have hm := ifF hb4 hm
    refine WK_skip ?_
    refine WK_seq ?_
    refine WK_seq ?_
    obtain ⟨s_2, hx5, hm⟩ := bind_some hm
    refine WK_meet [(2, .slice a_p2 p2.length c_p2), (3, .pointer (some ⟨b1, 0, none⟩)), (4, .pointer (some ⟨b2, 0, none⟩)), (6, .bool false), (26, .bool s_2)] (St w0 m m [[⟨b1, 24, [.int .i64 p0_0, .int .i64 p0_1, .int .i64 p0_2, .slice a_p0_3 p0_3.length c_p0_3]⟩], [⟨b2, 25, [.int .i64 p1_0, .int .i64 p1_1]⟩]]) ?_ (fun hk6 => ?_)
    · refine WK_cond (b := s_2) rfl (fun hb7 => ?_) (fun hb7 => ?_)
      · have hm := ifT hb7 hm
        refine WK_seq ?_
        refine WK_region ?_
        refine WO_pure tbok 1 [(2, .slice a_p2 p2.length c_p2), (3, .pointer (some ⟨b1, 0, none⟩)), (4, .pointer (some ⟨b2, 0, none⟩)), (6, .bool true)] rfl ⟨rfl, rfl, rfl, rfl, trivial⟩ ?_
        refine WO_end ?_
        cases hm
        exact WK_ret (ret_out (L := []) (RLc_tmp rfl RLc_nil) (List.nil_sublist _) rfl)
      · have hm := ifF hb7 hm
        refine WK_skip ?_
        refine WK_seq ?_
        refine WK_region ?_
        refine WO_loadB tbok 0 rfl rfl rfl rfl (fun _ h => h) rfl rfl ?_
        refine WO_pure tbok 1 [(2, .slice a_p2 p2.length c_p2), (3, .pointer (some ⟨b1, 0, none⟩)), (4, .pointer (some ⟨b2, 0, none⟩)), (6, .bool false), (28, .agg #[.int .i64 p0_0, .int .i64 p0_1, .int .i64 p0_2, .slice a_p0_3 p0_3.length c_p0_3]), (29, .pointer (some ⟨b2, 0, none⟩))] rfl ⟨rfl, rfl, rfl, rfl, rfl, rfl, trivial⟩ ?_
        refine WO_loadB tbok 1 rfl rfl rfl rfl (fun _ h => h) rfl rfl ?_
        refine WO_pure tbok 1 [(2, .slice a_p2 p2.length c_p2), (3, .pointer (some ⟨b1, 0, none⟩)), (4, .pointer (some ⟨b2, 0, none⟩)), (6, .bool false), (28, .agg #[.int .i64 p0_0, .int .i64 p0_1, .int .i64 p0_2, .slice a_p0_3 p0_3.length c_p0_3]), (30, .int .i64 p1_0), (31, .pointer (some ⟨b2, 1, none⟩))] rfl ⟨rfl, rfl, rfl, rfl, rfl, rfl, rfl, trivial⟩ ?_
        refine WO_loadB tbok 1 rfl rfl rfl rfl (fun _ h => h) rfl rfl ?_
        refine WO_pure tbok 1 [(2, .slice a_p2 p2.length c_p2), (3, .pointer (some ⟨b1, 0, none⟩)), (4, .pointer (some ⟨b2, 0, none⟩)), (6, .bool false), (28, .agg #[.int .i64 p0_0, .int .i64 p0_1, .int .i64 p0_2, .slice a_p0_3 p0_3.length c_p0_3]), (30, .int .i64 p1_0), (32, .int .i64 p1_1), (33, .slice a_p2 p2.length c_p2)] rfl ⟨rfl, rfl, rfl, rfl, rfl, rfl, rfl, rfl, trivial⟩ ?_
        obtain ⟨⟨y_3, y_4, y_5, y_6, y_7⟩, hc8, hm⟩ := bind_some hm
        refine WO_call1 (aggregate_Sum_Q (y_3, y_4, y_5, y_6, y_7)) rfl rfl trivial rfl rfl rfl rfl ⟨12, #[], #[], rfl, callable_12, fun w hw => ⟨_, hw.sat, aggregate_Sum_walk hg0 h_p0_3 h_p2 hc8⟩⟩ (fun v12 L11 hq => ?_)
        obtain ⟨a9, qa9, c10, rfl, hL11⟩ := hq
        obtain rfl := OwnE.qlen hL11
        refine WO.cls (C' := St w0 m m [[⟨b1, 24, [.int .i64 p0_0, .int .i64 p0_1, .int .i64 p0_2, .slice a_p0_3 p0_3.length c_p0_3]⟩], [⟨b2, 25, [.int .i64 p1_0, .int .i64 p1_1]⟩], L11]) (fun _ h => h) ?_
        refine WO_pure tbok 3 [(2, .slice a_p2 p2.length c_p2), (3, .pointer (some ⟨b1, 0, none⟩)), (4, .pointer (some ⟨b2, 0, none⟩)), (6, .bool false), (35, .agg #[.int .i64 y_3, .int .i64 y_4, .int .i64 y_5, .slice a9 ((y_6).length) c10]), (36, .int .i64 y_7)] rfl ⟨rfl, rfl, rfl, rfl, rfl, rfl, trivial⟩ ?_
        refine WO_alloc tbok [.int .i64 0, .int .i64 0, .int .i64 0, .slice none 0 0] rfl rfl trivial rfl rfl rfl rfl (fun b13 => ?_)
        refine WO.cls (C' := St w0 m m [[⟨b1, 24, [.int .i64 p0_0, .int .i64 p0_1, .int .i64 p0_2, .slice a_p0_3 p0_3.length c_p0_3]⟩], [⟨b2, 25, [.int .i64 p1_0, .int .i64 p1_1]⟩], L11, [⟨b13, 24, [.int .i64 0, .int .i64 0, .int .i64 0, .slice none 0 0]⟩]]) (fun _ h => h) ?_
        refine WO_storeB tbok 3 [.int .i64 y_3, .int .i64 y_4, .int .i64 y_5, .slice a9 ((y_6).length) c10] rfl rfl rfl rfl rfl rfl rfl ?_
        refine WO.cls (C' := St w0 m m [[⟨b1, 24, [.int .i64 p0_0, .int .i64 p0_1, .int .i64 p0_2, .slice a_p0_3 p0_3.length c_p0_3]⟩], [⟨b2, 25, [.int .i64 p1_0, .int .i64 p1_1]⟩], L11, [⟨b13, 24, [.int .i64 y_3, .int .i64 y_4, .int .i64 y_5, .slice a9 ((y_6).length) c10]⟩]]) (fun _ h => h) ?_
        refine WO_pure tbok 1 [(2, .slice a_p2 p2.length c_p2), (3, .pointer (some ⟨b1, 0, none⟩)), (4, .pointer (some ⟨b2, 0, none⟩)), (6, .bool false), (7, .pointer (some ⟨b13, 0, none⟩)), (8, .int .i64 y_7)] rfl ⟨rfl, rfl, rfl, rfl, rfl, rfl, trivial⟩ ?_
        refine WO_end ?_
        refine WK_seq ?_
        refine WK_region ?_
        refine WO_loadB tbok 0 rfl rfl rfl rfl (fun _ h => h) rfl rfl ?_
        refine WO_pure tbok 1 [(2, .slice a_p2 p2.length c_p2), (3, .pointer (some ⟨b1, 0, none⟩)), (4, .pointer (some ⟨b2, 0, none⟩)), (6, .bool false), (7, .pointer (some ⟨b13, 0, none⟩)), (8, .int .i64 y_7), (37, .agg #[.int .i64 p0_0, .int .i64 p0_1, .int .i64 p0_2, .slice a_p0_3 p0_3.length c_p0_3]), (38, .pointer (some ⟨b2, 0, none⟩))] rfl ⟨rfl, rfl, rfl, rfl, rfl, rfl, rfl, rfl, trivial⟩ ?_
        refine WO_loadB tbok 1 rfl rfl rfl rfl (fun _ h => h) rfl rfl ?_
        refine WO_pure tbok 1 [(2, .slice a_p2 p2.length c_p2), (3, .pointer (some ⟨b1, 0, none⟩)), (4, .pointer (some ⟨b2, 0, none⟩)), (6, .bool false), (7, .pointer (some ⟨b13, 0, none⟩)), (8, .int .i64 y_7), (37, .agg #[.int .i64 p0_0, .int .i64 p0_1, .int .i64 p0_2, .slice a_p0_3 p0_3.length c_p0_3]), (39, .int .i64 p1_0), (40, .pointer (some ⟨b2, 1, none⟩))] rfl ⟨rfl, rfl, rfl, rfl, rfl, rfl, rfl, rfl, rfl, trivial⟩ ?_
        refine WO_loadB tbok 1 rfl rfl rfl rfl (fun _ h => h) rfl rfl ?_
        obtain ⟨y_8, hc14, hm⟩ := bind_some hm
        refine WO_call0 (.int .i64 y_8) rfl rfl trivial rfl rfl rfl rfl St_closed ⟨8, #[], #[], rfl, callable_8, fun w hw => ⟨_, hw.sat, fiduciallaw45_image_walk h_p0_3 hc14⟩⟩ ?_
        refine WO_pure tbok 1 [(2, .slice a_p2 p2.length c_p2), (3, .pointer (some ⟨b1, 0, none⟩)), (4, .pointer (some ⟨b2, 0, none⟩)), (6, .bool false), (7, .pointer (some ⟨b13, 0, none⟩)), (8, .int .i64 y_7), (9, .int .i64 y_8)] rfl ⟨rfl, rfl, rfl, rfl, rfl, rfl, rfl, trivial⟩ ?_
        refine WO_end ?_
        refine WK_seq ?_
        refine WK_seq ?_
        refine WK_region ?_
        refine WO_pure tbok 2 [(2, .slice a_p2 p2.length c_p2), (3, .pointer (some ⟨b1, 0, none⟩)), (4, .pointer (some ⟨b2, 0, none⟩)), (6, .bool false), (7, .pointer (some ⟨b13, 0, none⟩)), (8, .int .i64 y_7), (9, .int .i64 y_8), (44, .bool (y_8 == 0))] rfl ⟨rfl, rfl, rfl, rfl, rfl, rfl, rfl, rfl, trivial⟩ ?_
        refine WO_end ?_
        obtain ⟨s_9, hx15, hm⟩ := bind_some hm
        refine WK_meet [(2, .slice a_p2 p2.length c_p2), (3, .pointer (some ⟨b1, 0, none⟩)), (4, .pointer (some ⟨b2, 0, none⟩)), (6, .bool false), (7, .pointer (some ⟨b13, 0, none⟩)), (8, .int .i64 y_7), (9, .int .i64 s_9)] (St w0 m m [[⟨b1, 24, [.int .i64 p0_0, .int .i64 p0_1, .int .i64 p0_2, .slice a_p0_3 p0_3.length c_p0_3]⟩], [⟨b2, 25, [.int .i64 p1_0, .int .i64 p1_1]⟩], L11, [⟨b13, 24, [.int .i64 y_3, .int .i64 y_4, .int .i64 y_5, .slice a9 ((y_6).length) c10]⟩]]) ?_ (fun hk16 => ?_)
        · refine WK_seq ?_
          refine WK_seq ?_
          refine WK_region ?_
          refine WO_pure tbok 2 [(2, .slice a_p2 p2.length c_p2), (3, .pointer (some ⟨b1, 0, none⟩)), (4, .pointer (some ⟨b2, 0, none⟩)), (6, .bool false), (7, .pointer (some ⟨b13, 0, none⟩)), (8, .int .i64 y_7), (9, .int .i64 s_9), (76, .bool (s_9 != 0))] rfl ⟨rfl, rfl, rfl, rfl, rfl, rfl, rfl, rfl, trivial⟩ ?_
          refine WO_end ?_
          refine WK_cond (b := s_9 != 0) rfl (fun hb17 => ?_) (fun hb17 => ?_)
          · have hm := ifT hb17 hm
            refine WK_seq ?_
            refine WK_region ?_
            refine WO_pure tbok 4 [(2, .slice a_p2 p2.length c_p2), (3, .pointer (some ⟨b1, 0, none⟩)), (4, .pointer (some ⟨b2, 0, none⟩)), (6, .bool false), (7, .pointer (some ⟨b13, 0, none⟩)), (8, .int .i64 y_7), (80, .bool (y_7 == s_9))] rfl ⟨rfl, rfl, rfl, rfl, rfl, rfl, rfl, trivial⟩ ?_
            refine WO_split (d := 80) (b := y_7 == s_9) rfl (fun hb18 => ?_) (fun hb18 => ?_)
            · have hm := ifT hb18 hm
              refine WO_loadB tbok 3 rfl rfl rfl rfl (fun _ h => h) rfl rfl ?_
              obtain ⟨y_10, hc19, hm⟩ := bind_some hm
              refine WO_call0 (.bool y_10) rfl rfl trivial rfl rfl rfl rfl St_closed ⟨9, #[], #[], rfl, callable_9, fun w hw => ⟨_, hw.satV, fiduciallaw45_empty_walk (OwnE.rd (E := (I1 .i64)) (k := 1) (fun _ => rfl) hL11 (fun _ hx => hw.memV (i := 2) rfl hx)) hc19⟩⟩ ?_
              refine WO_pure tbok 2 [(2, .slice a_p2 p2.length c_p2), (3, .pointer (some ⟨b1, 0, none⟩)), (4, .pointer (some ⟨b2, 0, none⟩)), (6, .bool y_10), (7, .pointer (some ⟨b13, 0, none⟩)), (8, .int .i64 y_7)] rfl ⟨rfl, rfl, rfl, rfl, rfl, rfl, trivial⟩ ?_
              refine WO_end ?_
              cases hm
              exact WK_ret (ret_out (L := []) (RLc_tmp rfl RLc_nil) (List.nil_sublist _) rfl)
            · have hm := ifF hb18 hm
              refine WO_pure tbok 1 [(2, .slice a_p2 p2.length c_p2), (3, .pointer (some ⟨b1, 0, none⟩)), (4, .pointer (some ⟨b2, 0, none⟩)), (6, .bool false), (7, .pointer (some ⟨b13, 0, none⟩)), (8, .int .i64 y_7), (80, .bool false)] rfl ⟨rfl, rfl, rfl, rfl, rfl, rfl, rfl, trivial⟩ ?_
              refine WO_skip rfl rfl ?_
              refine WO_pure tbok 2 [(2, .slice a_p2 p2.length c_p2), (3, .pointer (some ⟨b1, 0, none⟩)), (4, .pointer (some ⟨b2, 0, none⟩)), (6, .bool false), (7, .pointer (some ⟨b13, 0, none⟩)), (8, .int .i64 y_7)] rfl ⟨rfl, rfl, rfl, rfl, rfl, rfl, trivial⟩ ?_
              refine WO_end ?_
              cases hm
              exact WK_ret (ret_out (L := []) (RLc_tmp rfl RLc_nil) (List.nil_sublist _) rfl)
          · have hm := ifF hb17 hm
            refine WK_skip ?_
            refine WK_seq ?_
            obtain ⟨⟨l_11, s_12, s_13, s_14⟩, hx24, hm⟩ := bind_some hm
            refine WK_join (β := Option Addr × Nat × List Ent × Nat) (fun p => OwnE 3 1 (I1 .i64) (.slice p.1 ((l_11).length) p.2.1) l_11 p.2.2.1) (fun p => [(2, .slice a_p2 p2.length c_p2), (3, .pointer (some ⟨b1, 0, none⟩)), (4, .pointer (some ⟨b2, 0, none⟩)), (6, .bool false), (7, .pointer (some ⟨b13, 0, none⟩)), (8, .int .i64 y_7), (12, .pointer (some ⟨p.2.2.2, 0, none⟩))]) (fun p => St w0 m m [[⟨b1, 24, [.int .i64 p0_0, .int .i64 p0_1, .int .i64 p0_2, .slice a_p0_3 p0_3.length c_p0_3]⟩], [⟨b2, 25, [.int .i64 p1_0, .int .i64 p1_1]⟩], L11, [⟨b13, 24, [.int .i64 y_3, .int .i64 y_4, .int .i64 y_5, .slice a9 ((y_6).length) c10]⟩], [⟨p.2.2.2, 24, [.int .i64 s_12, .int .i64 s_13, .int .i64 s_14, .slice p.1 ((l_11).length) p.2.1]⟩], p.2.2.1]) ?_ (fun hk25 => ?_)
            · rintro ⟨a20, c21, L22, b23⟩ hL22
              refine WK.sub (e' := [(2, .slice a_p2 p2.length c_p2), (3, .pointer (some ⟨b1, 0, none⟩)), (4, .pointer (some ⟨b2, 0, none⟩)), (6, .bool false), (7, .pointer (some ⟨b13, 0, none⟩)), (8, .int .i64 y_7), (12, .pointer (some ⟨b23, 0, none⟩))]) ⟨rfl, rfl, rfl, rfl, rfl, rfl, rfl, trivial⟩ (WK.cls (C' := St w0 m m [[⟨b1, 24, [.int .i64 p0_0, .int .i64 p0_1, .int .i64 p0_2, .slice a_p0_3 p0_3.length c_p0_3]⟩], [⟨b2, 25, [.int .i64 p1_0, .int .i64 p1_1]⟩], L11, [⟨b13, 24, [.int .i64 y_3, .int .i64 y_4, .int .i64 y_5, .slice a9 ((y_6).length) c10]⟩], [⟨b23, 24, [.int .i64 s_12, .int .i64 s_13, .int .i64 s_14, .slice a20 ((l_11).length) c21]⟩], L22]) (fun _ h => h) ?_)
              refine WK_seq ?_
              refine WK_seq ?_
              refine WK_region ?_
              refine WO_pure tbok 3 [(3, .pointer (some ⟨b1, 0, none⟩)), (4, .pointer (some ⟨b2, 0, none⟩)), (6, .bool false), (7, .pointer (some ⟨b13, 0, none⟩)), (8, .int .i64 y_7), (12, .pointer (some ⟨b23, 0, none⟩)), (95, .slice a_p2 p2.length c_p2), (96, .int .i64 (p2.length : Int)), (97, .int .i64 0)] rfl ⟨rfl, rfl, rfl, rfl, rfl, rfl, rfl, rfl, rfl, trivial⟩ ?_
              refine WO_end ?_
              obtain ⟨x28, hx29, hm⟩ := bind_some hm
              refine WK_join (β := (List Int) × (List Ent)) (fun p => p.1 = x28 ∧ OwnE 3 1 (I1 .i64) (.slice a20 ((l_11).length) c21) p.1 p.2) (fun p => [(6, .bool false), (7, .pointer (some ⟨b13, 0, none⟩)), (8, .int .i64 y_7), (12, .pointer (some ⟨b23, 0, none⟩))]) (fun p => St w0 m m [[⟨b1, 24, [.int .i64 p0_0, .int .i64 p0_1, .int .i64 p0_2, .slice a_p0_3 p0_3.length c_p0_3]⟩], [⟨b2, 25, [.int .i64 p1_0, .int .i64 p1_1]⟩], L11, [⟨b13, 24, [.int .i64 y_3, .int .i64 y_4, .int .i64 y_5, .slice a9 ((y_6).length) c10]⟩], [⟨b23, 24, [.int .i64 s_12, .int .i64 s_13, .int .i64 s_14, .slice a20 ((l_11).length) c21]⟩], p.2]) ?_ (fun hk30 => ?_)
              · rintro ⟨l_17, L27⟩ ⟨hq36, hL27⟩
                subst hq36
                refine WK.sub (e' := [(6, .bool false), (7, .pointer (some ⟨b13, 0, none⟩)), (8, .int .i64 y_7), (12, .pointer (some ⟨b23, 0, none⟩))]) ⟨rfl, rfl, rfl, rfl, trivial⟩ (WK.cls (C' := St w0 m m [[⟨b1, 24, [.int .i64 p0_0, .int .i64 p0_1, .int .i64 p0_2, .slice a_p0_3 p0_3.length c_p0_3]⟩], [⟨b2, 25, [.int .i64 p1_0, .int .i64 p1_1]⟩], L11, [⟨b13, 24, [.int .i64 y_3, .int .i64 y_4, .int .i64 y_5, .slice a9 ((y_6).length) c10]⟩], [⟨b23, 24, [.int .i64 s_12, .int .i64 s_13, .int .i64 s_14, .slice a20 ((l_11).length) c21]⟩], L27]) (fun _ h => h) ?_)
                refine WK_seq ?_
                refine WK_region ?_
                refine WO_pure tbok 3 [(6, .bool false), (7, .pointer (some ⟨b13, 0, none⟩)), (12, .pointer (some ⟨b23, 0, none⟩)), (127, .bool (y_7 == 0))] rfl ⟨rfl, rfl, rfl, rfl, trivial⟩ ?_
                refine WO_split (d := 127) (b := y_7 == 0) rfl (fun hb37 => ?_) (fun hb37 => ?_)
                · have hm := ifT hb37 hm
                  refine WO_loadB tbok 3 rfl rfl rfl rfl (fun _ h => h) rfl rfl ?_
                  refine WO_loadB tbok 4 rfl rfl rfl rfl (fun _ h => h) rfl rfl ?_
                  obtain ⟨y_18, hc38, hm⟩ := bind_some hm
                  refine WO_call0 (.bool y_18) rfl rfl trivial rfl rfl rfl rfl St_closed ⟨10, #[], #[], rfl, callable_10, fun w hw => ⟨_, hw.satV, fiduciallaw45_Same_walk (OwnE.rd (E := (I1 .i64)) (k := 1) (fun _ => rfl) hL11 (fun _ hx => hw.memV (i := 2) rfl hx)) (OwnE.rd (E := (I1 .i64)) (k := 1) (fun _ => rfl) hL27 (fun _ hx => hw.memV (i := 5) rfl hx)) hc38⟩⟩ ?_
                  refine WO_pure tbok 2 [(6, .bool y_18)] rfl ⟨rfl, trivial⟩ ?_
                  refine WO_end ?_
                  cases hm
                  exact WK_ret (ret_out (L := []) (RLc_tmp rfl RLc_nil) (List.nil_sublist _) rfl)
                · have hm := ifF hb37 hm
                  refine WO_pure tbok 2 [(6, .bool false), (127, .bool false)] rfl ⟨rfl, rfl, trivial⟩ ?_
                  refine WO_skip rfl rfl ?_
                  refine WO_pure tbok 2 [(6, .bool false)] rfl ⟨rfl, trivial⟩ ?_
                  refine WO_end ?_
                  cases hm
                  exact WK_ret (ret_out (L := []) (RLc_tmp rfl RLc_nil) (List.nil_sublist _) rfl)
              · refine WK_block ?_
                refine WK_loop (S := List Int × Int) (G := List Ent) (fun s => fiduciallaw45_AggregateSums_s1 p0_0 p0_1 p0_2 p0_3 p1_0 p1_1 p2 s.1 s.2) (fun s g => [(3, .pointer (some ⟨b1, 0, none⟩)), (4, .pointer (some ⟨b2, 0, none⟩)), (6, .bool false), (7, .pointer (some ⟨b13, 0, none⟩)), (8, .int .i64 y_7), (12, .pointer (some ⟨b23, 0, none⟩)), (95, .slice a_p2 p2.length c_p2), (96, .int .i64 (p2.length : Int)), (97, .int .i64 s.2)]) (fun s g => St w0 m m [[⟨b1, 24, [.int .i64 p0_0, .int .i64 p0_1, .int .i64 p0_2, .slice a_p0_3 p0_3.length c_p0_3]⟩], [⟨b2, 25, [.int .i64 p1_0, .int .i64 p1_1]⟩], L11, [⟨b13, 24, [.int .i64 y_3, .int .i64 y_4, .int .i64 y_5, .slice a9 ((y_6).length) c10]⟩], [⟨b23, 24, [.int .i64 s_12, .int .i64 s_13, .int .i64 s_14, .slice a20 ((l_11).length) c21]⟩], g]) (fun s g => OwnE 3 1 (I1 .i64) (.slice a20 ((l_11).length) c21) s.1 g) FUEL (l_11, 0) L22 x28 hx29 hL22 ⟨rfl, rfl, rfl, rfl, rfl, rfl, rfl, rfl, rfl, trivial⟩ (fun _ h => h) ?_
                rintro ⟨l_15, s_16⟩ L26 o32 fl33 hm31 hL26 hn34 hd35
                have hm31 : fiduciallaw45_AggregateSums_s1 p0_0 p0_1 p0_2 p0_3 p1_0 p1_1 p2 l_15 s_16 = some o32 := hm31
                unfold fiduciallaw45_AggregateSums_s1 at hm31
                refine WK.sub (e' := [(3, .pointer (some ⟨b1, 0, none⟩)), (4, .pointer (some ⟨b2, 0, none⟩)), (6, .bool false), (7, .pointer (some ⟨b13, 0, none⟩)), (8, .int .i64 y_7), (12, .pointer (some ⟨b23, 0, none⟩)), (95, .slice a_p2 p2.length c_p2), (96, .int .i64 (p2.length : Int)), (97, .int .i64 s_16)]) ⟨rfl, rfl, rfl, rfl, rfl, rfl, rfl, rfl, rfl, trivial⟩ (WK.cls (C' := St w0 m m [[⟨b1, 24, [.int .i64 p0_0, .int .i64 p0_1, .int .i64 p0_2, .slice a_p0_3 p0_3.length c_p0_3]⟩], [⟨b2, 25, [.int .i64 p1_0, .int .i64 p1_1]⟩], L11, [⟨b13, 24, [.int .i64 y_3, .int .i64 y_4, .int .i64 y_5, .slice a9 ((y_6).length) c10]⟩], [⟨b23, 24, [.int .i64 s_12, .int .i64 s_13, .int .i64 s_14, .slice a20 ((l_11).length) c21]⟩], L26]) (fun _ h => h) ?_)
                refine WK_seq ?_
                refine WK_region ?_
                refine WO_pure tbok 1 [(3, .pointer (some ⟨b1, 0, none⟩)), (4, .pointer (some ⟨b2, 0, none⟩)), (6, .bool false), (7, .pointer (some ⟨b13, 0, none⟩)), (8, .int .i64 y_7), (12, .pointer (some ⟨b23, 0, none⟩)), (95, .slice a_p2 p2.length c_p2), (96, .int .i64 (p2.length : Int)), (97, .int .i64 s_16), (98, .bool (decide (s_16 < (p2.length : Int))))] rfl ⟨rfl, rfl, rfl, rfl, rfl, rfl, rfl, rfl, rfl, rfl, trivial⟩ ?_
                refine WO_end ?_
                refine WK_seq ?_
                refine WK_cond (b := decide (s_16 < (p2.length : Int))) rfl (fun hb39 => ?_) (fun hb39 => ?_)
                · have hm31 := ifT hb39 hm31
                  refine WK_skip ?_
                  refine WK_seq ?_
                  refine WK_block ?_
                  refine WK_seq ?_
                  refine WK_region ?_
                  obtain ⟨v_19, hy40, hm31⟩ := bind_some hm31
                  obtain ⟨hc41, hy40⟩ := ix_some hy40
                  refine WO_index tbok rfl rfl rfl rfl rfl rfl rfl rfl (SlR.addr h_p2) hc41 ?_
                  refine WO_loadE tbok rfl rfl rfl rfl (fun _ h => St.sat h) h_p2 hy40 rfl ?_
                  refine WO_pure tbok 1 [(3, .pointer (some ⟨b1, 0, none⟩)), (4, .pointer (some ⟨b2, 0, none⟩)), (6, .bool false), (7, .pointer (some ⟨b13, 0, none⟩)), (8, .int .i64 y_7), (12, .pointer (some ⟨b23, 0, none⟩)), (14, .int .i64 v_19), (95, .slice a_p2 p2.length c_p2), (96, .int .i64 (p2.length : Int)), (97, .int .i64 s_16)] rfl ⟨rfl, rfl, rfl, rfl, rfl, rfl, rfl, rfl, rfl, rfl, trivial⟩ ?_
                  refine WO_end ?_
                  refine WK_seq ?_
                  refine WK_region ?_
                  refine WO_loadB tbok 0 rfl rfl rfl rfl (fun _ h => h) rfl rfl ?_
                  refine WO_pure tbok 1 [(3, .pointer (some ⟨b1, 0, none⟩)), (4, .pointer (some ⟨b2, 0, none⟩)), (6, .bool false), (7, .pointer (some ⟨b13, 0, none⟩)), (8, .int .i64 y_7), (12, .pointer (some ⟨b23, 0, none⟩)), (14, .int .i64 v_19), (95, .slice a_p2 p2.length c_p2), (96, .int .i64 (p2.length : Int)), (97, .int .i64 s_16), (101, .agg #[.int .i64 p0_0, .int .i64 p0_1, .int .i64 p0_2, .slice a_p0_3 p0_3.length c_p0_3]), (102, .pointer (some ⟨b2, 0, none⟩))] rfl ⟨rfl, rfl, rfl, rfl, rfl, rfl, rfl, rfl, rfl, rfl, rfl, rfl, trivial⟩ ?_
                  refine WO_loadB tbok 1 rfl rfl rfl rfl (fun _ h => h) rfl rfl ?_
                  refine WO_pure tbok 1 [(3, .pointer (some ⟨b1, 0, none⟩)), (4, .pointer (some ⟨b2, 0, none⟩)), (6, .bool false), (7, .pointer (some ⟨b13, 0, none⟩)), (8, .int .i64 y_7), (12, .pointer (some ⟨b23, 0, none⟩)), (14, .int .i64 v_19), (95, .slice a_p2 p2.length c_p2), (96, .int .i64 (p2.length : Int)), (97, .int .i64 s_16), (101, .agg #[.int .i64 p0_0, .int .i64 p0_1, .int .i64 p0_2, .slice a_p0_3 p0_3.length c_p0_3]), (103, .int .i64 p1_0), (104, .pointer (some ⟨b2, 1, none⟩))] rfl ⟨rfl, rfl, rfl, rfl, rfl, rfl, rfl, rfl, rfl, rfl, rfl, rfl, rfl, trivial⟩ ?_
                  refine WO_loadB tbok 1 rfl rfl rfl rfl (fun _ h => h) rfl rfl ?_
                  refine WO_pure tbok 1 [(3, .pointer (some ⟨b1, 0, none⟩)), (4, .pointer (some ⟨b2, 0, none⟩)), (6, .bool false), (7, .pointer (some ⟨b13, 0, none⟩)), (8, .int .i64 y_7), (12, .pointer (some ⟨b23, 0, none⟩)), (95, .slice a_p2 p2.length c_p2), (96, .int .i64 (p2.length : Int)), (97, .int .i64 s_16), (101, .agg #[.int .i64 p0_0, .int .i64 p0_1, .int .i64 p0_2, .slice a_p0_3 p0_3.length c_p0_3]), (103, .int .i64 p1_0), (105, .int .i64 p1_1), (106, .int .i64 v_19)] rfl ⟨rfl, rfl, rfl, rfl, rfl, rfl, rfl, rfl, rfl, rfl, rfl, rfl, rfl, trivial⟩ ?_
                  obtain ⟨⟨y_20, y_21, y_22, y_23⟩, hc42, hm31⟩ := bind_some hm31
                  refine WO_call1 (fiduciallaw45_path_Q (y_20, y_21, y_22, y_23)) rfl rfl trivial rfl rfl rfl rfl ⟨11, #[], #[], rfl, callable_11, fun w hw => ⟨_, hw.sat, fiduciallaw45_path_walk h_p0_3 hc42⟩⟩ (fun v46 L45 hq => ?_)
                  obtain ⟨a43, qa43, c44, rfl, hL45⟩ := hq
                  obtain rfl := OwnE.qlen hL45
                  refine WO.cls (C' := St w0 m m [[⟨b1, 24, [.int .i64 p0_0, .int .i64 p0_1, .int .i64 p0_2, .slice a_p0_3 p0_3.length c_p0_3]⟩], [⟨b2, 25, [.int .i64 p1_0, .int .i64 p1_1]⟩], L11, [⟨b13, 24, [.int .i64 y_3, .int .i64 y_4, .int .i64 y_5, .slice a9 ((y_6).length) c10]⟩], [⟨b23, 24, [.int .i64 s_12, .int .i64 s_13, .int .i64 s_14, .slice a20 ((l_11).length) c21]⟩], L26, L45]) (fun _ h => h) ?_
                  refine WO_field tbok rfl rfl trivial rfl rfl rfl rfl rfl rfl rfl rfl ?_
                  refine WO_pure tbok 2 [(3, .pointer (some ⟨b1, 0, none⟩)), (4, .pointer (some ⟨b2, 0, none⟩)), (6, .bool false), (7, .pointer (some ⟨b13, 0, none⟩)), (8, .int .i64 y_7), (12, .pointer (some ⟨b23, 0, none⟩)), (95, .slice a_p2 p2.length c_p2), (96, .int .i64 (p2.length : Int)), (97, .int .i64 s_16), (108, .slice a43 ((y_23).length) c44), (109, .int .i64 ((y_23).length : Int)), (110, .int .i64 0)] rfl ⟨rfl, rfl, rfl, rfl, rfl, rfl, rfl, rfl, rfl, rfl, rfl, rfl, trivial⟩ ?_
                  refine WO_end ?_
                  obtain ⟨x49, hx50, hm31⟩ := bind_some hm31
                  refine WK_join (β := (List Int) × (List Ent)) (fun p => p.1 = x49 ∧ OwnE 3 1 (I1 .i64) (.slice a20 ((l_11).length) c21) p.1 p.2) (fun p => [(3, .pointer (some ⟨b1, 0, none⟩)), (4, .pointer (some ⟨b2, 0, none⟩)), (6, .bool false), (7, .pointer (some ⟨b13, 0, none⟩)), (8, .int .i64 y_7), (12, .pointer (some ⟨b23, 0, none⟩)), (95, .slice a_p2 p2.length c_p2), (96, .int .i64 (p2.length : Int)), (97, .int .i64 s_16)]) (fun p => St w0 m m [[⟨b1, 24, [.int .i64 p0_0, .int .i64 p0_1, .int .i64 p0_2, .slice a_p0_3 p0_3.length c_p0_3]⟩], [⟨b2, 25, [.int .i64 p1_0, .int .i64 p1_1]⟩], L11, [⟨b13, 24, [.int .i64 y_3, .int .i64 y_4, .int .i64 y_5, .slice a9 ((y_6).length) c10]⟩], [⟨b23, 24, [.int .i64 s_12, .int .i64 s_13, .int .i64 s_14, .slice a20 ((l_11).length) c21]⟩], p.2, L45]) ?_ (fun hk51 => ?_)
                  · rintro ⟨l_26, L48⟩ ⟨hq57, hL48⟩
                    subst hq57
                    refine WK.sub (e' := [(3, .pointer (some ⟨b1, 0, none⟩)), (4, .pointer (some ⟨b2, 0, none⟩)), (6, .bool false), (7, .pointer (some ⟨b13, 0, none⟩)), (8, .int .i64 y_7), (12, .pointer (some ⟨b23, 0, none⟩)), (95, .slice a_p2 p2.length c_p2), (96, .int .i64 (p2.length : Int)), (97, .int .i64 s_16)]) ⟨rfl, rfl, rfl, rfl, rfl, rfl, rfl, rfl, rfl, trivial⟩ (WK.cls (C' := St w0 m m [[⟨b1, 24, [.int .i64 p0_0, .int .i64 p0_1, .int .i64 p0_2, .slice a_p0_3 p0_3.length c_p0_3]⟩], [⟨b2, 25, [.int .i64 p1_0, .int .i64 p1_1]⟩], L11, [⟨b13, 24, [.int .i64 y_3, .int .i64 y_4, .int .i64 y_5, .slice a9 ((y_6).length) c10]⟩], [⟨b23, 24, [.int .i64 s_12, .int .i64 s_13, .int .i64 s_14, .slice a20 ((l_11).length) c21]⟩], L48, L45]) (fun _ h => h) ?_)
                    refine WK_blk ?_
                    refine WK_region ?_
                    refine WO_pure tbok 2 [(3, .pointer (some ⟨b1, 0, none⟩)), (4, .pointer (some ⟨b2, 0, none⟩)), (6, .bool false), (7, .pointer (some ⟨b13, 0, none⟩)), (8, .int .i64 y_7), (12, .pointer (some ⟨b23, 0, none⟩)), (95, .slice a_p2 p2.length c_p2), (96, .int .i64 (p2.length : Int)), (97, .int .i64 (w64 (s_16 + 1)))] rfl ⟨rfl, rfl, rfl, rfl, rfl, rfl, rfl, rfl, rfl, trivial⟩ ?_
                    refine WO_end ?_
                    cases hm31
                    refine WK.sub ?_ (WK.cls (fun _ h => St.take 6 h) (hn34 _ L48 rfl hL48))
                    exact ⟨rfl, rfl, rfl, rfl, rfl, rfl, rfl, rfl, rfl, trivial⟩
                  · refine WK_block ?_
                    refine WK_loop (S := List Int × Int) (G := List Ent) (fun s => fiduciallaw45_AggregateSums_s2 y_23 s.1 s.2) (fun s g => [(3, .pointer (some ⟨b1, 0, none⟩)), (4, .pointer (some ⟨b2, 0, none⟩)), (6, .bool false), (7, .pointer (some ⟨b13, 0, none⟩)), (8, .int .i64 y_7), (12, .pointer (some ⟨b23, 0, none⟩)), (95, .slice a_p2 p2.length c_p2), (96, .int .i64 (p2.length : Int)), (97, .int .i64 s_16), (108, .slice a43 ((y_23).length) c44), (109, .int .i64 ((y_23).length : Int)), (110, .int .i64 s.2)]) (fun s g => St w0 m m [[⟨b1, 24, [.int .i64 p0_0, .int .i64 p0_1, .int .i64 p0_2, .slice a_p0_3 p0_3.length c_p0_3]⟩], [⟨b2, 25, [.int .i64 p1_0, .int .i64 p1_1]⟩], L11, [⟨b13, 24, [.int .i64 y_3, .int .i64 y_4, .int .i64 y_5, .slice a9 ((y_6).length) c10]⟩], [⟨b23, 24, [.int .i64 s_12, .int .i64 s_13, .int .i64 s_14, .slice a20 ((l_11).length) c21]⟩], g, L45]) (fun s g => OwnE 3 1 (I1 .i64) (.slice a20 ((l_11).length) c21) s.1 g) FUEL (l_15, 0) L26 x49 hx50 hL26 ⟨rfl, rfl, rfl, rfl, rfl, rfl, rfl, rfl, rfl, rfl, rfl, rfl, trivial⟩ (fun _ h => h) ?_
                    rintro ⟨l_24, s_25⟩ L47 o53 fl54 hm52 hL47 hn55 hd56
                    have hm52 : fiduciallaw45_AggregateSums_s2 y_23 l_24 s_25 = some o53 := hm52
                    unfold fiduciallaw45_AggregateSums_s2 at hm52
                    refine WK.sub (e' := [(3, .pointer (some ⟨b1, 0, none⟩)), (4, .pointer (some ⟨b2, 0, none⟩)), (6, .bool false), (7, .pointer (some ⟨b13, 0, none⟩)), (8, .int .i64 y_7), (12, .pointer (some ⟨b23, 0, none⟩)), (95, .slice a_p2 p2.length c_p2), (96, .int .i64 (p2.length : Int)), (97, .int .i64 s_16), (108, .slice a43 ((y_23).length) c44), (109, .int .i64 ((y_23).length : Int)), (110, .int .i64 s_25)]) ⟨rfl, rfl, rfl, rfl, rfl, rfl, rfl, rfl, rfl, rfl, rfl, rfl, trivial⟩ (WK.cls (C' := St w0 m m [[⟨b1, 24, [.int .i64 p0_0, .int .i64 p0_1, .int .i64 p0_2, .slice a_p0_3 p0_3.length c_p0_3]⟩], [⟨b2, 25, [.int .i64 p1_0, .int .i64 p1_1]⟩], L11, [⟨b13, 24, [.int .i64 y_3, .int .i64 y_4, .int .i64 y_5, .slice a9 ((y_6).length) c10]⟩], [⟨b23, 24, [.int .i64 s_12, .int .i64 s_13, .int .i64 s_14, .slice a20 ((l_11).length) c21]⟩], L47, L45]) (fun _ h => h) ?_)
                    refine WK_seq ?_
                    refine WK_region ?_
                    refine WO_pure tbok 1 [(3, .pointer (some ⟨b1, 0, none⟩)), (4, .pointer (some ⟨b2, 0, none⟩)), (6, .bool false), (7, .pointer (some ⟨b13, 0, none⟩)), (8, .int .i64 y_7), (12, .pointer (some ⟨b23, 0, none⟩)), (95, .slice a_p2 p2.length c_p2), (96, .int .i64 (p2.length : Int)), (97, .int .i64 s_16), (108, .slice a43 ((y_23).length) c44), (109, .int .i64 ((y_23).length : Int)), (110, .int .i64 s_25), (111, .bool (decide (s_25 < ((y_23).length : Int))))] rfl ⟨rfl, rfl, rfl, rfl, rfl, rfl, rfl, rfl, rfl, rfl, rfl, rfl, rfl, trivial⟩ ?_
                    refine WO_end ?_
                    refine WK_seq ?_
                    refine WK_cond (b := decide (s_25 < ((y_23).length : Int))) rfl (fun hb58 => ?_) (fun hb58 => ?_)
                    · have hm52 := ifT hb58 hm52
                      refine WK_skip ?_
                      refine WK_seq ?_
                      refine WK_block ?_
                      refine WK_seq ?_
                      refine WK_region ?_
                      refine WO_pure tbok 1 [(3, .pointer (some ⟨b1, 0, none⟩)), (4, .pointer (some ⟨b2, 0, none⟩)), (6, .bool false), (7, .pointer (some ⟨b13, 0, none⟩)), (8, .int .i64 y_7), (12, .pointer (some ⟨b23, 0, none⟩)), (95, .slice a_p2 p2.length c_p2), (96, .int .i64 (p2.length : Int)), (97, .int .i64 s_16), (108, .slice a43 ((y_23).length) c44), (109, .int .i64 ((y_23).length : Int)), (110, .int .i64 s_25), (112, .int .i64 s_25)] rfl ⟨rfl, rfl, rfl, rfl, rfl, rfl, rfl, rfl, rfl, rfl, rfl, rfl, rfl, trivial⟩ ?_
                      obtain ⟨v_27, hy59, hm52⟩ := bind_some hm52
                      obtain ⟨hc60, hy59⟩ := ix_some hy59
                      refine WO_index tbok rfl rfl rfl rfl rfl rfl rfl rfl (OwnE.addr hL45) (by simpa using hc60) ?_
                      refine WO_loadO (E := (I1 .i64)) tbok (fun _ => rfl) 6 rfl rfl rfl rfl (fun _ h => h) hL45 rfl hy59 rfl ?_
                      refine WO_pure tbok 2 [(3, .pointer (some ⟨b1, 0, none⟩)), (4, .pointer (some ⟨b2, 0, none⟩)), (6, .bool false), (7, .pointer (some ⟨b13, 0, none⟩)), (8, .int .i64 y_7), (12, .pointer (some ⟨b23, 0, none⟩)), (15, .int .i64 s_25), (16, .int .i64 v_27), (95, .slice a_p2 p2.length c_p2), (96, .int .i64 (p2.length : Int)), (97, .int .i64 s_16), (108, .slice a43 ((y_23).length) c44), (109, .int .i64 ((y_23).length : Int)), (110, .int .i64 s_25)] rfl ⟨rfl, rfl, rfl, rfl, rfl, rfl, rfl, rfl, rfl, rfl, rfl, rfl, rfl, rfl, trivial⟩ ?_
                      refine WO_end ?_
                      refine WK_region ?_
                      refine WO_pure tbok 1 [(3, .pointer (some ⟨b1, 0, none⟩)), (4, .pointer (some ⟨b2, 0, none⟩)), (6, .bool false), (7, .pointer (some ⟨b13, 0, none⟩)), (8, .int .i64 y_7), (12, .pointer (some ⟨b23, 0, none⟩)), (15, .int .i64 s_25), (16, .int .i64 v_27), (95, .slice a_p2 p2.length c_p2), (96, .int .i64 (p2.length : Int)), (97, .int .i64 s_16), (108, .slice a43 ((y_23).length) c44), (109, .int .i64 ((y_23).length : Int)), (110, .int .i64 s_25), (115, .pointer (some ⟨b23, 3, none⟩))] rfl ⟨rfl, rfl, rfl, rfl, rfl, rfl, rfl, rfl, rfl, rfl, rfl, rfl, rfl, rfl, rfl, trivial⟩ ?_
                      refine WO_loadB tbok 4 rfl rfl rfl rfl (fun _ h => h) rfl rfl ?_
                      refine WO_pure tbok 1 [(3, .pointer (some ⟨b1, 0, none⟩)), (4, .pointer (some ⟨b2, 0, none⟩)), (6, .bool false), (7, .pointer (some ⟨b13, 0, none⟩)), (8, .int .i64 y_7), (12, .pointer (some ⟨b23, 0, none⟩)), (16, .int .i64 v_27), (95, .slice a_p2 p2.length c_p2), (96, .int .i64 (p2.length : Int)), (97, .int .i64 s_16), (108, .slice a43 ((y_23).length) c44), (109, .int .i64 ((y_23).length : Int)), (110, .int .i64 s_25), (116, .slice a20 ((l_11).length) c21), (117, .int .i64 s_25)] rfl ⟨rfl, rfl, rfl, rfl, rfl, rfl, rfl, rfl, rfl, rfl, rfl, rfl, rfl, rfl, rfl, trivial⟩ ?_
                      obtain ⟨v_28, hy61, hm52⟩ := bind_some hm52
                      obtain ⟨hc62, hy61⟩ := ix_some hy61
                      refine WO_index tbok rfl rfl rfl rfl rfl rfl rfl rfl (OwnE.addr hL47) (by simpa using hc62) ?_
                      refine WO_loadO (E := (I1 .i64)) tbok (fun _ => rfl) 5 rfl rfl rfl rfl (fun _ h => h) hL47 rfl hy61 rfl ?_
                      refine WO_pure tbok 2 [(3, .pointer (some ⟨b1, 0, none⟩)), (4, .pointer (some ⟨b2, 0, none⟩)), (6, .bool false), (7, .pointer (some ⟨b13, 0, none⟩)), (8, .int .i64 y_7), (12, .pointer (some ⟨b23, 0, none⟩)), (95, .slice a_p2 p2.length c_p2), (96, .int .i64 (p2.length : Int)), (97, .int .i64 s_16), (108, .slice a43 ((y_23).length) c44), (109, .int .i64 ((y_23).length : Int)), (110, .int .i64 s_25), (116, .slice a20 ((l_11).length) c21), (117, .int .i64 s_25), (121, .int .i64 (w64 (v_28 + v_27)))] rfl ⟨rfl, rfl, rfl, rfl, rfl, rfl, rfl, rfl, rfl, rfl, rfl, rfl, rfl, rfl, rfl, trivial⟩ ?_
                      obtain ⟨hc63, hm52⟩ := chk_some hm52
                      refine WO_index tbok rfl rfl rfl rfl rfl rfl rfl rfl (OwnE.addr hL47) (by simpa using hc63) ?_
                      refine WO_storeO (E := (I1 .i64)) tbok (fun _ => rfl) 5 (w64 (v_28 + v_27)) rfl rfl rfl rfl rfl hL47 rfl (by simpa using idx_lt hc63) rfl rfl rfl rfl (fun L64 hL64 => ?_)
                      refine WO.cls (C' := St w0 m m [[⟨b1, 24, [.int .i64 p0_0, .int .i64 p0_1, .int .i64 p0_2, .slice a_p0_3 p0_3.length c_p0_3]⟩], [⟨b2, 25, [.int .i64 p1_0, .int .i64 p1_1]⟩], L11, [⟨b13, 24, [.int .i64 y_3, .int .i64 y_4, .int .i64 y_5, .slice a9 ((y_6).length) c10]⟩], [⟨b23, 24, [.int .i64 s_12, .int .i64 s_13, .int .i64 s_14, .slice a20 ((l_11).length) c21]⟩], L64, L45]) (fun _ h => h) ?_
                      refine WO_end ?_
                      refine WK_blk ?_
                      refine WK_region ?_
                      refine WO_pure tbok 2 [(3, .pointer (some ⟨b1, 0, none⟩)), (4, .pointer (some ⟨b2, 0, none⟩)), (6, .bool false), (7, .pointer (some ⟨b13, 0, none⟩)), (8, .int .i64 y_7), (12, .pointer (some ⟨b23, 0, none⟩)), (95, .slice a_p2 p2.length c_p2), (96, .int .i64 (p2.length : Int)), (97, .int .i64 s_16), (108, .slice a43 ((y_23).length) c44), (109, .int .i64 ((y_23).length : Int)), (110, .int .i64 (w64 (s_25 + 1)))] rfl ⟨rfl, rfl, rfl, rfl, rfl, rfl, rfl, rfl, rfl, rfl, rfl, rfl, trivial⟩ ?_
                      refine WO_end ?_
                      cases hm52
                      refine WK.sub ?_ (WK.cls (fun _ h => h) (hn55 _ L64 rfl hL64))
                      exact ⟨rfl, rfl, rfl, rfl, rfl, rfl, rfl, rfl, rfl, rfl, rfl, rfl, trivial⟩
                    · have hm52 := ifF hb58 hm52
                      refine WK_exit rfl ?_
                      cases hm52
                      refine WK.sub ?_ (WK.cls (fun _ h => h) (hk51 (l_24, L47) ⟨(hd56 _ rfl), hL47⟩))
                      exact ⟨rfl, rfl, rfl, rfl, rfl, rfl, rfl, rfl, rfl, trivial⟩
                · have hm31 := ifF hb39 hm31
                  refine WK_exit rfl ?_
                  cases hm31
                  refine WK.sub ?_ (WK.cls (fun _ h => h) (hk30 (l_15, L26) ⟨(hd35 _ rfl), hL26⟩))
                  exact ⟨rfl, rfl, rfl, rfl, trivial⟩
            · refine WK_plan 12 [0, 2, 4, 6] (.run [1, 3, 5, 7, 8] (.alt 9 (.run [10, 11] .fin) (.alt 11 (.run [9, 10] .fin) .none))) follows_ok (by kernel_rfl) St_closed ?_
              refine WO_pure tbok 4 [(2, .slice a_p2 p2.length c_p2), (3, .pointer (some ⟨b1, 0, none⟩)), (4, .pointer (some ⟨b2, 0, none⟩)), (6, .bool false), (7, .pointer (some ⟨b13, 0, none⟩)), (8, .int .i64 y_7), (84, .pointer (some ⟨b1, 0, none⟩)), (86, .pointer (some ⟨b1, 1, none⟩)), (88, .pointer (some ⟨b1, 2, none⟩)), (90, .pointer (some ⟨b1, 3, none⟩))] rfl ⟨rfl, rfl, rfl, rfl, rfl, rfl, rfl, rfl, rfl, rfl, trivial⟩ ?_
              refine WO_plan ?_
              refine WT_run ?_
              refine WO_loadB tbok 0 rfl rfl rfl rfl (fun _ h => h) rfl rfl ?_
              refine WO_loadB tbok 0 rfl rfl rfl rfl (fun _ h => h) rfl rfl ?_
              refine WO_loadB tbok 0 rfl rfl rfl rfl (fun _ h => h) rfl rfl ?_
              refine WO_loadB tbok 0 rfl rfl rfl rfl (fun _ h => h) rfl rfl ?_
              refine WO_pure tbok 1 [(2, .slice a_p2 p2.length c_p2), (3, .pointer (some ⟨b1, 0, none⟩)), (4, .pointer (some ⟨b2, 0, none⟩)), (6, .bool false), (7, .pointer (some ⟨b13, 0, none⟩)), (8, .int .i64 y_7), (85, .int .i64 p0_0), (87, .int .i64 p0_1), (89, .int .i64 p0_2), (92, .int .i64 (p0_3.length : Int))] rfl ⟨rfl, rfl, rfl, rfl, rfl, rfl, rfl, rfl, rfl, rfl, trivial⟩ ?_
              refine WO_tree rfl ?_
              refine WT_alt rfl ?_ ?_
              · obtain ⟨hc65, hx24⟩ := chk_some hx24
                refine WO_make (E := (I1 .i64)) tbok (fun _ => rfl) (by decide) (0 : Int) rfl rfl St_closed rfl rfl rfl rfl rfl rfl rfl rfl rfl (mk_ok (by decide) hc65) (fun b66 c67 L68 hL68 => ?_)
                refine WO.cls (C' := St w0 m m [[⟨b1, 24, [.int .i64 p0_0, .int .i64 p0_1, .int .i64 p0_2, .slice a_p0_3 p0_3.length c_p0_3]⟩], [⟨b2, 25, [.int .i64 p1_0, .int .i64 p1_1]⟩], L11, [⟨b13, 24, [.int .i64 y_3, .int .i64 y_4, .int .i64 y_5, .slice a9 ((y_6).length) c10]⟩], L68]) (fun _ h => h) ?_
                refine WO_tree rfl ?_
                refine WT_run ?_
                refine WO_pure tbok 1 [(2, .slice a_p2 p2.length c_p2), (3, .pointer (some ⟨b1, 0, none⟩)), (4, .pointer (some ⟨b2, 0, none⟩)), (6, .bool false), (7, .pointer (some ⟨b13, 0, none⟩)), (8, .int .i64 y_7), (94, .agg #[.int .i64 p0_0, .int .i64 p0_1, .int .i64 p0_2, .slice (some ⟨b66, 0, none⟩) ((List.replicate (p0_3.length : Int).toNat (0 : Int)).length) c67])] rfl ⟨rfl, rfl, rfl, rfl, rfl, rfl, rfl, trivial⟩ ?_
                refine WO_alloc tbok [.int .i64 0, .int .i64 0, .int .i64 0, .slice none 0 0] rfl rfl St_closed rfl rfl rfl rfl (fun b69 => ?_)
                refine WO.cls (C' := St w0 m m [[⟨b1, 24, [.int .i64 p0_0, .int .i64 p0_1, .int .i64 p0_2, .slice a_p0_3 p0_3.length c_p0_3]⟩], [⟨b2, 25, [.int .i64 p1_0, .int .i64 p1_1]⟩], L11, [⟨b13, 24, [.int .i64 y_3, .int .i64 y_4, .int .i64 y_5, .slice a9 ((y_6).length) c10]⟩], L68, [⟨b69, 24, [.int .i64 0, .int .i64 0, .int .i64 0, .slice none 0 0]⟩]]) (fun _ h => h) ?_
                refine WO_tree rfl ?_
                refine WT_fin ?_
                refine WO_storeB tbok 5 [.int .i64 p0_0, .int .i64 p0_1, .int .i64 p0_2, .slice (some ⟨b66, 0, none⟩) ((List.replicate (p0_3.length : Int).toNat (0 : Int)).length) c67] rfl rfl rfl rfl rfl rfl rfl ?_
                refine WO.cls (C' := St w0 m m [[⟨b1, 24, [.int .i64 p0_0, .int .i64 p0_1, .int .i64 p0_2, .slice a_p0_3 p0_3.length c_p0_3]⟩], [⟨b2, 25, [.int .i64 p1_0, .int .i64 p1_1]⟩], L11, [⟨b13, 24, [.int .i64 y_3, .int .i64 y_4, .int .i64 y_5, .slice a9 ((y_6).length) c10]⟩], L68, [⟨b69, 24, [.int .i64 p0_0, .int .i64 p0_1, .int .i64 p0_2, .slice (some ⟨b66, 0, none⟩) ((List.replicate (p0_3.length : Int).toNat (0 : Int)).length) c67]⟩]]) (fun _ h => h) ?_
                refine WO_end ?_
                refine WK.cls (fun _ h => h.perm (Ls' := [[⟨b1, 24, [.int .i64 p0_0, .int .i64 p0_1, .int .i64 p0_2, .slice a_p0_3 p0_3.length c_p0_3]⟩], [⟨b2, 25, [.int .i64 p1_0, .int .i64 p1_1]⟩], L11, [⟨b13, 24, [.int .i64 y_3, .int .i64 y_4, .int .i64 y_5, .slice a9 ((y_6).length) c10]⟩], [⟨b69, 24, [.int .i64 p0_0, .int .i64 p0_1, .int .i64 p0_2, .slice (some ⟨b66, 0, none⟩) ((List.replicate (p0_3.length : Int).toNat (0 : Int)).length) c67]⟩], L68]) (List.Perm.flatten (List.Perm.cons _ (List.Perm.cons _ (List.Perm.cons _ (List.Perm.cons _ (List.Perm.swap _ _ _))))))) ?_
                cases hx24
                refine WK.sub ?_ (hk25 ⟨some ⟨b66, 0, none⟩, c67, L68, b69⟩ hL68)
                exact ⟨rfl, rfl, rfl, rfl, rfl, rfl, rfl, trivial⟩
              · refine WT_alt rfl ?_ ?_
                · refine WO_alloc tbok [.int .i64 0, .int .i64 0, .int .i64 0, .slice none 0 0] rfl rfl St_closed rfl rfl rfl rfl (fun b70 => ?_)
                  refine WO.cls (C' := St w0 m m [[⟨b1, 24, [.int .i64 p0_0, .int .i64 p0_1, .int .i64 p0_2, .slice a_p0_3 p0_3.length c_p0_3]⟩], [⟨b2, 25, [.int .i64 p1_0, .int .i64 p1_1]⟩], L11, [⟨b13, 24, [.int .i64 y_3, .int .i64 y_4, .int .i64 y_5, .slice a9 ((y_6).length) c10]⟩], [⟨b70, 24, [.int .i64 0, .int .i64 0, .int .i64 0, .slice none 0 0]⟩]]) (fun _ h => h) ?_
                  refine WO_tree rfl ?_
                  refine WT_run ?_
                  obtain ⟨hc71, hx24⟩ := chk_some hx24
                  refine WO_make (E := (I1 .i64)) tbok (fun _ => rfl) (by decide) (0 : Int) rfl rfl St_closed rfl rfl rfl rfl rfl rfl rfl rfl rfl (mk_ok (by decide) hc71) (fun b72 c73 L74 hL74 => ?_)
                  refine WO.cls (C' := St w0 m m [[⟨b1, 24, [.int .i64 p0_0, .int .i64 p0_1, .int .i64 p0_2, .slice a_p0_3 p0_3.length c_p0_3]⟩], [⟨b2, 25, [.int .i64 p1_0, .int .i64 p1_1]⟩], L11, [⟨b13, 24, [.int .i64 y_3, .int .i64 y_4, .int .i64 y_5, .slice a9 ((y_6).length) c10]⟩], [⟨b70, 24, [.int .i64 0, .int .i64 0, .int .i64 0, .slice none 0 0]⟩], L74]) (fun _ h => h) ?_
                  refine WO_pure tbok 1 [(2, .slice a_p2 p2.length c_p2), (3, .pointer (some ⟨b1, 0, none⟩)), (4, .pointer (some ⟨b2, 0, none⟩)), (6, .bool false), (7, .pointer (some ⟨b13, 0, none⟩)), (8, .int .i64 y_7), (12, .pointer (some ⟨b70, 0, none⟩)), (94, .agg #[.int .i64 p0_0, .int .i64 p0_1, .int .i64 p0_2, .slice (some ⟨b72, 0, none⟩) ((List.replicate (p0_3.length : Int).toNat (0 : Int)).length) c73])] rfl ⟨rfl, rfl, rfl, rfl, rfl, rfl, rfl, rfl, trivial⟩ ?_
                  refine WO_tree rfl ?_
                  refine WT_fin ?_
                  refine WO_storeB tbok 4 [.int .i64 p0_0, .int .i64 p0_1, .int .i64 p0_2, .slice (some ⟨b72, 0, none⟩) ((List.replicate (p0_3.length : Int).toNat (0 : Int)).length) c73] rfl rfl rfl rfl rfl rfl rfl ?_
                  refine WO.cls (C' := St w0 m m [[⟨b1, 24, [.int .i64 p0_0, .int .i64 p0_1, .int .i64 p0_2, .slice a_p0_3 p0_3.length c_p0_3]⟩], [⟨b2, 25, [.int .i64 p1_0, .int .i64 p1_1]⟩], L11, [⟨b13, 24, [.int .i64 y_3, .int .i64 y_4, .int .i64 y_5, .slice a9 ((y_6).length) c10]⟩], [⟨b70, 24, [.int .i64 p0_0, .int .i64 p0_1, .int .i64 p0_2, .slice (some ⟨b72, 0, none⟩) ((List.replicate (p0_3.length : Int).toNat (0 : Int)).length) c73]⟩], L74]) (fun _ h => h) ?_
                  refine WO_end ?_
                  cases hx24
                  refine WK.sub ?_ (hk25 ⟨some ⟨b72, 0, none⟩, c73, L74, b70⟩ hL74)
                  exact ⟨rfl, rfl, rfl, rfl, rfl, rfl, rfl, trivial⟩
                · exact WT_none
        · refine WK_cond (b := y_8 == 0) rfl (fun hb75 => ?_) (fun hb75 => ?_)
          · have hx15 := ifT hb75 hx15
            refine WK_seq ?_
            refine WK_seq ?_
            refine WK_region ?_
            refine WO_pure tbok 3 [(2, .slice a_p2 p2.length c_p2), (3, .pointer (some ⟨b1, 0, none⟩)), (4, .pointer (some ⟨b2, 0, none⟩)), (6, .bool false), (7, .pointer (some ⟨b13, 0, none⟩)), (8, .int .i64 y_7), (9, .int .i64 y_8), (45, .slice a_p2 p2.length c_p2), (46, .int .i64 (p2.length : Int)), (47, .int .i64 0)] rfl ⟨rfl, rfl, rfl, rfl, rfl, rfl, rfl, rfl, rfl, rfl, trivial⟩ ?_
            refine WO_end ?_
            obtain ⟨x76, hx77, hx15⟩ := bind_some hx15
            refine WK_join (β := Int × Unit) (fun p => p.1 = x76) (fun p => [(2, .slice a_p2 p2.length c_p2), (3, .pointer (some ⟨b1, 0, none⟩)), (4, .pointer (some ⟨b2, 0, none⟩)), (6, .bool false), (7, .pointer (some ⟨b13, 0, none⟩)), (8, .int .i64 y_7), (9, .int .i64 p.1)]) (fun p => St w0 m m [[⟨b1, 24, [.int .i64 p0_0, .int .i64 p0_1, .int .i64 p0_2, .slice a_p0_3 p0_3.length c_p0_3]⟩], [⟨b2, 25, [.int .i64 p1_0, .int .i64 p1_1]⟩], L11, [⟨b13, 24, [.int .i64 y_3, .int .i64 y_4, .int .i64 y_5, .slice a9 ((y_6).length) c10]⟩]]) ?_ (fun hk78 => ?_)
            · rintro ⟨s_31, ⟨⟩⟩ hq84
              subst hq84
              refine WK.sub (e' := [(2, .slice a_p2 p2.length c_p2), (3, .pointer (some ⟨b1, 0, none⟩)), (4, .pointer (some ⟨b2, 0, none⟩)), (6, .bool false), (7, .pointer (some ⟨b13, 0, none⟩)), (8, .int .i64 y_7), (9, .int .i64 s_31)]) ⟨rfl, rfl, rfl, rfl, rfl, rfl, rfl, trivial⟩ (WK.cls (C' := St w0 m m [[⟨b1, 24, [.int .i64 p0_0, .int .i64 p0_1, .int .i64 p0_2, .slice a_p0_3 p0_3.length c_p0_3]⟩], [⟨b2, 25, [.int .i64 p1_0, .int .i64 p1_1]⟩], L11, [⟨b13, 24, [.int .i64 y_3, .int .i64 y_4, .int .i64 y_5, .slice a9 ((y_6).length) c10]⟩]]) (fun _ h => h) ?_)
              refine WK_seq ?_
              refine WK_region ?_
              refine WO_pure tbok 3 [(2, .slice a_p2 p2.length c_p2), (3, .pointer (some ⟨b1, 0, none⟩)), (4, .pointer (some ⟨b2, 0, none⟩)), (6, .bool false), (7, .pointer (some ⟨b13, 0, none⟩)), (8, .int .i64 y_7), (9, .int .i64 s_31), (74, .bool ((p2.length : Int) == 0))] rfl ⟨rfl, rfl, rfl, rfl, rfl, rfl, rfl, rfl, trivial⟩ ?_
              refine WO_end ?_
              refine WK_cond (b := (p2.length : Int) == 0) rfl (fun hb85 => ?_) (fun hb85 => ?_)
              · have hx15 := ifT hb85 hx15
                refine WK_region ?_
                refine WO_pure tbok 1 [(2, .slice a_p2 p2.length c_p2), (3, .pointer (some ⟨b1, 0, none⟩)), (4, .pointer (some ⟨b2, 0, none⟩)), (6, .bool false), (7, .pointer (some ⟨b13, 0, none⟩)), (8, .int .i64 y_7), (9, .int .i64 1)] rfl ⟨rfl, rfl, rfl, rfl, rfl, rfl, rfl, trivial⟩ ?_
                refine WO_end ?_
                cases hx15
                refine WK.sub ?_ (WK.cls (fun _ h => h) hk16)
                exact ⟨rfl, rfl, rfl, rfl, rfl, rfl, rfl, trivial⟩
              · have hx15 := ifF hb85 hx15
                refine WK_skip ?_
                cases hx15
                refine WK.sub ?_ (WK.cls (fun _ h => h) hk16)
                exact ⟨rfl, rfl, rfl, rfl, rfl, rfl, rfl, trivial⟩
            · refine WK_block ?_
              refine WK_loop (S := Int × Int) (G := Unit) (fun s => fiduciallaw45_AggregateSums_s3 p2 s.1 s.2) (fun s g => [(2, .slice a_p2 p2.length c_p2), (3, .pointer (some ⟨b1, 0, none⟩)), (4, .pointer (some ⟨b2, 0, none⟩)), (6, .bool false), (7, .pointer (some ⟨b13, 0, none⟩)), (8, .int .i64 y_7), (9, .int .i64 s.1), (45, .slice a_p2 p2.length c_p2), (46, .int .i64 (p2.length : Int)), (47, .int .i64 s.2)]) (fun s g => St w0 m m [[⟨b1, 24, [.int .i64 p0_0, .int .i64 p0_1, .int .i64 p0_2, .slice a_p0_3 p0_3.length c_p0_3]⟩], [⟨b2, 25, [.int .i64 p1_0, .int .i64 p1_1]⟩], L11, [⟨b13, 24, [.int .i64 y_3, .int .i64 y_4, .int .i64 y_5, .slice a9 ((y_6).length) c10]⟩]]) (fun s g => True) FUEL (y_8, 0) () x76 hx77 trivial ⟨rfl, rfl, rfl, rfl, rfl, rfl, rfl, rfl, rfl, rfl, trivial⟩ (fun _ h => h) ?_
              rintro ⟨s_29, s_30⟩ ⟨⟩ o80 fl81 hm79 - hn82 hd83
              have hm79 : fiduciallaw45_AggregateSums_s3 p2 s_29 s_30 = some o80 := hm79
              unfold fiduciallaw45_AggregateSums_s3 at hm79
              refine WK.sub (e' := [(2, .slice a_p2 p2.length c_p2), (3, .pointer (some ⟨b1, 0, none⟩)), (4, .pointer (some ⟨b2, 0, none⟩)), (6, .bool false), (7, .pointer (some ⟨b13, 0, none⟩)), (8, .int .i64 y_7), (9, .int .i64 s_29), (45, .slice a_p2 p2.length c_p2), (46, .int .i64 (p2.length : Int)), (47, .int .i64 s_30)]) ⟨rfl, rfl, rfl, rfl, rfl, rfl, rfl, rfl, rfl, rfl, trivial⟩ (WK.cls (C' := St w0 m m [[⟨b1, 24, [.int .i64 p0_0, .int .i64 p0_1, .int .i64 p0_2, .slice a_p0_3 p0_3.length c_p0_3]⟩], [⟨b2, 25, [.int .i64 p1_0, .int .i64 p1_1]⟩], L11, [⟨b13, 24, [.int .i64 y_3, .int .i64 y_4, .int .i64 y_5, .slice a9 ((y_6).length) c10]⟩]]) (fun _ h => h) ?_)
              refine WK_seq ?_
              refine WK_region ?_
              refine WO_pure tbok 1 [(2, .slice a_p2 p2.length c_p2), (3, .pointer (some ⟨b1, 0, none⟩)), (4, .pointer (some ⟨b2, 0, none⟩)), (6, .bool false), (7, .pointer (some ⟨b13, 0, none⟩)), (8, .int .i64 y_7), (9, .int .i64 s_29), (45, .slice a_p2 p2.length c_p2), (46, .int .i64 (p2.length : Int)), (47, .int .i64 s_30), (48, .bool (decide (s_30 < (p2.length : Int))))] rfl ⟨rfl, rfl, rfl, rfl, rfl, rfl, rfl, rfl, rfl, rfl, rfl, trivial⟩ ?_
              refine WO_end ?_
              refine WK_seq ?_
              refine WK_cond (b := decide (s_30 < (p2.length : Int))) rfl (fun hb86 => ?_) (fun hb86 => ?_)
              · have hm79 := ifT hb86 hm79
                refine WK_skip ?_
                refine WK_seq ?_
                refine WK_block ?_
                refine WK_seq ?_
                refine WK_region ?_
                refine WO_pure tbok 1 [(2, .slice a_p2 p2.length c_p2), (3, .pointer (some ⟨b1, 0, none⟩)), (4, .pointer (some ⟨b2, 0, none⟩)), (6, .bool false), (7, .pointer (some ⟨b13, 0, none⟩)), (8, .int .i64 y_7), (9, .int .i64 s_29), (45, .slice a_p2 p2.length c_p2), (46, .int .i64 (p2.length : Int)), (47, .int .i64 s_30), (49, .int .i64 s_30)] rfl ⟨rfl, rfl, rfl, rfl, rfl, rfl, rfl, rfl, rfl, rfl, rfl, trivial⟩ ?_
                obtain ⟨v_32, hy87, hm79⟩ := bind_some hm79
                obtain ⟨hc88, hy87⟩ := ix_some hy87
                refine WO_index tbok rfl rfl rfl rfl rfl rfl rfl rfl (SlR.addr h_p2) hc88 ?_
                refine WO_loadE tbok rfl rfl rfl rfl (fun _ h => St.sat h) h_p2 hy87 rfl ?_
                refine WO_pure tbok 2 [(2, .slice a_p2 p2.length c_p2), (3, .pointer (some ⟨b1, 0, none⟩)), (4, .pointer (some ⟨b2, 0, none⟩)), (6, .bool false), (7, .pointer (some ⟨b13, 0, none⟩)), (8, .int .i64 y_7), (9, .int .i64 s_29), (10, .int .i64 s_30), (11, .int .i64 v_32), (45, .slice a_p2 p2.length c_p2), (46, .int .i64 (p2.length : Int)), (47, .int .i64 s_30)] rfl ⟨rfl, rfl, rfl, rfl, rfl, rfl, rfl, rfl, rfl, rfl, rfl, rfl, trivial⟩ ?_
                refine WO_end ?_
                refine WK_seq ?_
                obtain ⟨s_33, hx89, hm79⟩ := bind_some hm79
                refine WK_meet [(2, .slice a_p2 p2.length c_p2), (3, .pointer (some ⟨b1, 0, none⟩)), (4, .pointer (some ⟨b2, 0, none⟩)), (6, .bool false), (7, .pointer (some ⟨b13, 0, none⟩)), (8, .int .i64 y_7), (9, .int .i64 s_29), (45, .slice a_p2 p2.length c_p2), (46, .int .i64 (p2.length : Int)), (47, .int .i64 s_30), (70, .bool s_33)] (St w0 m m [[⟨b1, 24, [.int .i64 p0_0, .int .i64 p0_1, .int .i64 p0_2, .slice a_p0_3 p0_3.length c_p0_3]⟩], [⟨b2, 25, [.int .i64 p1_0, .int .i64 p1_1]⟩], L11, [⟨b13, 24, [.int .i64 y_3, .int .i64 y_4, .int .i64 y_5, .slice a9 ((y_6).length) c10]⟩]]) ?_ (fun hk90 => ?_)
                · obtain ⟨s_34, hx91, hm79⟩ := bind_some hm79
                  refine WK_meet [(2, .slice a_p2 p2.length c_p2), (3, .pointer (some ⟨b1, 0, none⟩)), (4, .pointer (some ⟨b2, 0, none⟩)), (6, .bool false), (7, .pointer (some ⟨b13, 0, none⟩)), (8, .int .i64 y_7), (9, .int .i64 s_34), (45, .slice a_p2 p2.length c_p2), (46, .int .i64 (p2.length : Int)), (47, .int .i64 s_30)] (St w0 m m [[⟨b1, 24, [.int .i64 p0_0, .int .i64 p0_1, .int .i64 p0_2, .slice a_p0_3 p0_3.length c_p0_3]⟩], [⟨b2, 25, [.int .i64 p1_0, .int .i64 p1_1]⟩], L11, [⟨b13, 24, [.int .i64 y_3, .int .i64 y_4, .int .i64 y_5, .slice a9 ((y_6).length) c10]⟩]]) ?_ (fun hk92 => ?_)
                  · refine WK_blk ?_
                    refine WK_region ?_
                    refine WO_pure tbok 2 [(2, .slice a_p2 p2.length c_p2), (3, .pointer (some ⟨b1, 0, none⟩)), (4, .pointer (some ⟨b2, 0, none⟩)), (6, .bool false), (7, .pointer (some ⟨b13, 0, none⟩)), (8, .int .i64 y_7), (9, .int .i64 s_34), (45, .slice a_p2 p2.length c_p2), (46, .int .i64 (p2.length : Int)), (47, .int .i64 (w64 (s_30 + 1)))] rfl ⟨rfl, rfl, rfl, rfl, rfl, rfl, rfl, rfl, rfl, rfl, trivial⟩ ?_
                    refine WO_end ?_
                    cases hm79
                    refine WK.sub ?_ (WK.cls (fun _ h => h) (hn82 _ () rfl trivial))
                    exact ⟨rfl, rfl, rfl, rfl, rfl, rfl, rfl, rfl, rfl, rfl, trivial⟩
                  · refine WK_cond (b := s_33) rfl (fun hb93 => ?_) (fun hb93 => ?_)
                    · have hx91 := ifT hb93 hx91
                      refine WK_region ?_
                      refine WO_pure tbok 1 [(2, .slice a_p2 p2.length c_p2), (3, .pointer (some ⟨b1, 0, none⟩)), (4, .pointer (some ⟨b2, 0, none⟩)), (6, .bool false), (7, .pointer (some ⟨b13, 0, none⟩)), (8, .int .i64 y_7), (9, .int .i64 1), (45, .slice a_p2 p2.length c_p2), (46, .int .i64 (p2.length : Int)), (47, .int .i64 s_30)] rfl ⟨rfl, rfl, rfl, rfl, rfl, rfl, rfl, rfl, rfl, rfl, trivial⟩ ?_
                      refine WO_end ?_
                      cases hx91
                      refine WK.sub ?_ (WK.cls (fun _ h => h) hk92)
                      exact ⟨rfl, rfl, rfl, rfl, rfl, rfl, rfl, rfl, rfl, rfl, trivial⟩
                    · have hx91 := ifF hb93 hx91
                      refine WK_skip ?_
                      cases hx91
                      refine WK.sub ?_ (WK.cls (fun _ h => h) hk92)
                      exact ⟨rfl, rfl, rfl, rfl, rfl, rfl, rfl, rfl, rfl, rfl, trivial⟩
                · refine WK_region ?_
                  refine WO_pure tbok 3 [(2, .slice a_p2 p2.length c_p2), (3, .pointer (some ⟨b1, 0, none⟩)), (4, .pointer (some ⟨b2, 0, none⟩)), (6, .bool false), (7, .pointer (some ⟨b13, 0, none⟩)), (8, .int .i64 y_7), (9, .int .i64 s_29), (10, .int .i64 s_30), (11, .int .i64 v_32), (45, .slice a_p2 p2.length c_p2), (46, .int .i64 (p2.length : Int)), (47, .int .i64 s_30), (54, .bool (decide (v_32 < 0)))] rfl ⟨rfl, rfl, rfl, rfl, rfl, rfl, rfl, rfl, rfl, rfl, rfl, rfl, rfl, trivial⟩ ?_
                  refine WO_split (d := 54) (b := decide (v_32 < 0)) rfl (fun hb94 => ?_) (fun hb94 => ?_)
                  · have hx89 := ifT hb94 hx89
                    refine WO_pure tbok 16 [(2, .slice a_p2 p2.length c_p2), (3, .pointer (some ⟨b1, 0, none⟩)), (4, .pointer (some ⟨b2, 0, none⟩)), (6, .bool false), (7, .pointer (some ⟨b13, 0, none⟩)), (8, .int .i64 y_7), (9, .int .i64 s_29), (45, .slice a_p2 p2.length c_p2), (46, .int .i64 (p2.length : Int)), (47, .int .i64 s_30), (70, .bool true)] rfl ⟨rfl, rfl, rfl, rfl, rfl, rfl, rfl, rfl, rfl, rfl, rfl, trivial⟩ ?_
                    refine WO_end ?_
                    cases hx89
                    refine WK.sub ?_ (WK.cls (fun _ h => h) hk90)
                    exact ⟨rfl, rfl, rfl, rfl, rfl, rfl, rfl, rfl, rfl, rfl, rfl, trivial⟩
                  · have hx89 := ifF hb94 hx89
                    refine WO_pure tbok 4 [(2, .slice a_p2 p2.length c_p2), (3, .pointer (some ⟨b1, 0, none⟩)), (4, .pointer (some ⟨b2, 0, none⟩)), (6, .bool false), (7, .pointer (some ⟨b13, 0, none⟩)), (8, .int .i64 y_7), (9, .int .i64 s_29), (10, .int .i64 s_30), (11, .int .i64 v_32), (45, .slice a_p2 p2.length c_p2), (46, .int .i64 (p2.length : Int)), (47, .int .i64 s_30), (58, .bool (decide (7 < v_32)))] rfl ⟨rfl, rfl, rfl, rfl, rfl, rfl, rfl, rfl, rfl, rfl, rfl, rfl, rfl, trivial⟩ ?_
                    refine WO_split (d := 58) (b := decide (7 < v_32)) rfl (fun hb95 => ?_) (fun hb95 => ?_)
                    · have hx89 := ifT hb95 hx89
                      refine WO_pure tbok 12 [(2, .slice a_p2 p2.length c_p2), (3, .pointer (some ⟨b1, 0, none⟩)), (4, .pointer (some ⟨b2, 0, none⟩)), (6, .bool false), (7, .pointer (some ⟨b13, 0, none⟩)), (8, .int .i64 y_7), (9, .int .i64 s_29), (45, .slice a_p2 p2.length c_p2), (46, .int .i64 (p2.length : Int)), (47, .int .i64 s_30), (70, .bool true)] rfl ⟨rfl, rfl, rfl, rfl, rfl, rfl, rfl, rfl, rfl, rfl, rfl, trivial⟩ ?_
                      refine WO_end ?_
                      cases hx89
                      refine WK.sub ?_ (WK.cls (fun _ h => h) hk90)
                      exact ⟨rfl, rfl, rfl, rfl, rfl, rfl, rfl, rfl, rfl, rfl, rfl, trivial⟩
                    · have hx89 := ifF hb95 hx89
                      refine WO_pure tbok 3 [(2, .slice a_p2 p2.length c_p2), (3, .pointer (some ⟨b1, 0, none⟩)), (4, .pointer (some ⟨b2, 0, none⟩)), (6, .bool false), (7, .pointer (some ⟨b13, 0, none⟩)), (8, .int .i64 y_7), (9, .int .i64 s_29), (10, .int .i64 s_30), (11, .int .i64 v_32), (45, .slice a_p2 p2.length c_p2), (46, .int .i64 (p2.length : Int)), (47, .int .i64 s_30), (58, .bool false), (61, .bool (decide (0 < s_30)))] rfl ⟨rfl, rfl, rfl, rfl, rfl, rfl, rfl, rfl, rfl, rfl, rfl, rfl, rfl, rfl, trivial⟩ ?_
                      refine WO_split (d := 61) (b := decide (0 < s_30)) rfl (fun hb96 => ?_) (fun hb96 => ?_)
                      · have hx89 := ifT hb96 hx89
                        refine WO_pure tbok 4 [(2, .slice a_p2 p2.length c_p2), (3, .pointer (some ⟨b1, 0, none⟩)), (4, .pointer (some ⟨b2, 0, none⟩)), (6, .bool false), (7, .pointer (some ⟨b13, 0, none⟩)), (8, .int .i64 y_7), (9, .int .i64 s_29), (45, .slice a_p2 p2.length c_p2), (46, .int .i64 (p2.length : Int)), (47, .int .i64 s_30), (58, .bool false), (61, .bool true), (62, .int .i64 v_32), (63, .slice a_p2 p2.length c_p2), (65, .int .i64 (w64 (s_30 - 1)))] rfl ⟨rfl, rfl, rfl, rfl, rfl, rfl, rfl, rfl, rfl, rfl, rfl, rfl, rfl, rfl, rfl, trivial⟩ ?_
                        obtain ⟨v_35, hy97, hx89⟩ := bind_some hx89
                        obtain ⟨hc98, hy97⟩ := ix_some hy97
                        refine WO_index tbok rfl rfl rfl rfl rfl rfl rfl rfl (SlR.addr h_p2) hc98 ?_
                        refine WO_loadE tbok rfl rfl rfl rfl (fun _ h => St.sat h) h_p2 hy97 rfl ?_
                        refine WO_pure tbok 3 [(2, .slice a_p2 p2.length c_p2), (3, .pointer (some ⟨b1, 0, none⟩)), (4, .pointer (some ⟨b2, 0, none⟩)), (6, .bool false), (7, .pointer (some ⟨b13, 0, none⟩)), (8, .int .i64 y_7), (9, .int .i64 s_29), (45, .slice a_p2 p2.length c_p2), (46, .int .i64 (p2.length : Int)), (47, .int .i64 s_30), (70, .bool (decide (v_32 ≤ v_35)))] rfl ⟨rfl, rfl, rfl, rfl, rfl, rfl, rfl, rfl, rfl, rfl, rfl, trivial⟩ ?_
                        refine WO_end ?_
                        cases hx89
                        refine WK.sub ?_ (WK.cls (fun _ h => h) hk90)
                        exact ⟨rfl, rfl, rfl, rfl, rfl, rfl, rfl, rfl, rfl, rfl, rfl, trivial⟩
                      · have hx89 := ifF hb96 hx89
                        refine WO_pure tbok 9 [(2, .slice a_p2 p2.length c_p2), (3, .pointer (some ⟨b1, 0, none⟩)), (4, .pointer (some ⟨b2, 0, none⟩)), (6, .bool false), (7, .pointer (some ⟨b13, 0, none⟩)), (8, .int .i64 y_7), (9, .int .i64 s_29), (45, .slice a_p2 p2.length c_p2), (46, .int .i64 (p2.length : Int)), (47, .int .i64 s_30), (70, .bool false)] rfl ⟨rfl, rfl, rfl, rfl, rfl, rfl, rfl, rfl, rfl, rfl, rfl, trivial⟩ ?_
                        refine WO_end ?_
                        cases hx89
                        refine WK.sub ?_ (WK.cls (fun _ h => h) hk90)
                        exact ⟨rfl, rfl, rfl, rfl, rfl, rfl, rfl, rfl, rfl, rfl, rfl, trivial⟩
              · have hm79 := ifF hb86 hm79
                refine WK_exit rfl ?_
                cases hm79
                refine WK.sub ?_ (WK.cls (fun _ h => h) (hk78 (s_29, ()) (hd83 _ rfl)))
                exact ⟨rfl, rfl, rfl, rfl, rfl, rfl, rfl, trivial⟩
          · have hx15 := ifF hb75 hx15
            refine WK_skip ?_
            cases hx15
            refine WK.sub ?_ (WK.cls (fun _ h => h) hk16)
            exact ⟨rfl, rfl, rfl, rfl, rfl, rfl, rfl, trivial⟩
    · refine WK_region ?_
      refine WO_loadB tbok 0 rfl rfl rfl rfl (fun _ h => h) rfl rfl ?_
      obtain ⟨y_36, hc99, hx5⟩ := bind_some hx5
      refine WO_call0 (.bool y_36) rfl rfl trivial rfl rfl rfl rfl St_closed ⟨6, #[], #[], rfl, callable_6, fun w hw => ⟨_, hw.sat, fiduciallaw45_small_walk h_p0_3 hc99⟩⟩ ?_
      refine WO_pure tbok 2 [(2, .slice a_p2 p2.length c_p2), (3, .pointer (some ⟨b1, 0, none⟩)), (4, .pointer (some ⟨b2, 0, none⟩)), (6, .bool false), (22, .bool (!y_36))] rfl ⟨rfl, rfl, rfl, rfl, rfl, trivial⟩ ?_
      refine WO_split (d := 22) (b := !y_36) rfl (fun hb100 => ?_) (fun hb100 => ?_)
      · have hx5 := ifT hb100 hx5
        refine WO_pure tbok 4 [(2, .slice a_p2 p2.length c_p2), (3, .pointer (some ⟨b1, 0, none⟩)), (4, .pointer (some ⟨b2, 0, none⟩)), (6, .bool false), (26, .bool true)] rfl ⟨rfl, rfl, rfl, rfl, rfl, trivial⟩ ?_
        refine WO_end ?_
        cases hx5
        refine WK.sub ?_ (WK.cls (fun _ h => h) hk6)
        exact ⟨rfl, rfl, rfl, rfl, rfl, trivial⟩
      · have hx5 := ifF hb100 hx5
        refine WO_pure tbok 4 [(2, .slice a_p2 p2.length c_p2), (3, .pointer (some ⟨b1, 0, none⟩)), (4, .pointer (some ⟨b2, 0, none⟩)), (6, .bool false), (26, .bool (decide (20 < (p2.length : Int))))] rfl ⟨rfl, rfl, rfl, rfl, rfl, trivial⟩ ?_
        refine WO_end ?_
        cases hx5
        refine WK.sub ?_ (WK.cls (fun _ h => h) hk6)
        exact ⟨rfl, rfl, rfl, rfl, rfl, trivial⟩
end Go.Proofs.YtgakaghdiodakaaDoor
