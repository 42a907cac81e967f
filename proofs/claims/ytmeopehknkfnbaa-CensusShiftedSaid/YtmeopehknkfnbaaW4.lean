import Derived.Test.YtmeopehknkfnbaaTab
import Derived.Test.YtmeopehknkfnbaaM
import Derived.Test.YtmeopehknkfnbaaIt
import Derived.Test.YtmeopehknkfnbaaW3
set_option linter.unusedVariables false
set_option maxRecDepth 100000
set_option maxHeartbeats 4000000
namespace Go.Proofs.Ytmeopehknkfnbaa
open Go.E Go.RowKit
attribute [local irreducible] Go.E.WO Go.E.WK
theorem fiduciallaw44_CensusEqual_walk {m : Mu} {p0_0 : Int} {p0_1 : Int} {p0_2 : Int} {p0_3 : List Int} {p1 : Int} {p2 : Int} {a_p0_3 : Option Addr} {q_p0_3 c_p0_3 : Nat} (h_p0_3 : SlR (FE (I1 .i64)) 1 m (.slice a_p0_3 q_p0_3 c_p0_3) p0_3) {r : Bool} (hm : fiduciallaw44_CensusEqual p0_0 p0_1 p0_2 p0_3 p1 p2 = some r) :
    Go.E.Spec Try.prog 7 [.agg #[.int .i64 p0_0, .int .i64 p0_1, .int .i64 p0_2, .slice a_p0_3 q_p0_3 c_p0_3], .int .u8 p1, .int .u8 p2] m (fun v _ _ => v = .bool r) := by
  refine Spec_enter Try.func7 rfl rfl rfl (fun w0 => ?_)
  refine WK.sub (e' := [(0, .agg #[.int .i64 p0_0, .int .i64 p0_1, .int .i64 p0_2, .slice a_p0_3 q_p0_3 c_p0_3]), (1, .int .u8 p1), (2, .int .u8 p2)]) ⟨rfl, rfl, rfl, trivial⟩ ?_
  obtain rfl := SlR.qlen h_p0_3
  refine WK.sub (e' := [(0, .agg #[.int .i64 p0_0, .int .i64 p0_1, .int .i64 p0_2, .slice a_p0_3 p0_3.length c_p0_3]), (1, .int .u8 p1), (2, .int .u8 p2)]) ⟨rfl, rfl, rfl, trivial⟩ ?_
  unfold fiduciallaw44_CensusEqual at hm
  refine WK_seq ?_
  refine WK_region ?_
  refine WO_box [.int .i64 p0_0, .int .i64 p0_1, .int .i64 p0_2, .slice a_p0_3 p0_3.length c_p0_3] rfl rfl trivial rfl rfl rfl (fun b2 => ?_)
  refine WO.cls (C' := St w0 m m [[⟨b2, 24, [.int .i64 p0_0, .int .i64 p0_1, .int .i64 p0_2, .slice a_p0_3 p0_3.length c_p0_3]⟩]]) (fun _ h => h) ?_
  refine WO_pure tbok 1 [(1, .int .u8 p1), (2, .int .u8 p2), (3, .pointer (some ⟨b2, 0, none⟩)), (6, .bool false)] rfl ⟨rfl, rfl, rfl, rfl, trivial⟩ ?_
  refine WO_end ?_
  refine WK_seq ?_
  refine WK_seq ?_
  refine WK_region ?_
  obtain ⟨y_1, hc3, hm⟩ := bind_some hm
  refine WO_call0 (.bool y_1) rfl rfl trivial rfl rfl rfl rfl St_closed ⟨11, #[], #[], rfl, callable_11, fun w hw => ⟨_, hw.sat, fiduciallaw44_known_walk hc3⟩⟩ ?_
  refine WO_pure tbok 1 [(1, .int .u8 p1), (2, .int .u8 p2), (3, .pointer (some ⟨b2, 0, none⟩)), (6, .bool false), (18, .bool (!y_1))] rfl ⟨rfl, rfl, rfl, rfl, rfl, trivial⟩ ?_
  refine WO_end ?_
  refine WK_cond (b := !y_1) rfl (fun hb4 => ?_) (fun hb4 => ?_)
  · have hm := ifT hb4 hm
    refine WK_seq ?_
    refine WK_region ?_
    refine WO_pure tbok 1 [(1, .int .u8 p1), (2, .int .u8 p2), (3, .pointer (some ⟨b2, 0, none⟩)), (6, .bool false)] rfl ⟨rfl, rfl, rfl, rfl, trivial⟩ ?_
    refine WO_end ?_
    cases hm
    exact WK_ret (ret_out (L := []) (RLc_tmp rfl RLc_nil) (List.nil_sublist _) rfl)
  · have hm := ifF hb4 hm
    refine WK_skip ?_
    refine WK_seq ?_
    refine WK_seq ?_
    obtain ⟨s_2, hx5, hm⟩ := bind_some hm
    refine WK_meet [(1, .int .u8 p1), (2, .int .u8 p2), (3, .pointer (some ⟨b2, 0, none⟩)), (6, .bool false), (27, .bool s_2)] (St w0 m m [[⟨b2, 24, [.int .i64 p0_0, .int .i64 p0_1, .int .i64 p0_2, .slice a_p0_3 p0_3.length c_p0_3]⟩]]) ?_ (fun hk6 => ?_)
    · refine WK_cond (b := s_2) rfl (fun hb7 => ?_) (fun hb7 => ?_)
      · have hm := ifT hb7 hm
        refine WK_seq ?_
        refine WK_region ?_
        refine WO_pure tbok 1 [(1, .int .u8 p1), (2, .int .u8 p2), (3, .pointer (some ⟨b2, 0, none⟩)), (6, .bool true)] rfl ⟨rfl, rfl, rfl, rfl, trivial⟩ ?_
        refine WO_end ?_
        cases hm
        exact WK_ret (ret_out (L := []) (RLc_tmp rfl RLc_nil) (List.nil_sublist _) rfl)
      · have hm := ifF hb7 hm
        refine WK_skip ?_
        refine WK_seq ?_
        refine WK_region ?_
        refine WO_pure tbok 5 [(1, .int .u8 p1), (3, .pointer (some ⟨b2, 0, none⟩)), (6, .bool false), (7, .int .i64 (w64 (1 + (Int.tmod (w64 (p2)) 5))))] rfl ⟨rfl, rfl, rfl, rfl, trivial⟩ ?_
        refine WO_end ?_
        refine WK_seq ?_
        refine WK_region ?_
        refine WO_loadB tbok 0 rfl rfl rfl rfl (fun _ h => h) rfl rfl ?_
        refine WO_loadB tbok 0 rfl rfl rfl rfl (fun _ h => h) rfl rfl ?_
        refine WO_pure tbok 5 [(3, .pointer (some ⟨b2, 0, none⟩)), (6, .bool false), (7, .int .i64 (w64 (1 + (Int.tmod (w64 (p2)) 5)))), (33, .agg #[.int .i64 p0_0, .int .i64 p0_1, .int .i64 p0_2, .slice a_p0_3 p0_3.length c_p0_3]), (34, .agg #[.int .i64 p0_0, .int .i64 p0_1, .int .i64 p0_2, .slice a_p0_3 p0_3.length c_p0_3]), (38, .int .i64 (w64 (1 + (Int.tmod (w64 (p1)) 2)))), (39, .int .i64 (w64 (1 + (Int.tmod (w64 (p2)) 5))))] rfl ⟨rfl, rfl, rfl, rfl, rfl, rfl, rfl, trivial⟩ ?_
        obtain ⟨⟨y_3, y_4, y_5, y_6, y_7⟩, hc8, hm⟩ := bind_some hm
        refine WO_call1 (census_Census_Q (y_3, y_4, y_5, y_6, y_7)) rfl rfl trivial rfl rfl rfl rfl ⟨22, #[], #[], rfl, callable_22, fun w hw => ⟨_, hw.sat, census_Census_walk h_p0_3 h_p0_3 hc8⟩⟩ (fun v13 L12 hq => ?_)
        obtain ⟨a9, qa9, c10, rfl, hL12⟩ := hq
        obtain rfl := OwnE.qlen hL12
        refine WO.cls (C' := St w0 m m [[⟨b2, 24, [.int .i64 p0_0, .int .i64 p0_1, .int .i64 p0_2, .slice a_p0_3 p0_3.length c_p0_3]⟩], L12]) (fun _ h => h) ?_
        refine WO_pure tbok 3 [(3, .pointer (some ⟨b2, 0, none⟩)), (6, .bool false), (7, .int .i64 (w64 (1 + (Int.tmod (w64 (p2)) 5)))), (41, .agg #[.int .i64 y_3, .int .i64 y_4, .int .i64 y_5, .slice a9 ((y_6).length) c10]), (42, .int .i64 y_7)] rfl ⟨rfl, rfl, rfl, rfl, rfl, trivial⟩ ?_
        refine WO_alloc tbok [.int .i64 0, .int .i64 0, .int .i64 0, .slice none 0 0] rfl rfl trivial rfl rfl rfl rfl (fun b14 => ?_)
        refine WO.cls (C' := St w0 m m [[⟨b2, 24, [.int .i64 p0_0, .int .i64 p0_1, .int .i64 p0_2, .slice a_p0_3 p0_3.length c_p0_3]⟩], L12, [⟨b14, 39, [.int .i64 0, .int .i64 0, .int .i64 0, .slice none 0 0]⟩]]) (fun _ h => h) ?_
        refine WO_storeB tbok 2 [.int .i64 y_3, .int .i64 y_4, .int .i64 y_5, .slice a9 ((y_6).length) c10] rfl rfl rfl rfl rfl rfl rfl ?_
        refine WO.cls (C' := St w0 m m [[⟨b2, 24, [.int .i64 p0_0, .int .i64 p0_1, .int .i64 p0_2, .slice a_p0_3 p0_3.length c_p0_3]⟩], L12, [⟨b14, 39, [.int .i64 y_3, .int .i64 y_4, .int .i64 y_5, .slice a9 ((y_6).length) c10]⟩]]) (fun _ h => h) ?_
        refine WO_pure tbok 1 [(3, .pointer (some ⟨b2, 0, none⟩)), (6, .bool false), (7, .int .i64 (w64 (1 + (Int.tmod (w64 (p2)) 5)))), (8, .pointer (some ⟨b14, 0, none⟩)), (9, .int .i64 y_7)] rfl ⟨rfl, rfl, rfl, rfl, rfl, trivial⟩ ?_
        refine WO_end ?_
        refine WK_seq ?_
        refine WK_region ?_
        refine WO_loadB tbok 0 rfl rfl rfl rfl (fun _ h => h) rfl rfl ?_
        refine WO_loadB tbok 0 rfl rfl rfl rfl (fun _ h => h) rfl rfl ?_
        refine WO_pure tbok 1 [(3, .pointer (some ⟨b2, 0, none⟩)), (6, .bool false), (7, .int .i64 (w64 (1 + (Int.tmod (w64 (p2)) 5)))), (8, .pointer (some ⟨b14, 0, none⟩)), (9, .int .i64 y_7), (44, .agg #[.int .i64 p0_0, .int .i64 p0_1, .int .i64 p0_2, .slice a_p0_3 p0_3.length c_p0_3]), (45, .agg #[.int .i64 p0_0, .int .i64 p0_1, .int .i64 p0_2, .slice a_p0_3 p0_3.length c_p0_3]), (46, .int .i64 (w64 (1 + (Int.tmod (w64 (p2)) 5))))] rfl ⟨rfl, rfl, rfl, rfl, rfl, rfl, rfl, rfl, trivial⟩ ?_
        obtain ⟨⟨y_8, y_9, y_10, y_11, y_12⟩, hc15, hm⟩ := bind_some hm
        refine WO_call1 (census_Plain_Q (y_8, y_9, y_10, y_11, y_12)) rfl rfl trivial rfl rfl rfl rfl ⟨18, #[], #[], rfl, callable_18, fun w hw => ⟨_, hw.sat, census_Plain_walk h_p0_3 h_p0_3 hc15⟩⟩ (fun v20 L19 hq => ?_)
        obtain ⟨a16, qa16, c17, rfl, hL19⟩ := hq
        obtain rfl := OwnE.qlen hL19
        refine WO.cls (C' := St w0 m m [[⟨b2, 24, [.int .i64 p0_0, .int .i64 p0_1, .int .i64 p0_2, .slice a_p0_3 p0_3.length c_p0_3]⟩], L12, [⟨b14, 39, [.int .i64 y_3, .int .i64 y_4, .int .i64 y_5, .slice a9 ((y_6).length) c10]⟩], L19]) (fun _ h => h) ?_
        refine WO_pure tbok 3 [(3, .pointer (some ⟨b2, 0, none⟩)), (6, .bool false), (7, .int .i64 (w64 (1 + (Int.tmod (w64 (p2)) 5)))), (8, .pointer (some ⟨b14, 0, none⟩)), (9, .int .i64 y_7), (48, .agg #[.int .i64 y_8, .int .i64 y_9, .int .i64 y_10, .slice a16 ((y_11).length) c17]), (49, .int .i64 y_12)] rfl ⟨rfl, rfl, rfl, rfl, rfl, rfl, rfl, trivial⟩ ?_
        refine WO_alloc tbok [.int .i64 0, .int .i64 0, .int .i64 0, .slice none 0 0] rfl rfl trivial rfl rfl rfl rfl (fun b21 => ?_)
        refine WO.cls (C' := St w0 m m [[⟨b2, 24, [.int .i64 p0_0, .int .i64 p0_1, .int .i64 p0_2, .slice a_p0_3 p0_3.length c_p0_3]⟩], L12, [⟨b14, 39, [.int .i64 y_3, .int .i64 y_4, .int .i64 y_5, .slice a9 ((y_6).length) c10]⟩], L19, [⟨b21, 39, [.int .i64 0, .int .i64 0, .int .i64 0, .slice none 0 0]⟩]]) (fun _ h => h) ?_
        refine WO_storeB tbok 4 [.int .i64 y_8, .int .i64 y_9, .int .i64 y_10, .slice a16 ((y_11).length) c17] rfl rfl rfl rfl rfl rfl rfl ?_
        refine WO.cls (C' := St w0 m m [[⟨b2, 24, [.int .i64 p0_0, .int .i64 p0_1, .int .i64 p0_2, .slice a_p0_3 p0_3.length c_p0_3]⟩], L12, [⟨b14, 39, [.int .i64 y_3, .int .i64 y_4, .int .i64 y_5, .slice a9 ((y_6).length) c10]⟩], L19, [⟨b21, 39, [.int .i64 y_8, .int .i64 y_9, .int .i64 y_10, .slice a16 ((y_11).length) c17]⟩]]) (fun _ h => h) ?_
        refine WO_pure tbok 1 [(3, .pointer (some ⟨b2, 0, none⟩)), (6, .bool false), (7, .int .i64 (w64 (1 + (Int.tmod (w64 (p2)) 5)))), (8, .pointer (some ⟨b14, 0, none⟩)), (9, .int .i64 y_7), (10, .pointer (some ⟨b21, 0, none⟩)), (11, .int .i64 y_12)] rfl ⟨rfl, rfl, rfl, rfl, rfl, rfl, rfl, trivial⟩ ?_
        refine WO_end ?_
        refine WK_seq ?_
        refine WK_seq ?_
        obtain ⟨s_13, hx22, hm⟩ := bind_some hm
        refine WK_meet [(3, .pointer (some ⟨b2, 0, none⟩)), (6, .bool false), (7, .int .i64 (w64 (1 + (Int.tmod (w64 (p2)) 5)))), (8, .pointer (some ⟨b14, 0, none⟩)), (10, .pointer (some ⟨b21, 0, none⟩)), (55, .bool s_13)] (St w0 m m [[⟨b2, 24, [.int .i64 p0_0, .int .i64 p0_1, .int .i64 p0_2, .slice a_p0_3 p0_3.length c_p0_3]⟩], L12, [⟨b14, 39, [.int .i64 y_3, .int .i64 y_4, .int .i64 y_5, .slice a9 ((y_6).length) c10]⟩], L19, [⟨b21, 39, [.int .i64 y_8, .int .i64 y_9, .int .i64 y_10, .slice a16 ((y_11).length) c17]⟩]]) ?_ (fun hk23 => ?_)
        · refine WK_cond (b := s_13) rfl (fun hb24 => ?_) (fun hb24 => ?_)
          · have hm := ifT hb24 hm
            refine WK_seq ?_
            refine WK_region ?_
            refine WO_pure tbok 1 [(3, .pointer (some ⟨b2, 0, none⟩)), (6, .bool false), (7, .int .i64 (w64 (1 + (Int.tmod (w64 (p2)) 5)))), (8, .pointer (some ⟨b14, 0, none⟩)), (10, .pointer (some ⟨b21, 0, none⟩))] rfl ⟨rfl, rfl, rfl, rfl, rfl, trivial⟩ ?_
            refine WO_end ?_
            cases hm
            exact WK_ret (ret_out (L := []) (RLc_tmp rfl RLc_nil) (List.nil_sublist _) rfl)
          · have hm := ifF hb24 hm
            refine WK_skip ?_
            refine WK_seq ?_
            refine WK_seq ?_
            refine WK_region ?_
            refine WO_loadB tbok 2 rfl rfl rfl rfl (fun _ h => h) rfl rfl ?_
            refine WO_loadB tbok 4 rfl rfl rfl rfl (fun _ h => h) rfl rfl ?_
            refine WO_freeze 1 rfl (fun m26 hle27 hmm28 => ?_)
            refine WO.cls (C' := St w0 m m26 [[⟨b2, 24, [.int .i64 p0_0, .int .i64 p0_1, .int .i64 p0_2, .slice a_p0_3 p0_3.length c_p0_3]⟩], [], [⟨b14, 39, [.int .i64 y_3, .int .i64 y_4, .int .i64 y_5, .slice a9 ((y_6).length) c10]⟩], L19, [⟨b21, 39, [.int .i64 y_8, .int .i64 y_9, .int .i64 y_10, .slice a16 ((y_11).length) c17]⟩]]) (fun _ h => h) ?_
            refine WO_freeze 3 rfl (fun m29 hle30 hmm31 => ?_)
            refine WO.cls (C' := St w0 m m29 [[⟨b2, 24, [.int .i64 p0_0, .int .i64 p0_1, .int .i64 p0_2, .slice a_p0_3 p0_3.length c_p0_3]⟩], [], [⟨b14, 39, [.int .i64 y_3, .int .i64 y_4, .int .i64 y_5, .slice a9 ((y_6).length) c10]⟩], [], [⟨b21, 39, [.int .i64 y_8, .int .i64 y_9, .int .i64 y_10, .slice a16 ((y_11).length) c17]⟩]]) (fun _ h => h) ?_
            refine WO_bsliceX (E := V4) (El := El39) tbok (fun _ => rfl) (by decide) [.agg #[.int .i64 y_3, .int .i64 y_4, .int .i64 y_5, .slice a9 ((y_6).length) c10], .agg #[.int .i64 y_8, .int .i64 y_9, .int .i64 y_10, .slice a16 ((y_11).length) c17]] [(.int .i64 y_3, .int .i64 y_4, .int .i64 y_5, .slice a9 ((y_6).length) c10), (.int .i64 y_8, .int .i64 y_9, .int .i64 y_10, .slice a16 ((y_11).length) c17)] ([(y_3, y_4, y_5, y_6), (y_8, y_9, y_10, y_11)] : List (Int × Int × Int × List Int)) rfl rfl trivial rfl rfl rfl rfl rfl rfl rfl rfl rfl rfl rfl rfl ⟨⟨_, _, _, rfl, ((OwnE.rd (E := (I1 .i64)) (k := 1) (fun _ => rfl) hL12 hmm28).mono (mono_FE _) hle30)⟩, ⟨_, _, _, rfl, (OwnE.rd (E := (I1 .i64)) (k := 1) (fun _ => rfl) hL19 hmm31)⟩, trivial⟩ (fun b25 hb25 => ?_)
            refine WO.cls (C' := St w0 m m29 [[⟨b2, 24, [.int .i64 p0_0, .int .i64 p0_1, .int .i64 p0_2, .slice a_p0_3 p0_3.length c_p0_3]⟩], [], [⟨b14, 39, [.int .i64 y_3, .int .i64 y_4, .int .i64 y_5, .slice a9 ((y_6).length) c10]⟩], [], [⟨b21, 39, [.int .i64 y_8, .int .i64 y_9, .int .i64 y_10, .slice a16 ((y_11).length) c17]⟩], [⟨b25, 39, [.int .i64 y_3, .int .i64 y_4, .int .i64 y_5, .slice a9 ((y_6).length) c10, .int .i64 y_8, .int .i64 y_9, .int .i64 y_10, .slice a16 ((y_11).length) c17]⟩]]) (fun _ h => h) ?_
            refine WO_pure tbok 2 [(3, .pointer (some ⟨b2, 0, none⟩)), (6, .bool false), (7, .int .i64 (w64 (1 + (Int.tmod (w64 (p2)) 5)))), (58, .slice (some ⟨b25, 0, none⟩) 2 2), (59, .int .i64 2), (60, .int .i64 0)] rfl ⟨rfl, rfl, rfl, rfl, rfl, rfl, trivial⟩ ?_
            refine WO_end ?_
            obtain ⟨x33, hx34, hm⟩ := bind_some hm
            refine WK_join (β := Unit × Unit) (fun p => Sum.inr p.1 = x33) (fun p => [(6, .bool false)]) (fun p => St w0 m m29 [[⟨b2, 24, [.int .i64 p0_0, .int .i64 p0_1, .int .i64 p0_2, .slice a_p0_3 p0_3.length c_p0_3]⟩], [], [⟨b14, 39, [.int .i64 y_3, .int .i64 y_4, .int .i64 y_5, .slice a9 ((y_6).length) c10]⟩], [], [⟨b21, 39, [.int .i64 y_8, .int .i64 y_9, .int .i64 y_10, .slice a16 ((y_11).length) c17]⟩], [⟨b25, 39, [.int .i64 y_3, .int .i64 y_4, .int .i64 y_5, .slice a9 ((y_6).length) c10, .int .i64 y_8, .int .i64 y_9, .int .i64 y_10, .slice a16 ((y_11).length) c17]⟩]]) ?_ (fun hk35 => ?_)
            · rintro ⟨⟨⟩, ⟨⟩⟩ hq41
              subst hq41
              refine WK.sub (e' := [(6, .bool false)]) ⟨rfl, trivial⟩ (WK.cls (C' := St w0 m m29 [[⟨b2, 24, [.int .i64 p0_0, .int .i64 p0_1, .int .i64 p0_2, .slice a_p0_3 p0_3.length c_p0_3]⟩], [], [⟨b14, 39, [.int .i64 y_3, .int .i64 y_4, .int .i64 y_5, .slice a9 ((y_6).length) c10]⟩], [], [⟨b21, 39, [.int .i64 y_8, .int .i64 y_9, .int .i64 y_10, .slice a16 ((y_11).length) c17]⟩], [⟨b25, 39, [.int .i64 y_3, .int .i64 y_4, .int .i64 y_5, .slice a9 ((y_6).length) c10, .int .i64 y_8, .int .i64 y_9, .int .i64 y_10, .slice a16 ((y_11).length) c17]⟩]]) (fun _ h => h) ?_)
              refine WK_seq ?_
              refine WK_region ?_
              refine WO_pure tbok 1 [(6, .bool true)] rfl ⟨rfl, trivial⟩ ?_
              refine WO_end ?_
              cases hm
              exact WK_ret (ret_out (L := []) (RLc_tmp rfl RLc_nil) (List.nil_sublist _) rfl)
            · refine WK_block ?_
              refine WK_loop (S := Int) (G := Unit) (fun s => fiduciallaw44_CensusEqual_s1 p0_3 p2 y_3 y_4 y_5 y_6 y_8 y_9 y_10 y_11 s) (fun s g => [(3, .pointer (some ⟨b2, 0, none⟩)), (6, .bool false), (7, .int .i64 (w64 (1 + (Int.tmod (w64 (p2)) 5)))), (58, .slice (some ⟨b25, 0, none⟩) 2 2), (59, .int .i64 2), (60, .int .i64 s)]) (fun s g => St w0 m m29 [[⟨b2, 24, [.int .i64 p0_0, .int .i64 p0_1, .int .i64 p0_2, .slice a_p0_3 p0_3.length c_p0_3]⟩], [], [⟨b14, 39, [.int .i64 y_3, .int .i64 y_4, .int .i64 y_5, .slice a9 ((y_6).length) c10]⟩], [], [⟨b21, 39, [.int .i64 y_8, .int .i64 y_9, .int .i64 y_10, .slice a16 ((y_11).length) c17]⟩], [⟨b25, 39, [.int .i64 y_3, .int .i64 y_4, .int .i64 y_5, .slice a9 ((y_6).length) c10, .int .i64 y_8, .int .i64 y_9, .int .i64 y_10, .slice a16 ((y_11).length) c17]⟩]]) (fun s g => True) FUEL 0 () x33 hx34 trivial ⟨rfl, rfl, rfl, rfl, rfl, rfl, trivial⟩ (fun _ h => h) ?_
              rintro s_14 ⟨⟩ o37 fl38 hm36 - hn39 hd40
              have hm36 : fiduciallaw44_CensusEqual_s1 p0_3 p2 y_3 y_4 y_5 y_6 y_8 y_9 y_10 y_11 s_14 = some o37 := hm36
              unfold fiduciallaw44_CensusEqual_s1 at hm36
              refine WK.sub (e' := [(3, .pointer (some ⟨b2, 0, none⟩)), (6, .bool false), (7, .int .i64 (w64 (1 + (Int.tmod (w64 (p2)) 5)))), (58, .slice (some ⟨b25, 0, none⟩) 2 2), (59, .int .i64 2), (60, .int .i64 s_14)]) ⟨rfl, rfl, rfl, rfl, rfl, rfl, trivial⟩ (WK.cls (C' := St w0 m m29 [[⟨b2, 24, [.int .i64 p0_0, .int .i64 p0_1, .int .i64 p0_2, .slice a_p0_3 p0_3.length c_p0_3]⟩], [], [⟨b14, 39, [.int .i64 y_3, .int .i64 y_4, .int .i64 y_5, .slice a9 ((y_6).length) c10]⟩], [], [⟨b21, 39, [.int .i64 y_8, .int .i64 y_9, .int .i64 y_10, .slice a16 ((y_11).length) c17]⟩], [⟨b25, 39, [.int .i64 y_3, .int .i64 y_4, .int .i64 y_5, .slice a9 ((y_6).length) c10, .int .i64 y_8, .int .i64 y_9, .int .i64 y_10, .slice a16 ((y_11).length) c17]⟩]]) (fun _ h => h) ?_)
              refine WK_seq ?_
              refine WK_region ?_
              refine WO_pure tbok 1 [(3, .pointer (some ⟨b2, 0, none⟩)), (6, .bool false), (7, .int .i64 (w64 (1 + (Int.tmod (w64 (p2)) 5)))), (58, .slice (some ⟨b25, 0, none⟩) 2 2), (59, .int .i64 2), (60, .int .i64 s_14), (61, .bool (decide (s_14 < 2)))] rfl ⟨rfl, rfl, rfl, rfl, rfl, rfl, rfl, trivial⟩ ?_
              refine WO_end ?_
              refine WK_seq ?_
              refine WK_cond (b := decide (s_14 < 2)) rfl (fun hb42 => ?_) (fun hb42 => ?_)
              · have hm36 := ifT hb42 hm36
                refine WK_skip ?_
                refine WK_seq ?_
                refine WK_block ?_
                refine WK_seq ?_
                refine WK_region ?_
                obtain ⟨v_15, hy43, hm36⟩ := bind_some hm36
                obtain ⟨hc44, hy43⟩ := ix_some hy43
                refine WO_index tbok rfl rfl rfl rfl rfl rfl rfl rfl (OwnX.addr hb25) (by simpa using hc44) ?_
                refine WO_loadOX (E := V4) tbok (fun _ => rfl) 5 rfl rfl rfl rfl (fun _ h => h) hb25 rfl hy43 (fun cs hcs => ?_)
                obtain ⟨a45, qa45, c46, rfl, h47⟩ := hcs
                obtain rfl := SlR.qlen h47
                refine ⟨_, rfl, ?_⟩
                refine WO_alloc tbok [.int .i64 0, .int .i64 0, .int .i64 0, .slice none 0 0] rfl rfl trivial rfl rfl rfl rfl (fun b49 => ?_)
                refine WO.cls (C' := St w0 m m29 [[⟨b2, 24, [.int .i64 p0_0, .int .i64 p0_1, .int .i64 p0_2, .slice a_p0_3 p0_3.length c_p0_3]⟩], [], [⟨b14, 39, [.int .i64 y_3, .int .i64 y_4, .int .i64 y_5, .slice a9 ((y_6).length) c10]⟩], [], [⟨b21, 39, [.int .i64 y_8, .int .i64 y_9, .int .i64 y_10, .slice a16 ((y_11).length) c17]⟩], [⟨b25, 39, [.int .i64 y_3, .int .i64 y_4, .int .i64 y_5, .slice a9 ((y_6).length) c10, .int .i64 y_8, .int .i64 y_9, .int .i64 y_10, .slice a16 ((y_11).length) c17]⟩], [⟨b49, 39, [.int .i64 0, .int .i64 0, .int .i64 0, .slice none 0 0]⟩]]) (fun _ h => h) ?_
                refine WO_storeB tbok 6 [.int .i64 v_15.1, .int .i64 v_15.2.1, .int .i64 v_15.2.2.1, .slice a45 ((v_15.2.2.2).length) c46] rfl rfl rfl rfl rfl rfl rfl ?_
                refine WO.cls (C' := St w0 m m29 [[⟨b2, 24, [.int .i64 p0_0, .int .i64 p0_1, .int .i64 p0_2, .slice a_p0_3 p0_3.length c_p0_3]⟩], [], [⟨b14, 39, [.int .i64 y_3, .int .i64 y_4, .int .i64 y_5, .slice a9 ((y_6).length) c10]⟩], [], [⟨b21, 39, [.int .i64 y_8, .int .i64 y_9, .int .i64 y_10, .slice a16 ((y_11).length) c17]⟩], [⟨b25, 39, [.int .i64 y_3, .int .i64 y_4, .int .i64 y_5, .slice a9 ((y_6).length) c10, .int .i64 y_8, .int .i64 y_9, .int .i64 y_10, .slice a16 ((y_11).length) c17]⟩], [⟨b49, 39, [.int .i64 v_15.1, .int .i64 v_15.2.1, .int .i64 v_15.2.2.1, .slice a45 ((v_15.2.2.2).length) c46]⟩]]) (fun _ h => h) ?_
                refine WO_end ?_
                refine WK_seq ?_
                refine WK_region ?_
                refine WO_loadB tbok 6 rfl rfl rfl rfl (fun _ h => h) rfl rfl ?_
                obtain ⟨⟨y_16, y_17⟩, hc50, hm36⟩ := bind_some hm36
                refine WO_call1 (census_Best_Q (y_16, y_17)) rfl rfl trivial rfl rfl rfl rfl ⟨27, #[], #[], rfl, callable_27, fun w hw => ⟨_, hw.sat, census_Best_walk h47 hc50⟩⟩ (fun v55 L54 hq => ?_)
                obtain ⟨a51, qa51, c52, rfl, hL54⟩ := hq
                obtain rfl := OwnE.qlen hL54
                refine WO.cls (C' := St w0 m m29 [[⟨b2, 24, [.int .i64 p0_0, .int .i64 p0_1, .int .i64 p0_2, .slice a_p0_3 p0_3.length c_p0_3]⟩], [], [⟨b14, 39, [.int .i64 y_3, .int .i64 y_4, .int .i64 y_5, .slice a9 ((y_6).length) c10]⟩], [], [⟨b21, 39, [.int .i64 y_8, .int .i64 y_9, .int .i64 y_10, .slice a16 ((y_11).length) c17]⟩], [⟨b25, 39, [.int .i64 y_3, .int .i64 y_4, .int .i64 y_5, .slice a9 ((y_6).length) c10, .int .i64 y_8, .int .i64 y_9, .int .i64 y_10, .slice a16 ((y_11).length) c17]⟩], [⟨b49, 39, [.int .i64 v_15.1, .int .i64 v_15.2.1, .int .i64 v_15.2.2.1, .slice a45 ((v_15.2.2.2).length) c46]⟩], L54]) (fun _ h => h) ?_
                refine WO_pure tbok 5 [(3, .pointer (some ⟨b2, 0, none⟩)), (6, .bool false), (7, .int .i64 (w64 (1 + (Int.tmod (w64 (p2)) 5)))), (13, .pointer (some ⟨b49, 0, none⟩)), (14, .slice a51 ((y_16).length) c52), (15, .int .i64 y_17), (58, .slice (some ⟨b25, 0, none⟩) 2 2), (59, .int .i64 2), (60, .int .i64 s_14)] rfl ⟨rfl, rfl, rfl, rfl, rfl, rfl, rfl, rfl, rfl, trivial⟩ ?_
                refine WO_end ?_
                refine WK_seq ?_
                refine WK_seq ?_
                obtain ⟨s_18, hx56, hm36⟩ := bind_some hm36
                refine WK_meet [(3, .pointer (some ⟨b2, 0, none⟩)), (6, .bool false), (7, .int .i64 (w64 (1 + (Int.tmod (w64 (p2)) 5)))), (13, .pointer (some ⟨b49, 0, none⟩)), (14, .slice a51 ((y_16).length) c52), (58, .slice (some ⟨b25, 0, none⟩) 2 2), (59, .int .i64 2), (60, .int .i64 s_14), (89, .bool s_18)] (St w0 m m29 [[⟨b2, 24, [.int .i64 p0_0, .int .i64 p0_1, .int .i64 p0_2, .slice a_p0_3 p0_3.length c_p0_3]⟩], [], [⟨b14, 39, [.int .i64 y_3, .int .i64 y_4, .int .i64 y_5, .slice a9 ((y_6).length) c10]⟩], [], [⟨b21, 39, [.int .i64 y_8, .int .i64 y_9, .int .i64 y_10, .slice a16 ((y_11).length) c17]⟩], [⟨b25, 39, [.int .i64 y_3, .int .i64 y_4, .int .i64 y_5, .slice a9 ((y_6).length) c10, .int .i64 y_8, .int .i64 y_9, .int .i64 y_10, .slice a16 ((y_11).length) c17]⟩], [⟨b49, 39, [.int .i64 v_15.1, .int .i64 v_15.2.1, .int .i64 v_15.2.2.1, .slice a45 ((v_15.2.2.2).length) c46]⟩], L54]) ?_ (fun hk57 => ?_)
                · refine WK_cond (b := s_18) rfl (fun hb58 => ?_) (fun hb58 => ?_)
                  · have hm36 := ifT hb58 hm36
                    refine WK_seq ?_
                    refine WK_region ?_
                    refine WO_pure tbok 1 [(3, .pointer (some ⟨b2, 0, none⟩)), (6, .bool false), (7, .int .i64 (w64 (1 + (Int.tmod (w64 (p2)) 5)))), (13, .pointer (some ⟨b49, 0, none⟩)), (14, .slice a51 ((y_16).length) c52), (58, .slice (some ⟨b25, 0, none⟩) 2 2), (59, .int .i64 2), (60, .int .i64 s_14)] rfl ⟨rfl, rfl, rfl, rfl, rfl, rfl, rfl, rfl, trivial⟩ ?_
                    refine WO_end ?_
                    cases hm36
                    have hq := hd40 _ rfl
                    subst hq
                    have hm : some _ = some _ := hm
                    cases hm
                    exact WK_ret (ret_out (L := []) (RLc_tmp rfl RLc_nil) (List.nil_sublist _) rfl)
                  · have hm36 := ifF hb58 hm36
                    refine WK_skip ?_
                    refine WK_seq ?_
                    refine WK_region ?_
                    refine WO_pure tbok 3 [(3, .pointer (some ⟨b2, 0, none⟩)), (6, .bool false), (7, .int .i64 (w64 (1 + (Int.tmod (w64 (p2)) 5)))), (13, .pointer (some ⟨b49, 0, none⟩)), (14, .slice a51 ((y_16).length) c52), (58, .slice (some ⟨b25, 0, none⟩) 2 2), (59, .int .i64 2), (60, .int .i64 s_14), (91, .int .i64 ((y_16).length : Int)), (92, .int .i64 0)] rfl ⟨rfl, rfl, rfl, rfl, rfl, rfl, rfl, rfl, rfl, rfl, trivial⟩ ?_
                    refine WO_end ?_
                    obtain ⟨x59, hx60, hm36⟩ := bind_some hm36
                    refine WK_join (β := Unit × Unit) (fun p => Sum.inr p.1 = x59) (fun p => [(3, .pointer (some ⟨b2, 0, none⟩)), (6, .bool false), (7, .int .i64 (w64 (1 + (Int.tmod (w64 (p2)) 5)))), (58, .slice (some ⟨b25, 0, none⟩) 2 2), (59, .int .i64 2), (60, .int .i64 s_14)]) (fun p => St w0 m m29 [[⟨b2, 24, [.int .i64 p0_0, .int .i64 p0_1, .int .i64 p0_2, .slice a_p0_3 p0_3.length c_p0_3]⟩], [], [⟨b14, 39, [.int .i64 y_3, .int .i64 y_4, .int .i64 y_5, .slice a9 ((y_6).length) c10]⟩], [], [⟨b21, 39, [.int .i64 y_8, .int .i64 y_9, .int .i64 y_10, .slice a16 ((y_11).length) c17]⟩], [⟨b25, 39, [.int .i64 y_3, .int .i64 y_4, .int .i64 y_5, .slice a9 ((y_6).length) c10, .int .i64 y_8, .int .i64 y_9, .int .i64 y_10, .slice a16 ((y_11).length) c17]⟩], [⟨b49, 39, [.int .i64 v_15.1, .int .i64 v_15.2.1, .int .i64 v_15.2.2.1, .slice a45 ((v_15.2.2.2).length) c46]⟩], L54]) ?_ (fun hk61 => ?_)
                    · rintro ⟨⟨⟩, ⟨⟩⟩ hq67
                      subst hq67
                      refine WK.sub (e' := [(3, .pointer (some ⟨b2, 0, none⟩)), (6, .bool false), (7, .int .i64 (w64 (1 + (Int.tmod (w64 (p2)) 5)))), (58, .slice (some ⟨b25, 0, none⟩) 2 2), (59, .int .i64 2), (60, .int .i64 s_14)]) ⟨rfl, rfl, rfl, rfl, rfl, rfl, trivial⟩ (WK.cls (C' := St w0 m m29 [[⟨b2, 24, [.int .i64 p0_0, .int .i64 p0_1, .int .i64 p0_2, .slice a_p0_3 p0_3.length c_p0_3]⟩], [], [⟨b14, 39, [.int .i64 y_3, .int .i64 y_4, .int .i64 y_5, .slice a9 ((y_6).length) c10]⟩], [], [⟨b21, 39, [.int .i64 y_8, .int .i64 y_9, .int .i64 y_10, .slice a16 ((y_11).length) c17]⟩], [⟨b25, 39, [.int .i64 y_3, .int .i64 y_4, .int .i64 y_5, .slice a9 ((y_6).length) c10, .int .i64 y_8, .int .i64 y_9, .int .i64 y_10, .slice a16 ((y_11).length) c17]⟩], [⟨b49, 39, [.int .i64 v_15.1, .int .i64 v_15.2.1, .int .i64 v_15.2.2.1, .slice a45 ((v_15.2.2.2).length) c46]⟩], L54]) (fun _ h => h) ?_)
                      refine WK_blk ?_
                      refine WK_region ?_
                      refine WO_pure tbok 2 [(3, .pointer (some ⟨b2, 0, none⟩)), (6, .bool false), (7, .int .i64 (w64 (1 + (Int.tmod (w64 (p2)) 5)))), (58, .slice (some ⟨b25, 0, none⟩) 2 2), (59, .int .i64 2), (60, .int .i64 (w64 (s_14 + 1)))] rfl ⟨rfl, rfl, rfl, rfl, rfl, rfl, trivial⟩ ?_
                      refine WO_end ?_
                      cases hm36
                      refine WK.sub ?_ (WK.cls (fun _ h => St.take 6 h) (hn39 _ () rfl trivial))
                      exact ⟨rfl, rfl, rfl, rfl, rfl, rfl, trivial⟩
                    · refine WK_block ?_
                      refine WK_loop (S := Int) (G := Unit) (fun s => fiduciallaw44_CensusEqual_s2 p2 v_15 y_16 s) (fun s g => [(3, .pointer (some ⟨b2, 0, none⟩)), (6, .bool false), (7, .int .i64 (w64 (1 + (Int.tmod (w64 (p2)) 5)))), (13, .pointer (some ⟨b49, 0, none⟩)), (14, .slice a51 ((y_16).length) c52), (58, .slice (some ⟨b25, 0, none⟩) 2 2), (59, .int .i64 2), (60, .int .i64 s_14), (91, .int .i64 ((y_16).length : Int)), (92, .int .i64 s)]) (fun s g => St w0 m m29 [[⟨b2, 24, [.int .i64 p0_0, .int .i64 p0_1, .int .i64 p0_2, .slice a_p0_3 p0_3.length c_p0_3]⟩], [], [⟨b14, 39, [.int .i64 y_3, .int .i64 y_4, .int .i64 y_5, .slice a9 ((y_6).length) c10]⟩], [], [⟨b21, 39, [.int .i64 y_8, .int .i64 y_9, .int .i64 y_10, .slice a16 ((y_11).length) c17]⟩], [⟨b25, 39, [.int .i64 y_3, .int .i64 y_4, .int .i64 y_5, .slice a9 ((y_6).length) c10, .int .i64 y_8, .int .i64 y_9, .int .i64 y_10, .slice a16 ((y_11).length) c17]⟩], [⟨b49, 39, [.int .i64 v_15.1, .int .i64 v_15.2.1, .int .i64 v_15.2.2.1, .slice a45 ((v_15.2.2.2).length) c46]⟩], L54]) (fun s g => True) FUEL 0 () x59 hx60 trivial ⟨rfl, rfl, rfl, rfl, rfl, rfl, rfl, rfl, rfl, rfl, trivial⟩ (fun _ h => h) ?_
                      rintro s_19 ⟨⟩ o63 fl64 hm62 - hn65 hd66
                      have hm62 : fiduciallaw44_CensusEqual_s2 p2 v_15 y_16 s_19 = some o63 := hm62
                      unfold fiduciallaw44_CensusEqual_s2 at hm62
                      refine WK.sub (e' := [(3, .pointer (some ⟨b2, 0, none⟩)), (6, .bool false), (7, .int .i64 (w64 (1 + (Int.tmod (w64 (p2)) 5)))), (13, .pointer (some ⟨b49, 0, none⟩)), (14, .slice a51 ((y_16).length) c52), (58, .slice (some ⟨b25, 0, none⟩) 2 2), (59, .int .i64 2), (60, .int .i64 s_14), (91, .int .i64 ((y_16).length : Int)), (92, .int .i64 s_19)]) ⟨rfl, rfl, rfl, rfl, rfl, rfl, rfl, rfl, rfl, rfl, trivial⟩ (WK.cls (C' := St w0 m m29 [[⟨b2, 24, [.int .i64 p0_0, .int .i64 p0_1, .int .i64 p0_2, .slice a_p0_3 p0_3.length c_p0_3]⟩], [], [⟨b14, 39, [.int .i64 y_3, .int .i64 y_4, .int .i64 y_5, .slice a9 ((y_6).length) c10]⟩], [], [⟨b21, 39, [.int .i64 y_8, .int .i64 y_9, .int .i64 y_10, .slice a16 ((y_11).length) c17]⟩], [⟨b25, 39, [.int .i64 y_3, .int .i64 y_4, .int .i64 y_5, .slice a9 ((y_6).length) c10, .int .i64 y_8, .int .i64 y_9, .int .i64 y_10, .slice a16 ((y_11).length) c17]⟩], [⟨b49, 39, [.int .i64 v_15.1, .int .i64 v_15.2.1, .int .i64 v_15.2.2.1, .slice a45 ((v_15.2.2.2).length) c46]⟩], L54]) (fun _ h => h) ?_)
                      refine WK_seq ?_
                      refine WK_region ?_
                      refine WO_pure tbok 1 [(3, .pointer (some ⟨b2, 0, none⟩)), (6, .bool false), (7, .int .i64 (w64 (1 + (Int.tmod (w64 (p2)) 5)))), (13, .pointer (some ⟨b49, 0, none⟩)), (14, .slice a51 ((y_16).length) c52), (58, .slice (some ⟨b25, 0, none⟩) 2 2), (59, .int .i64 2), (60, .int .i64 s_14), (91, .int .i64 ((y_16).length : Int)), (92, .int .i64 s_19), (93, .bool (decide (s_19 < ((y_16).length : Int))))] rfl ⟨rfl, rfl, rfl, rfl, rfl, rfl, rfl, rfl, rfl, rfl, rfl, trivial⟩ ?_
                      refine WO_end ?_
                      refine WK_seq ?_
                      refine WK_cond (b := decide (s_19 < ((y_16).length : Int))) rfl (fun hb68 => ?_) (fun hb68 => ?_)
                      · have hm62 := ifT hb68 hm62
                        refine WK_skip ?_
                        refine WK_seq ?_
                        refine WK_block ?_
                        refine WK_seq ?_
                        refine WK_region ?_
                        refine WO_pure tbok 2 [(3, .pointer (some ⟨b2, 0, none⟩)), (6, .bool false), (7, .int .i64 (w64 (1 + (Int.tmod (w64 (p2)) 5)))), (13, .pointer (some ⟨b49, 0, none⟩)), (14, .slice a51 ((y_16).length) c52), (16, .int .i64 s_19), (58, .slice (some ⟨b25, 0, none⟩) 2 2), (59, .int .i64 2), (60, .int .i64 s_14), (91, .int .i64 ((y_16).length : Int)), (92, .int .i64 s_19)] rfl ⟨rfl, rfl, rfl, rfl, rfl, rfl, rfl, rfl, rfl, rfl, rfl, trivial⟩ ?_
                        refine WO_end ?_
                        refine WK_seq ?_
                        obtain ⟨s_20, hx69, hm62⟩ := bind_some hm62
                        refine WK_meet [(3, .pointer (some ⟨b2, 0, none⟩)), (6, .bool false), (7, .int .i64 (w64 (1 + (Int.tmod (w64 (p2)) 5)))), (13, .pointer (some ⟨b49, 0, none⟩)), (14, .slice a51 ((y_16).length) c52), (58, .slice (some ⟨b25, 0, none⟩) 2 2), (59, .int .i64 2), (60, .int .i64 s_14), (91, .int .i64 ((y_16).length : Int)), (92, .int .i64 s_19), (109, .bool s_20)] (St w0 m m29 [[⟨b2, 24, [.int .i64 p0_0, .int .i64 p0_1, .int .i64 p0_2, .slice a_p0_3 p0_3.length c_p0_3]⟩], [], [⟨b14, 39, [.int .i64 y_3, .int .i64 y_4, .int .i64 y_5, .slice a9 ((y_6).length) c10]⟩], [], [⟨b21, 39, [.int .i64 y_8, .int .i64 y_9, .int .i64 y_10, .slice a16 ((y_11).length) c17]⟩], [⟨b25, 39, [.int .i64 y_3, .int .i64 y_4, .int .i64 y_5, .slice a9 ((y_6).length) c10, .int .i64 y_8, .int .i64 y_9, .int .i64 y_10, .slice a16 ((y_11).length) c17]⟩], [⟨b49, 39, [.int .i64 v_15.1, .int .i64 v_15.2.1, .int .i64 v_15.2.2.1, .slice a45 ((v_15.2.2.2).length) c46]⟩], L54]) ?_ (fun hk70 => ?_)
                        · refine WK_cond (b := s_20) rfl (fun hb71 => ?_) (fun hb71 => ?_)
                          · have hm62 := ifT hb71 hm62
                            refine WK_seq ?_
                            refine WK_region ?_
                            refine WO_pure tbok 1 [(3, .pointer (some ⟨b2, 0, none⟩)), (6, .bool false), (7, .int .i64 (w64 (1 + (Int.tmod (w64 (p2)) 5)))), (13, .pointer (some ⟨b49, 0, none⟩)), (14, .slice a51 ((y_16).length) c52), (58, .slice (some ⟨b25, 0, none⟩) 2 2), (59, .int .i64 2), (60, .int .i64 s_14), (91, .int .i64 ((y_16).length : Int)), (92, .int .i64 s_19)] rfl ⟨rfl, rfl, rfl, rfl, rfl, rfl, rfl, rfl, rfl, rfl, trivial⟩ ?_
                            refine WO_end ?_
                            cases hm62
                            have hq := hd66 _ rfl
                            subst hq
                            have hm36 : some _ = some _ := hm36
                            cases hm36
                            have hq := hd40 _ rfl
                            subst hq
                            have hm : some _ = some _ := hm
                            cases hm
                            exact WK_ret (ret_out (L := []) (RLc_tmp rfl RLc_nil) (List.nil_sublist _) rfl)
                          · have hm62 := ifF hb71 hm62
                            refine WK_skip ?_
                            refine WK_blk ?_
                            refine WK_region ?_
                            refine WO_pure tbok 2 [(3, .pointer (some ⟨b2, 0, none⟩)), (6, .bool false), (7, .int .i64 (w64 (1 + (Int.tmod (w64 (p2)) 5)))), (13, .pointer (some ⟨b49, 0, none⟩)), (14, .slice a51 ((y_16).length) c52), (58, .slice (some ⟨b25, 0, none⟩) 2 2), (59, .int .i64 2), (60, .int .i64 s_14), (91, .int .i64 ((y_16).length : Int)), (92, .int .i64 (w64 (s_19 + 1)))] rfl ⟨rfl, rfl, rfl, rfl, rfl, rfl, rfl, rfl, rfl, rfl, trivial⟩ ?_
                            refine WO_end ?_
                            cases hm62
                            refine WK.sub ?_ (WK.cls (fun _ h => h) (hn65 _ () rfl trivial))
                            exact ⟨rfl, rfl, rfl, rfl, rfl, rfl, rfl, rfl, rfl, rfl, trivial⟩
                        · refine WK_region ?_
                          refine WO_pure tbok 2 [(3, .pointer (some ⟨b2, 0, none⟩)), (6, .bool false), (7, .int .i64 (w64 (1 + (Int.tmod (w64 (p2)) 5)))), (13, .pointer (some ⟨b49, 0, none⟩)), (14, .slice a51 ((y_16).length) c52), (16, .int .i64 s_19), (58, .slice (some ⟨b25, 0, none⟩) 2 2), (59, .int .i64 2), (60, .int .i64 s_14), (91, .int .i64 ((y_16).length : Int)), (92, .int .i64 s_19), (95, .slice a51 ((y_16).length) c52), (96, .int .i64 s_19)] rfl ⟨rfl, rfl, rfl, rfl, rfl, rfl, rfl, rfl, rfl, rfl, rfl, rfl, rfl, trivial⟩ ?_
                          obtain ⟨v_21, hy72, hx69⟩ := bind_some hx69
                          obtain ⟨hc73, hy72⟩ := ix_some hy72
                          refine WO_index tbok rfl rfl rfl rfl rfl rfl rfl rfl (OwnE.addr hL54) (by simpa using hc73) ?_
                          refine WO_loadO (E := (I1 .i64)) tbok (fun _ => rfl) 7 rfl rfl rfl rfl (fun _ h => h) hL54 rfl hy72 rfl ?_
                          refine WO_pure tbok 2 [(3, .pointer (some ⟨b2, 0, none⟩)), (6, .bool false), (7, .int .i64 (w64 (1 + (Int.tmod (w64 (p2)) 5)))), (13, .pointer (some ⟨b49, 0, none⟩)), (14, .slice a51 ((y_16).length) c52), (16, .int .i64 s_19), (58, .slice (some ⟨b25, 0, none⟩) 2 2), (59, .int .i64 2), (60, .int .i64 s_14), (91, .int .i64 ((y_16).length : Int)), (92, .int .i64 s_19), (100, .bool (v_21 != 0))] rfl ⟨rfl, rfl, rfl, rfl, rfl, rfl, rfl, rfl, rfl, rfl, rfl, rfl, trivial⟩ ?_
                          refine WO_split (d := 100) (b := v_21 != 0) rfl (fun hb74 => ?_) (fun hb74 => ?_)
                          · have hx69 := ifT hb74 hx69
                            refine WO_pure tbok 9 [(3, .pointer (some ⟨b2, 0, none⟩)), (6, .bool false), (7, .int .i64 (w64 (1 + (Int.tmod (w64 (p2)) 5)))), (13, .pointer (some ⟨b49, 0, none⟩)), (14, .slice a51 ((y_16).length) c52), (58, .slice (some ⟨b25, 0, none⟩) 2 2), (59, .int .i64 2), (60, .int .i64 s_14), (91, .int .i64 ((y_16).length : Int)), (92, .int .i64 s_19), (109, .bool true)] rfl ⟨rfl, rfl, rfl, rfl, rfl, rfl, rfl, rfl, rfl, rfl, rfl, trivial⟩ ?_
                            refine WO_end ?_
                            cases hx69
                            refine WK.sub ?_ (WK.cls (fun _ h => h) hk70)
                            exact ⟨rfl, rfl, rfl, rfl, rfl, rfl, rfl, rfl, rfl, rfl, rfl, trivial⟩
                          · have hx69 := ifF hb74 hx69
                            refine WO_pure tbok 1 [(3, .pointer (some ⟨b2, 0, none⟩)), (6, .bool false), (7, .int .i64 (w64 (1 + (Int.tmod (w64 (p2)) 5)))), (13, .pointer (some ⟨b49, 0, none⟩)), (14, .slice a51 ((y_16).length) c52), (16, .int .i64 s_19), (58, .slice (some ⟨b25, 0, none⟩) 2 2), (59, .int .i64 2), (60, .int .i64 s_14), (91, .int .i64 ((y_16).length : Int)), (92, .int .i64 s_19), (100, .bool false), (101, .pointer (some ⟨b49, 3, none⟩))] rfl ⟨rfl, rfl, rfl, rfl, rfl, rfl, rfl, rfl, rfl, rfl, rfl, rfl, rfl, trivial⟩ ?_
                            refine WO_loadB tbok 6 rfl rfl rfl rfl (fun _ h => h) rfl rfl ?_
                            refine WO_pure tbok 3 [(3, .pointer (some ⟨b2, 0, none⟩)), (6, .bool false), (7, .int .i64 (w64 (1 + (Int.tmod (w64 (p2)) 5)))), (13, .pointer (some ⟨b49, 0, none⟩)), (14, .slice a51 ((y_16).length) c52), (58, .slice (some ⟨b25, 0, none⟩) 2 2), (59, .int .i64 2), (60, .int .i64 s_14), (91, .int .i64 ((y_16).length : Int)), (92, .int .i64 s_19), (100, .bool false), (102, .slice a45 ((v_15.2.2.2).length) c46), (105, .int .i64 (w64 (s_19 * (w64 (1 + (Int.tmod (w64 (p2)) 5))))))] rfl ⟨rfl, rfl, rfl, rfl, rfl, rfl, rfl, rfl, rfl, rfl, rfl, rfl, rfl, trivial⟩ ?_
                            obtain ⟨v_22, hy75, hx69⟩ := bind_some hx69
                            obtain ⟨hc76, hy75⟩ := ix_some hy75
                            refine WO_index tbok rfl rfl rfl rfl rfl rfl rfl rfl (SlR.addr h47) hc76 ?_
                            refine WO_loadE tbok rfl rfl rfl rfl (fun _ h => St.sat h) h47 hy75 rfl ?_
                            refine WO_pure tbok 2 [(3, .pointer (some ⟨b2, 0, none⟩)), (6, .bool false), (7, .int .i64 (w64 (1 + (Int.tmod (w64 (p2)) 5)))), (13, .pointer (some ⟨b49, 0, none⟩)), (14, .slice a51 ((y_16).length) c52), (58, .slice (some ⟨b25, 0, none⟩) 2 2), (59, .int .i64 2), (60, .int .i64 s_14), (91, .int .i64 ((y_16).length : Int)), (92, .int .i64 s_19), (109, .bool (v_22 != 0))] rfl ⟨rfl, rfl, rfl, rfl, rfl, rfl, rfl, rfl, rfl, rfl, rfl, trivial⟩ ?_
                            refine WO_end ?_
                            cases hx69
                            refine WK.sub ?_ (WK.cls (fun _ h => h) hk70)
                            exact ⟨rfl, rfl, rfl, rfl, rfl, rfl, rfl, rfl, rfl, rfl, rfl, trivial⟩
                      · have hm62 := ifF hb68 hm62
                        refine WK_exit rfl ?_
                        cases hm62
                        refine WK.sub ?_ (WK.cls (fun _ h => h) (hk61 ((), ()) (hd66 _ rfl)))
                        exact ⟨rfl, rfl, rfl, rfl, rfl, rfl, trivial⟩
                · refine WK_region ?_
                  refine WO_pure tbok 3 [(3, .pointer (some ⟨b2, 0, none⟩)), (6, .bool false), (7, .int .i64 (w64 (1 + (Int.tmod (w64 (p2)) 5)))), (13, .pointer (some ⟨b49, 0, none⟩)), (14, .slice a51 ((y_16).length) c52), (58, .slice (some ⟨b25, 0, none⟩) 2 2), (59, .int .i64 2), (60, .int .i64 s_14), (71, .bool (y_17 != 0))] rfl ⟨rfl, rfl, rfl, rfl, rfl, rfl, rfl, rfl, rfl, trivial⟩ ?_
                  refine WO_split (d := 71) (b := y_17 != 0) rfl (fun hb77 => ?_) (fun hb77 => ?_)
                  · have hx56 := ifT hb77 hx56
                    refine WO_pure tbok 18 [(3, .pointer (some ⟨b2, 0, none⟩)), (6, .bool false), (7, .int .i64 (w64 (1 + (Int.tmod (w64 (p2)) 5)))), (13, .pointer (some ⟨b49, 0, none⟩)), (14, .slice a51 ((y_16).length) c52), (58, .slice (some ⟨b25, 0, none⟩) 2 2), (59, .int .i64 2), (60, .int .i64 s_14), (89, .bool true)] rfl ⟨rfl, rfl, rfl, rfl, rfl, rfl, rfl, rfl, rfl, trivial⟩ ?_
                    refine WO_end ?_
                    cases hx56
                    refine WK.sub ?_ (WK.cls (fun _ h => h) hk57)
                    exact ⟨rfl, rfl, rfl, rfl, rfl, rfl, rfl, rfl, rfl, trivial⟩
                  · have hx56 := ifF hb77 hx56
                    refine WO_pure tbok 3 [(3, .pointer (some ⟨b2, 0, none⟩)), (6, .bool false), (7, .int .i64 (w64 (1 + (Int.tmod (w64 (p2)) 5)))), (13, .pointer (some ⟨b49, 0, none⟩)), (14, .slice a51 ((y_16).length) c52), (58, .slice (some ⟨b25, 0, none⟩) 2 2), (59, .int .i64 2), (60, .int .i64 s_14), (71, .bool false), (73, .int .i64 ((y_16).length : Int)), (74, .pointer (some ⟨b2, 3, none⟩))] rfl ⟨rfl, rfl, rfl, rfl, rfl, rfl, rfl, rfl, rfl, rfl, rfl, trivial⟩ ?_
                    refine WO_loadB tbok 0 rfl rfl rfl rfl (fun _ h => h) rfl rfl ?_
                    refine WO_pure tbok 4 [(3, .pointer (some ⟨b2, 0, none⟩)), (6, .bool false), (7, .int .i64 (w64 (1 + (Int.tmod (w64 (p2)) 5)))), (13, .pointer (some ⟨b49, 0, none⟩)), (14, .slice a51 ((y_16).length) c52), (58, .slice (some ⟨b25, 0, none⟩) 2 2), (59, .int .i64 2), (60, .int .i64 s_14), (79, .bool (((y_16).length : Int) != (p0_3.length : Int)))] rfl ⟨rfl, rfl, rfl, rfl, rfl, rfl, rfl, rfl, rfl, trivial⟩ ?_
                    refine WO_split (d := 79) (b := ((y_16).length : Int) != (p0_3.length : Int)) rfl (fun hb78 => ?_) (fun hb78 => ?_)
                    · have hx56 := ifT hb78 hx56
                      refine WO_pure tbok 10 [(3, .pointer (some ⟨b2, 0, none⟩)), (6, .bool false), (7, .int .i64 (w64 (1 + (Int.tmod (w64 (p2)) 5)))), (13, .pointer (some ⟨b49, 0, none⟩)), (14, .slice a51 ((y_16).length) c52), (58, .slice (some ⟨b25, 0, none⟩) 2 2), (59, .int .i64 2), (60, .int .i64 s_14), (89, .bool true)] rfl ⟨rfl, rfl, rfl, rfl, rfl, rfl, rfl, rfl, rfl, trivial⟩ ?_
                      refine WO_end ?_
                      cases hx56
                      refine WK.sub ?_ (WK.cls (fun _ h => h) hk57)
                      exact ⟨rfl, rfl, rfl, rfl, rfl, rfl, rfl, rfl, rfl, trivial⟩
                    · have hx56 := ifF hb78 hx56
                      refine WO_pure tbok 1 [(3, .pointer (some ⟨b2, 0, none⟩)), (6, .bool false), (7, .int .i64 (w64 (1 + (Int.tmod (w64 (p2)) 5)))), (13, .pointer (some ⟨b49, 0, none⟩)), (14, .slice a51 ((y_16).length) c52), (58, .slice (some ⟨b25, 0, none⟩) 2 2), (59, .int .i64 2), (60, .int .i64 s_14), (79, .bool false), (80, .pointer (some ⟨b49, 3, none⟩))] rfl ⟨rfl, rfl, rfl, rfl, rfl, rfl, rfl, rfl, rfl, rfl, trivial⟩ ?_
                      refine WO_loadB tbok 6 rfl rfl rfl rfl (fun _ h => h) rfl rfl ?_
                      refine WO_pure tbok 2 [(3, .pointer (some ⟨b2, 0, none⟩)), (6, .bool false), (7, .int .i64 (w64 (1 + (Int.tmod (w64 (p2)) 5)))), (13, .pointer (some ⟨b49, 0, none⟩)), (14, .slice a51 ((y_16).length) c52), (58, .slice (some ⟨b25, 0, none⟩) 2 2), (59, .int .i64 2), (60, .int .i64 s_14), (79, .bool false), (82, .int .i64 ((v_15.2.2.2).length : Int)), (83, .pointer (some ⟨b2, 3, none⟩))] rfl ⟨rfl, rfl, rfl, rfl, rfl, rfl, rfl, rfl, rfl, rfl, rfl, trivial⟩ ?_
                      refine WO_loadB tbok 0 rfl rfl rfl rfl (fun _ h => h) rfl rfl ?_
                      refine WO_pure tbok 5 [(3, .pointer (some ⟨b2, 0, none⟩)), (6, .bool false), (7, .int .i64 (w64 (1 + (Int.tmod (w64 (p2)) 5)))), (13, .pointer (some ⟨b49, 0, none⟩)), (14, .slice a51 ((y_16).length) c52), (58, .slice (some ⟨b25, 0, none⟩) 2 2), (59, .int .i64 2), (60, .int .i64 s_14), (89, .bool (((v_15.2.2.2).length : Int) != (w64 ((p0_3.length : Int) * (w64 (1 + (Int.tmod (w64 (p2)) 5)))))))] rfl ⟨rfl, rfl, rfl, rfl, rfl, rfl, rfl, rfl, rfl, trivial⟩ ?_
                      refine WO_end ?_
                      cases hx56
                      refine WK.sub ?_ (WK.cls (fun _ h => h) hk57)
                      exact ⟨rfl, rfl, rfl, rfl, rfl, rfl, rfl, rfl, rfl, trivial⟩
              · have hm36 := ifF hb42 hm36
                refine WK_exit rfl ?_
                cases hm36
                refine WK.sub ?_ (WK.cls (fun _ h => h) (hk35 ((), ()) (hd40 _ rfl)))
                exact ⟨rfl, trivial⟩
        · refine WK_region ?_
          refine WO_pure tbok 3 [(3, .pointer (some ⟨b2, 0, none⟩)), (6, .bool false), (7, .int .i64 (w64 (1 + (Int.tmod (w64 (p2)) 5)))), (8, .pointer (some ⟨b14, 0, none⟩)), (10, .pointer (some ⟨b21, 0, none⟩)), (11, .int .i64 y_12), (52, .bool (y_7 != 0))] rfl ⟨rfl, rfl, rfl, rfl, rfl, rfl, rfl, trivial⟩ ?_
          refine WO_split (d := 52) (b := y_7 != 0) rfl (fun hb79 => ?_) (fun hb79 => ?_)
          · have hx22 := ifT hb79 hx22
            refine WO_pure tbok 3 [(3, .pointer (some ⟨b2, 0, none⟩)), (6, .bool false), (7, .int .i64 (w64 (1 + (Int.tmod (w64 (p2)) 5)))), (8, .pointer (some ⟨b14, 0, none⟩)), (10, .pointer (some ⟨b21, 0, none⟩)), (55, .bool true)] rfl ⟨rfl, rfl, rfl, rfl, rfl, rfl, trivial⟩ ?_
            refine WO_end ?_
            cases hx22
            refine WK.sub ?_ (WK.cls (fun _ h => h) hk23)
            exact ⟨rfl, rfl, rfl, rfl, rfl, rfl, trivial⟩
          · have hx22 := ifF hb79 hx22
            refine WO_pure tbok 3 [(3, .pointer (some ⟨b2, 0, none⟩)), (6, .bool false), (7, .int .i64 (w64 (1 + (Int.tmod (w64 (p2)) 5)))), (8, .pointer (some ⟨b14, 0, none⟩)), (10, .pointer (some ⟨b21, 0, none⟩)), (55, .bool (y_12 != 0))] rfl ⟨rfl, rfl, rfl, rfl, rfl, rfl, trivial⟩ ?_
            refine WO_end ?_
            cases hx22
            refine WK.sub ?_ (WK.cls (fun _ h => h) hk23)
            exact ⟨rfl, rfl, rfl, rfl, rfl, rfl, trivial⟩
    · refine WK_region ?_
      refine WO_pure tbok 1 [(1, .int .u8 p1), (2, .int .u8 p2), (3, .pointer (some ⟨b2, 0, none⟩)), (6, .bool false), (19, .pointer (some ⟨b2, 3, none⟩))] rfl ⟨rfl, rfl, rfl, rfl, rfl, trivial⟩ ?_
      refine WO_loadB tbok 0 rfl rfl rfl rfl (fun _ h => h) rfl rfl ?_
      refine WO_pure tbok 3 [(1, .int .u8 p1), (2, .int .u8 p2), (3, .pointer (some ⟨b2, 0, none⟩)), (6, .bool false), (23, .bool (decide (120 < (p0_3.length : Int))))] rfl ⟨rfl, rfl, rfl, rfl, rfl, trivial⟩ ?_
      refine WO_split (d := 23) (b := decide (120 < (p0_3.length : Int))) rfl (fun hb80 => ?_) (fun hb80 => ?_)
      · have hx5 := ifT hb80 hx5
        refine WO_pure tbok 1 [(1, .int .u8 p1), (2, .int .u8 p2), (3, .pointer (some ⟨b2, 0, none⟩)), (6, .bool false), (23, .bool true)] rfl ⟨rfl, rfl, rfl, rfl, rfl, trivial⟩ ?_
        refine WO_skip rfl rfl ?_
        refine WO_pure tbok 2 [(1, .int .u8 p1), (2, .int .u8 p2), (3, .pointer (some ⟨b2, 0, none⟩)), (6, .bool false), (27, .bool true)] rfl ⟨rfl, rfl, rfl, rfl, rfl, trivial⟩ ?_
        refine WO_end ?_
        cases hx5
        refine WK.sub ?_ (WK.cls (fun _ h => h) hk6)
        exact ⟨rfl, rfl, rfl, rfl, rfl, trivial⟩
      · have hx5 := ifF hb80 hx5
        refine WO_loadB tbok 0 rfl rfl rfl rfl (fun _ h => h) rfl rfl ?_
        obtain ⟨y_23, hc81, hx5⟩ := bind_some hx5
        refine WO_call0 (.int .i64 y_23) rfl rfl trivial rfl rfl rfl rfl St_closed ⟨26, #[], #[], rfl, callable_26, fun w hw => ⟨_, hw.sat, fiducialref13_Check_walk h_p0_3 hc81⟩⟩ ?_
        refine WO_pure tbok 2 [(1, .int .u8 p1), (2, .int .u8 p2), (3, .pointer (some ⟨b2, 0, none⟩)), (6, .bool false), (27, .bool (y_23 != 0))] rfl ⟨rfl, rfl, rfl, rfl, rfl, trivial⟩ ?_
        refine WO_end ?_
        cases hx5
        refine WK.sub ?_ (WK.cls (fun _ h => h) hk6)
        exact ⟨rfl, rfl, rfl, rfl, rfl, trivial⟩
theorem fiduciallaw44_CensusShifted_walk {m : Mu} {p0_0 : Int} {p0_1 : Int} {p0_2 : Int} {p0_3 : List Int} {p1 : Int} {p2 : List Int} {a_p0_3 : Option Addr} {q_p0_3 c_p0_3 : Nat} {a_p2 : Option Addr} {q_p2 c_p2 : Nat} (h_p0_3 : SlR (FE (I1 .i64)) 1 m (.slice a_p0_3 q_p0_3 c_p0_3) p0_3) (h_p2 : SlR (FE (I1 .u8)) 1 m (.slice a_p2 q_p2 c_p2) p2) {r : Bool} (hm : fiduciallaw44_CensusShifted p0_0 p0_1 p0_2 p0_3 p1 p2 = some r) :
    Go.E.Spec Try.prog 8 [.agg #[.int .i64 p0_0, .int .i64 p0_1, .int .i64 p0_2, .slice a_p0_3 q_p0_3 c_p0_3], .int .u8 p1, .slice a_p2 q_p2 c_p2] m (fun v _ _ => v = .bool r) := by
  refine Spec_enter Try.func8 rfl rfl rfl (fun w0 => ?_)
  refine WK.sub (e' := [(0, .agg #[.int .i64 p0_0, .int .i64 p0_1, .int .i64 p0_2, .slice a_p0_3 q_p0_3 c_p0_3]), (1, .int .u8 p1), (2, .slice a_p2 q_p2 c_p2)]) ⟨rfl, rfl, rfl, trivial⟩ ?_
  obtain rfl := SlR.qlen h_p0_3
  obtain rfl := SlR.qlen h_p2
  refine WK.sub (e' := [(0, .agg #[.int .i64 p0_0, .int .i64 p0_1, .int .i64 p0_2, .slice a_p0_3 p0_3.length c_p0_3]), (1, .int .u8 p1), (2, .slice a_p2 p2.length c_p2)]) ⟨rfl, rfl, rfl, trivial⟩ ?_
  unfold fiduciallaw44_CensusShifted at hm
  refine WK_seq ?_
  refine WK_region ?_
  refine WO_box [.int .i64 p0_0, .int .i64 p0_1, .int .i64 p0_2, .slice a_p0_3 p0_3.length c_p0_3] rfl rfl trivial rfl rfl rfl (fun b3 => ?_)
  refine WO.cls (C' := St w0 m m [[⟨b3, 24, [.int .i64 p0_0, .int .i64 p0_1, .int .i64 p0_2, .slice a_p0_3 p0_3.length c_p0_3]⟩]]) (fun _ h => h) ?_
  refine WO_pure tbok 1 [(1, .int .u8 p1), (2, .slice a_p2 p2.length c_p2), (3, .pointer (some ⟨b3, 0, none⟩)), (6, .bool false)] rfl ⟨rfl, rfl, rfl, rfl, trivial⟩ ?_
  refine WO_end ?_
  refine WK_seq ?_
  refine WK_seq ?_
  refine WK_region ?_
  obtain ⟨y_1, hc4, hm⟩ := bind_some hm
  refine WO_call0 (.bool y_1) rfl rfl trivial rfl rfl rfl rfl St_closed ⟨11, #[], #[], rfl, callable_11, fun w hw => ⟨_, hw.sat, fiduciallaw44_known_walk hc4⟩⟩ ?_
  refine WO_pure tbok 1 [(1, .int .u8 p1), (2, .slice a_p2 p2.length c_p2), (3, .pointer (some ⟨b3, 0, none⟩)), (6, .bool false), (21, .bool (!y_1))] rfl ⟨rfl, rfl, rfl, rfl, rfl, trivial⟩ ?_
  refine WO_end ?_
  refine WK_cond (b := !y_1) rfl (fun hb5 => ?_) (fun hb5 => ?_)
  · have hm := ifT hb5 hm
    refine WK_seq ?_
    refine WK_region ?_
    refine WO_pure tbok 1 [(1, .int .u8 p1), (2, .slice a_p2 p2.length c_p2), (3, .pointer (some ⟨b3, 0, none⟩)), (6, .bool false)] rfl ⟨rfl, rfl, rfl, rfl, trivial⟩ ?_
    refine WO_end ?_
    cases hm
    exact WK_ret (ret_out (L := []) (RLc_tmp rfl RLc_nil) (List.nil_sublist _) rfl)
  · have hm := ifF hb5 hm
    refine WK_skip ?_
    refine WK_seq ?_
    refine WK_seq ?_
    obtain ⟨s_2, hx6, hm⟩ := bind_some hm
    refine WK_meet [(1, .int .u8 p1), (2, .slice a_p2 p2.length c_p2), (3, .pointer (some ⟨b3, 0, none⟩)), (6, .bool false), (35, .bool s_2)] (St w0 m m [[⟨b3, 24, [.int .i64 p0_0, .int .i64 p0_1, .int .i64 p0_2, .slice a_p0_3 p0_3.length c_p0_3]⟩]]) ?_ (fun hk7 => ?_)
    · refine WK_cond (b := s_2) rfl (fun hb8 => ?_) (fun hb8 => ?_)
      · have hm := ifT hb8 hm
        refine WK_seq ?_
        refine WK_region ?_
        refine WO_pure tbok 1 [(1, .int .u8 p1), (2, .slice a_p2 p2.length c_p2), (3, .pointer (some ⟨b3, 0, none⟩)), (6, .bool true)] rfl ⟨rfl, rfl, rfl, rfl, trivial⟩ ?_
        refine WO_end ?_
        cases hm
        exact WK_ret (ret_out (L := []) (RLc_tmp rfl RLc_nil) (List.nil_sublist _) rfl)
      · have hm := ifF hb8 hm
        refine WK_skip ?_
        refine WK_seq ?_
        refine WK_region ?_
        refine WO_pure tbok 4 [(2, .slice a_p2 p2.length c_p2), (3, .pointer (some ⟨b3, 0, none⟩)), (6, .bool false), (7, .int .i64 (Int.tmod (w64 (p1)) 4))] rfl ⟨rfl, rfl, rfl, rfl, trivial⟩ ?_
        refine WO_end ?_
        refine WK_seq ?_
        refine WK_region ?_
        refine WO_pure tbok 1 [(2, .slice a_p2 p2.length c_p2), (3, .pointer (some ⟨b3, 0, none⟩)), (6, .bool false), (7, .int .i64 (Int.tmod (w64 (p1)) 4)), (39, .pointer (some ⟨b3, 0, none⟩))] rfl ⟨rfl, rfl, rfl, rfl, rfl, trivial⟩ ?_
        refine WO_loadB tbok 0 rfl rfl rfl rfl (fun _ h => h) rfl rfl ?_
        refine WO_pure tbok 1 [(2, .slice a_p2 p2.length c_p2), (3, .pointer (some ⟨b3, 0, none⟩)), (6, .bool false), (7, .int .i64 (Int.tmod (w64 (p1)) 4)), (40, .int .i64 p0_0), (41, .pointer (some ⟨b3, 1, none⟩))] rfl ⟨rfl, rfl, rfl, rfl, rfl, rfl, trivial⟩ ?_
        refine WO_loadB tbok 0 rfl rfl rfl rfl (fun _ h => h) rfl rfl ?_
        refine WO_pure tbok 1 [(2, .slice a_p2 p2.length c_p2), (3, .pointer (some ⟨b3, 0, none⟩)), (6, .bool false), (7, .int .i64 (Int.tmod (w64 (p1)) 4)), (40, .int .i64 p0_0), (42, .int .i64 p0_1), (43, .pointer (some ⟨b3, 2, none⟩))] rfl ⟨rfl, rfl, rfl, rfl, rfl, rfl, rfl, trivial⟩ ?_
        refine WO_loadB tbok 0 rfl rfl rfl rfl (fun _ h => h) rfl rfl ?_
        refine WO_pure tbok 1 [(2, .slice a_p2 p2.length c_p2), (3, .pointer (some ⟨b3, 0, none⟩)), (6, .bool false), (7, .int .i64 (Int.tmod (w64 (p1)) 4)), (45, .agg #[.int .i64 p0_0, .int .i64 p0_1, .int .i64 p0_2, .slice none 0 0])] rfl ⟨rfl, rfl, rfl, rfl, rfl, trivial⟩ ?_
        refine WO_alloc tbok [.int .i64 0, .int .i64 0, .int .i64 0, .slice none 0 0] rfl rfl trivial rfl rfl rfl rfl (fun b9 => ?_)
        refine WO.cls (C' := St w0 m m [[⟨b3, 24, [.int .i64 p0_0, .int .i64 p0_1, .int .i64 p0_2, .slice a_p0_3 p0_3.length c_p0_3]⟩], [⟨b9, 24, [.int .i64 0, .int .i64 0, .int .i64 0, .slice none 0 0]⟩]]) (fun _ h => h) ?_
        refine WO_storeB tbok 1 [.int .i64 p0_0, .int .i64 p0_1, .int .i64 p0_2, .slice none 0 0] rfl rfl rfl rfl rfl rfl rfl ?_
        refine WO.cls (C' := St w0 m m [[⟨b3, 24, [.int .i64 p0_0, .int .i64 p0_1, .int .i64 p0_2, .slice a_p0_3 p0_3.length c_p0_3]⟩], [⟨b9, 24, [.int .i64 p0_0, .int .i64 p0_1, .int .i64 p0_2, .slice none 0 0]⟩]]) (fun _ h => h) ?_
        refine WO_end ?_
        refine WK_seq ?_
        refine WK_seq ?_
        refine WK_region ?_
        refine WO_pure tbok 1 [(2, .slice a_p2 p2.length c_p2), (3, .pointer (some ⟨b3, 0, none⟩)), (6, .bool false), (7, .int .i64 (Int.tmod (w64 (p1)) 4)), (8, .pointer (some ⟨b9, 0, none⟩)), (46, .pointer (some ⟨b3, 3, none⟩))] rfl ⟨rfl, rfl, rfl, rfl, rfl, rfl, trivial⟩ ?_
        refine WO_loadB tbok 0 rfl rfl rfl rfl (fun _ h => h) rfl rfl ?_
        refine WO_pure tbok 2 [(2, .slice a_p2 p2.length c_p2), (3, .pointer (some ⟨b3, 0, none⟩)), (6, .bool false), (7, .int .i64 (Int.tmod (w64 (p1)) 4)), (8, .pointer (some ⟨b9, 0, none⟩)), (48, .int .i64 (p0_3.length : Int)), (49, .int .i64 0)] rfl ⟨rfl, rfl, rfl, rfl, rfl, rfl, rfl, trivial⟩ ?_
        refine WO_end ?_
        refine WK_pad ?_
        obtain ⟨x21, hx22, hm⟩ := bind_some hm
        refine WK_join (β := (List Int) × (Option Addr × Nat × Nat × List Ent)) (fun p => p.1 = x21 ∧ OwnE 3 1 (I1 .i64) (.slice p.2.1 p.2.2.1 p.2.2.2.1) p.1 p.2.2.2.2) (fun p => [(3, .pointer (some ⟨b3, 0, none⟩)), (6, .bool false), (7, .int .i64 (Int.tmod (w64 (p1)) 4)), (8, .pointer (some ⟨b9, 0, none⟩))]) (fun p => St w0 m m [[⟨b3, 24, [.int .i64 p0_0, .int .i64 p0_1, .int .i64 p0_2, .slice a_p0_3 p0_3.length c_p0_3]⟩], [⟨b9, 24, [.int .i64 p0_0, .int .i64 p0_1, .int .i64 p0_2, .slice p.2.1 p.2.2.1 p.2.2.2.1]⟩], p.2.2.2.2]) ?_ (fun hk23 => ?_)
        · rintro ⟨l_5, ⟨a18, q19, c20, L17⟩⟩ ⟨hq29, hL17⟩
          subst hq29
          have hqq : q19 = l_5.length := OwnE.qlen hL17
          subst hqq
          refine WK.sub (e' := [(3, .pointer (some ⟨b3, 0, none⟩)), (6, .bool false), (7, .int .i64 (Int.tmod (w64 (p1)) 4)), (8, .pointer (some ⟨b9, 0, none⟩))]) ⟨rfl, rfl, rfl, rfl, trivial⟩ (WK.cls (C' := St w0 m m [[⟨b3, 24, [.int .i64 p0_0, .int .i64 p0_1, .int .i64 p0_2, .slice a_p0_3 p0_3.length c_p0_3]⟩], [⟨b9, 24, [.int .i64 p0_0, .int .i64 p0_1, .int .i64 p0_2, .slice a18 ((l_5).length) c20]⟩], L17]) (fun _ h => h) ?_)
          refine WK_seq ?_
          refine WK_region ?_
          refine WO_loadB tbok 0 rfl rfl rfl rfl (fun _ h => h) rfl rfl ?_
          refine WO_loadB tbok 1 rfl rfl rfl rfl (fun _ h => h) rfl rfl ?_
          refine WO_pure tbok 2 [(3, .pointer (some ⟨b3, 0, none⟩)), (6, .bool false), (7, .int .i64 (Int.tmod (w64 (p1)) 4)), (8, .pointer (some ⟨b9, 0, none⟩)), (89, .agg #[.int .i64 p0_0, .int .i64 p0_1, .int .i64 p0_2, .slice a_p0_3 p0_3.length c_p0_3]), (90, .agg #[.int .i64 p0_0, .int .i64 p0_1, .int .i64 p0_2, .slice a18 ((l_5).length) c20]), (92, .int .i64 (w64 ((Int.tmod (w64 (p1)) 4) + 1)))] rfl ⟨rfl, rfl, rfl, rfl, rfl, rfl, rfl, trivial⟩ ?_
          obtain ⟨⟨y_6, y_7, y_8, y_9, y_10⟩, hc30, hm⟩ := bind_some hm
          refine WO_call1 (census_Plain_Q (y_6, y_7, y_8, y_9, y_10)) rfl rfl trivial rfl rfl rfl rfl ⟨18, #[], #[], rfl, callable_18, fun w hw => ⟨_, hw.satV, census_Plain_walk (h_p0_3.mono (mono_FE _) hw.leV) (OwnE.rd (E := (I1 .i64)) (k := 1) (fun _ => rfl) hL17 (fun _ hx => hw.memV (i := 2) rfl hx)) hc30⟩⟩ (fun v35 L34 hq => ?_)
          obtain ⟨a31, qa31, c32, rfl, hL34⟩ := hq
          obtain rfl := OwnE.qlen hL34
          refine WO.cls (C' := St w0 m m [[⟨b3, 24, [.int .i64 p0_0, .int .i64 p0_1, .int .i64 p0_2, .slice a_p0_3 p0_3.length c_p0_3]⟩], [⟨b9, 24, [.int .i64 p0_0, .int .i64 p0_1, .int .i64 p0_2, .slice a18 ((l_5).length) c20]⟩], L17, L34]) (fun _ h => h) ?_
          refine WO_pure tbok 3 [(3, .pointer (some ⟨b3, 0, none⟩)), (6, .bool false), (7, .int .i64 (Int.tmod (w64 (p1)) 4)), (8, .pointer (some ⟨b9, 0, none⟩)), (94, .agg #[.int .i64 y_6, .int .i64 y_7, .int .i64 y_8, .slice a31 ((y_9).length) c32]), (95, .int .i64 y_10)] rfl ⟨rfl, rfl, rfl, rfl, rfl, rfl, trivial⟩ ?_
          refine WO_alloc tbok [.int .i64 0, .int .i64 0, .int .i64 0, .slice none 0 0] rfl rfl trivial rfl rfl rfl rfl (fun b36 => ?_)
          refine WO.cls (C' := St w0 m m [[⟨b3, 24, [.int .i64 p0_0, .int .i64 p0_1, .int .i64 p0_2, .slice a_p0_3 p0_3.length c_p0_3]⟩], [⟨b9, 24, [.int .i64 p0_0, .int .i64 p0_1, .int .i64 p0_2, .slice a18 ((l_5).length) c20]⟩], L17, L34, [⟨b36, 39, [.int .i64 0, .int .i64 0, .int .i64 0, .slice none 0 0]⟩]]) (fun _ h => h) ?_
          refine WO_storeB tbok 4 [.int .i64 y_6, .int .i64 y_7, .int .i64 y_8, .slice a31 ((y_9).length) c32] rfl rfl rfl rfl rfl rfl rfl ?_
          refine WO.cls (C' := St w0 m m [[⟨b3, 24, [.int .i64 p0_0, .int .i64 p0_1, .int .i64 p0_2, .slice a_p0_3 p0_3.length c_p0_3]⟩], [⟨b9, 24, [.int .i64 p0_0, .int .i64 p0_1, .int .i64 p0_2, .slice a18 ((l_5).length) c20]⟩], L17, L34, [⟨b36, 39, [.int .i64 y_6, .int .i64 y_7, .int .i64 y_8, .slice a31 ((y_9).length) c32]⟩]]) (fun _ h => h) ?_
          refine WO_pure tbok 1 [(3, .pointer (some ⟨b3, 0, none⟩)), (6, .bool false), (7, .int .i64 (Int.tmod (w64 (p1)) 4)), (8, .pointer (some ⟨b9, 0, none⟩)), (11, .pointer (some ⟨b36, 0, none⟩)), (12, .int .i64 y_10)] rfl ⟨rfl, rfl, rfl, rfl, rfl, rfl, trivial⟩ ?_
          refine WO_end ?_
          refine WK_seq ?_
          refine WK_region ?_
          refine WO_loadB tbok 0 rfl rfl rfl rfl (fun _ h => h) rfl rfl ?_
          refine WO_loadB tbok 1 rfl rfl rfl rfl (fun _ h => h) rfl rfl ?_
          refine WO_pure tbok 2 [(3, .pointer (some ⟨b3, 0, none⟩)), (6, .bool false), (7, .int .i64 (Int.tmod (w64 (p1)) 4)), (8, .pointer (some ⟨b9, 0, none⟩)), (11, .pointer (some ⟨b36, 0, none⟩)), (12, .int .i64 y_10), (97, .agg #[.int .i64 p0_0, .int .i64 p0_1, .int .i64 p0_2, .slice a_p0_3 p0_3.length c_p0_3]), (98, .agg #[.int .i64 p0_0, .int .i64 p0_1, .int .i64 p0_2, .slice a18 ((l_5).length) c20]), (100, .int .i64 (w64 ((Int.tmod (w64 (p1)) 4) + 1)))] rfl ⟨rfl, rfl, rfl, rfl, rfl, rfl, rfl, rfl, rfl, trivial⟩ ?_
          obtain ⟨⟨y_11, y_12, y_13, y_14, y_15⟩, hc37, hm⟩ := bind_some hm
          refine WO_call1 (census_Census_Q (y_11, y_12, y_13, y_14, y_15)) rfl rfl trivial rfl rfl rfl rfl ⟨22, #[], #[], rfl, callable_22, fun w hw => ⟨_, hw.satV, census_Census_walk (h_p0_3.mono (mono_FE _) hw.leV) (OwnE.rd (E := (I1 .i64)) (k := 1) (fun _ => rfl) hL17 (fun _ hx => hw.memV (i := 2) rfl hx)) hc37⟩⟩ (fun v42 L41 hq => ?_)
          obtain ⟨a38, qa38, c39, rfl, hL41⟩ := hq
          obtain rfl := OwnE.qlen hL41
          refine WO.cls (C' := St w0 m m [[⟨b3, 24, [.int .i64 p0_0, .int .i64 p0_1, .int .i64 p0_2, .slice a_p0_3 p0_3.length c_p0_3]⟩], [⟨b9, 24, [.int .i64 p0_0, .int .i64 p0_1, .int .i64 p0_2, .slice a18 ((l_5).length) c20]⟩], L17, L34, [⟨b36, 39, [.int .i64 y_6, .int .i64 y_7, .int .i64 y_8, .slice a31 ((y_9).length) c32]⟩], L41]) (fun _ h => h) ?_
          refine WO_pure tbok 3 [(3, .pointer (some ⟨b3, 0, none⟩)), (6, .bool false), (7, .int .i64 (Int.tmod (w64 (p1)) 4)), (8, .pointer (some ⟨b9, 0, none⟩)), (11, .pointer (some ⟨b36, 0, none⟩)), (12, .int .i64 y_10), (102, .agg #[.int .i64 y_11, .int .i64 y_12, .int .i64 y_13, .slice a38 ((y_14).length) c39]), (103, .int .i64 y_15)] rfl ⟨rfl, rfl, rfl, rfl, rfl, rfl, rfl, rfl, trivial⟩ ?_
          refine WO_alloc tbok [.int .i64 0, .int .i64 0, .int .i64 0, .slice none 0 0] rfl rfl trivial rfl rfl rfl rfl (fun b43 => ?_)
          refine WO.cls (C' := St w0 m m [[⟨b3, 24, [.int .i64 p0_0, .int .i64 p0_1, .int .i64 p0_2, .slice a_p0_3 p0_3.length c_p0_3]⟩], [⟨b9, 24, [.int .i64 p0_0, .int .i64 p0_1, .int .i64 p0_2, .slice a18 ((l_5).length) c20]⟩], L17, L34, [⟨b36, 39, [.int .i64 y_6, .int .i64 y_7, .int .i64 y_8, .slice a31 ((y_9).length) c32]⟩], L41, [⟨b43, 39, [.int .i64 0, .int .i64 0, .int .i64 0, .slice none 0 0]⟩]]) (fun _ h => h) ?_
          refine WO_storeB tbok 6 [.int .i64 y_11, .int .i64 y_12, .int .i64 y_13, .slice a38 ((y_14).length) c39] rfl rfl rfl rfl rfl rfl rfl ?_
          refine WO.cls (C' := St w0 m m [[⟨b3, 24, [.int .i64 p0_0, .int .i64 p0_1, .int .i64 p0_2, .slice a_p0_3 p0_3.length c_p0_3]⟩], [⟨b9, 24, [.int .i64 p0_0, .int .i64 p0_1, .int .i64 p0_2, .slice a18 ((l_5).length) c20]⟩], L17, L34, [⟨b36, 39, [.int .i64 y_6, .int .i64 y_7, .int .i64 y_8, .slice a31 ((y_9).length) c32]⟩], L41, [⟨b43, 39, [.int .i64 y_11, .int .i64 y_12, .int .i64 y_13, .slice a38 ((y_14).length) c39]⟩]]) (fun _ h => h) ?_
          refine WO_pure tbok 1 [(3, .pointer (some ⟨b3, 0, none⟩)), (6, .bool false), (7, .int .i64 (Int.tmod (w64 (p1)) 4)), (8, .pointer (some ⟨b9, 0, none⟩)), (11, .pointer (some ⟨b36, 0, none⟩)), (12, .int .i64 y_10), (13, .pointer (some ⟨b43, 0, none⟩)), (14, .int .i64 y_15)] rfl ⟨rfl, rfl, rfl, rfl, rfl, rfl, rfl, rfl, trivial⟩ ?_
          refine WO_end ?_
          refine WK_seq ?_
          refine WK_region ?_
          refine WO_loadB tbok 0 rfl rfl rfl rfl (fun _ h => h) rfl rfl ?_
          refine WO_loadB tbok 1 rfl rfl rfl rfl (fun _ h => h) rfl rfl ?_
          refine WO_pure tbok 2 [(3, .pointer (some ⟨b3, 0, none⟩)), (6, .bool false), (7, .int .i64 (Int.tmod (w64 (p1)) 4)), (11, .pointer (some ⟨b36, 0, none⟩)), (12, .int .i64 y_10), (13, .pointer (some ⟨b43, 0, none⟩)), (14, .int .i64 y_15), (105, .agg #[.int .i64 p0_0, .int .i64 p0_1, .int .i64 p0_2, .slice a_p0_3 p0_3.length c_p0_3]), (106, .agg #[.int .i64 p0_0, .int .i64 p0_1, .int .i64 p0_2, .slice a18 ((l_5).length) c20]), (108, .int .i64 (w64 ((Int.tmod (w64 (p1)) 4) + 1)))] rfl ⟨rfl, rfl, rfl, rfl, rfl, rfl, rfl, rfl, rfl, rfl, trivial⟩ ?_
          obtain ⟨⟨y_16, y_17, y_18, y_19, y_20⟩, hc44, hm⟩ := bind_some hm
          refine WO_call1 (census_Census_Q (y_16, y_17, y_18, y_19, y_20)) rfl rfl trivial rfl rfl rfl rfl ⟨22, #[], #[], rfl, callable_22, fun w hw => ⟨_, hw.satV, census_Census_walk (h_p0_3.mono (mono_FE _) hw.leV) (OwnE.rd (E := (I1 .i64)) (k := 1) (fun _ => rfl) hL17 (fun _ hx => hw.memV (i := 2) rfl hx)) hc44⟩⟩ (fun v49 L48 hq => ?_)
          obtain ⟨a45, qa45, c46, rfl, hL48⟩ := hq
          obtain rfl := OwnE.qlen hL48
          refine WO.cls (C' := St w0 m m [[⟨b3, 24, [.int .i64 p0_0, .int .i64 p0_1, .int .i64 p0_2, .slice a_p0_3 p0_3.length c_p0_3]⟩], [⟨b9, 24, [.int .i64 p0_0, .int .i64 p0_1, .int .i64 p0_2, .slice a18 ((l_5).length) c20]⟩], L17, L34, [⟨b36, 39, [.int .i64 y_6, .int .i64 y_7, .int .i64 y_8, .slice a31 ((y_9).length) c32]⟩], L41, [⟨b43, 39, [.int .i64 y_11, .int .i64 y_12, .int .i64 y_13, .slice a38 ((y_14).length) c39]⟩], L48]) (fun _ h => h) ?_
          refine WO_pure tbok 3 [(3, .pointer (some ⟨b3, 0, none⟩)), (6, .bool false), (7, .int .i64 (Int.tmod (w64 (p1)) 4)), (11, .pointer (some ⟨b36, 0, none⟩)), (12, .int .i64 y_10), (13, .pointer (some ⟨b43, 0, none⟩)), (14, .int .i64 y_15), (110, .agg #[.int .i64 y_16, .int .i64 y_17, .int .i64 y_18, .slice a45 ((y_19).length) c46]), (111, .int .i64 y_20)] rfl ⟨rfl, rfl, rfl, rfl, rfl, rfl, rfl, rfl, rfl, trivial⟩ ?_
          refine WO_alloc tbok [.int .i64 0, .int .i64 0, .int .i64 0, .slice none 0 0] rfl rfl trivial rfl rfl rfl rfl (fun b50 => ?_)
          refine WO.cls (C' := St w0 m m [[⟨b3, 24, [.int .i64 p0_0, .int .i64 p0_1, .int .i64 p0_2, .slice a_p0_3 p0_3.length c_p0_3]⟩], [⟨b9, 24, [.int .i64 p0_0, .int .i64 p0_1, .int .i64 p0_2, .slice a18 ((l_5).length) c20]⟩], L17, L34, [⟨b36, 39, [.int .i64 y_6, .int .i64 y_7, .int .i64 y_8, .slice a31 ((y_9).length) c32]⟩], L41, [⟨b43, 39, [.int .i64 y_11, .int .i64 y_12, .int .i64 y_13, .slice a38 ((y_14).length) c39]⟩], L48, [⟨b50, 39, [.int .i64 0, .int .i64 0, .int .i64 0, .slice none 0 0]⟩]]) (fun _ h => h) ?_
          refine WO_storeB tbok 8 [.int .i64 y_16, .int .i64 y_17, .int .i64 y_18, .slice a45 ((y_19).length) c46] rfl rfl rfl rfl rfl rfl rfl ?_
          refine WO.cls (C' := St w0 m m [[⟨b3, 24, [.int .i64 p0_0, .int .i64 p0_1, .int .i64 p0_2, .slice a_p0_3 p0_3.length c_p0_3]⟩], [⟨b9, 24, [.int .i64 p0_0, .int .i64 p0_1, .int .i64 p0_2, .slice a18 ((l_5).length) c20]⟩], L17, L34, [⟨b36, 39, [.int .i64 y_6, .int .i64 y_7, .int .i64 y_8, .slice a31 ((y_9).length) c32]⟩], L41, [⟨b43, 39, [.int .i64 y_11, .int .i64 y_12, .int .i64 y_13, .slice a38 ((y_14).length) c39]⟩], L48, [⟨b50, 39, [.int .i64 y_16, .int .i64 y_17, .int .i64 y_18, .slice a45 ((y_19).length) c46]⟩]]) (fun _ h => h) ?_
          refine WO_pure tbok 1 [(3, .pointer (some ⟨b3, 0, none⟩)), (6, .bool false), (7, .int .i64 (Int.tmod (w64 (p1)) 4)), (11, .pointer (some ⟨b36, 0, none⟩)), (12, .int .i64 y_10), (13, .pointer (some ⟨b43, 0, none⟩)), (14, .int .i64 y_15), (15, .pointer (some ⟨b50, 0, none⟩)), (16, .int .i64 y_20)] rfl ⟨rfl, rfl, rfl, rfl, rfl, rfl, rfl, rfl, rfl, trivial⟩ ?_
          refine WO_end ?_
          refine WK_seq ?_
          refine WK_seq ?_
          obtain ⟨s_21, hx51, hm⟩ := bind_some hm
          refine WK_meet [(3, .pointer (some ⟨b3, 0, none⟩)), (6, .bool false), (7, .int .i64 (Int.tmod (w64 (p1)) 4)), (11, .pointer (some ⟨b36, 0, none⟩)), (13, .pointer (some ⟨b43, 0, none⟩)), (15, .pointer (some ⟨b50, 0, none⟩)), (147, .bool s_21)] (St w0 m m [[⟨b3, 24, [.int .i64 p0_0, .int .i64 p0_1, .int .i64 p0_2, .slice a_p0_3 p0_3.length c_p0_3]⟩], [⟨b9, 24, [.int .i64 p0_0, .int .i64 p0_1, .int .i64 p0_2, .slice a18 ((l_5).length) c20]⟩], L17, L34, [⟨b36, 39, [.int .i64 y_6, .int .i64 y_7, .int .i64 y_8, .slice a31 ((y_9).length) c32]⟩], L41, [⟨b43, 39, [.int .i64 y_11, .int .i64 y_12, .int .i64 y_13, .slice a38 ((y_14).length) c39]⟩], L48, [⟨b50, 39, [.int .i64 y_16, .int .i64 y_17, .int .i64 y_18, .slice a45 ((y_19).length) c46]⟩]]) ?_ (fun hk52 => ?_)
          · refine WK_cond (b := s_21) rfl (fun hb53 => ?_) (fun hb53 => ?_)
            · have hm := ifT hb53 hm
              refine WK_seq ?_
              refine WK_region ?_
              refine WO_pure tbok 1 [(3, .pointer (some ⟨b3, 0, none⟩)), (6, .bool false), (7, .int .i64 (Int.tmod (w64 (p1)) 4)), (11, .pointer (some ⟨b36, 0, none⟩)), (13, .pointer (some ⟨b43, 0, none⟩)), (15, .pointer (some ⟨b50, 0, none⟩))] rfl ⟨rfl, rfl, rfl, rfl, rfl, rfl, trivial⟩ ?_
              refine WO_end ?_
              cases hm
              exact WK_ret (ret_out (L := []) (RLc_tmp rfl RLc_nil) (List.nil_sublist _) rfl)
            · have hm := ifF hb53 hm
              refine WK_skip ?_
              refine WK_seq ?_
              refine WK_seq ?_
              refine WK_region ?_
              refine WO_pure tbok 1 [(3, .pointer (some ⟨b3, 0, none⟩)), (6, .bool false), (7, .int .i64 (Int.tmod (w64 (p1)) 4)), (11, .pointer (some ⟨b36, 0, none⟩)), (13, .pointer (some ⟨b43, 0, none⟩)), (15, .pointer (some ⟨b50, 0, none⟩)), (148, .pointer (some ⟨b3, 3, none⟩))] rfl ⟨rfl, rfl, rfl, rfl, rfl, rfl, rfl, trivial⟩ ?_
              refine WO_loadB tbok 0 rfl rfl rfl rfl (fun _ h => h) rfl rfl ?_
              refine WO_pure tbok 2 [(3, .pointer (some ⟨b3, 0, none⟩)), (6, .bool false), (7, .int .i64 (Int.tmod (w64 (p1)) 4)), (11, .pointer (some ⟨b36, 0, none⟩)), (13, .pointer (some ⟨b43, 0, none⟩)), (15, .pointer (some ⟨b50, 0, none⟩)), (150, .int .i64 (p0_3.length : Int)), (151, .int .i64 0)] rfl ⟨rfl, rfl, rfl, rfl, rfl, rfl, rfl, rfl, trivial⟩ ?_
              refine WO_end ?_
              obtain ⟨x54, hx55, hm⟩ := bind_some hm
              refine WK_join (β := Unit × Unit) (fun p => Sum.inr p.1 = x54) (fun p => [(6, .bool false)]) (fun p => St w0 m m [[⟨b3, 24, [.int .i64 p0_0, .int .i64 p0_1, .int .i64 p0_2, .slice a_p0_3 p0_3.length c_p0_3]⟩], [⟨b9, 24, [.int .i64 p0_0, .int .i64 p0_1, .int .i64 p0_2, .slice a18 ((l_5).length) c20]⟩], L17, L34, [⟨b36, 39, [.int .i64 y_6, .int .i64 y_7, .int .i64 y_8, .slice a31 ((y_9).length) c32]⟩], L41, [⟨b43, 39, [.int .i64 y_11, .int .i64 y_12, .int .i64 y_13, .slice a38 ((y_14).length) c39]⟩], L48, [⟨b50, 39, [.int .i64 y_16, .int .i64 y_17, .int .i64 y_18, .slice a45 ((y_19).length) c46]⟩]]) ?_ (fun hk56 => ?_)
              · rintro ⟨⟨⟩, ⟨⟩⟩ hq62
                subst hq62
                refine WK.sub (e' := [(6, .bool false)]) ⟨rfl, trivial⟩ (WK.cls (C' := St w0 m m [[⟨b3, 24, [.int .i64 p0_0, .int .i64 p0_1, .int .i64 p0_2, .slice a_p0_3 p0_3.length c_p0_3]⟩], [⟨b9, 24, [.int .i64 p0_0, .int .i64 p0_1, .int .i64 p0_2, .slice a18 ((l_5).length) c20]⟩], L17, L34, [⟨b36, 39, [.int .i64 y_6, .int .i64 y_7, .int .i64 y_8, .slice a31 ((y_9).length) c32]⟩], L41, [⟨b43, 39, [.int .i64 y_11, .int .i64 y_12, .int .i64 y_13, .slice a38 ((y_14).length) c39]⟩], L48, [⟨b50, 39, [.int .i64 y_16, .int .i64 y_17, .int .i64 y_18, .slice a45 ((y_19).length) c46]⟩]]) (fun _ h => h) ?_)
                refine WK_seq ?_
                refine WK_region ?_
                refine WO_pure tbok 1 [(6, .bool true)] rfl ⟨rfl, trivial⟩ ?_
                refine WO_end ?_
                cases hm
                exact WK_ret (ret_out (L := []) (RLc_tmp rfl RLc_nil) (List.nil_sublist _) rfl)
              · refine WK_block ?_
                refine WK_loop (S := Int) (G := Unit) (fun s => fiduciallaw44_CensusShifted_s2 p0_0 p0_3 p1 y_9 y_14 y_19 s) (fun s g => [(3, .pointer (some ⟨b3, 0, none⟩)), (6, .bool false), (7, .int .i64 (Int.tmod (w64 (p1)) 4)), (11, .pointer (some ⟨b36, 0, none⟩)), (13, .pointer (some ⟨b43, 0, none⟩)), (15, .pointer (some ⟨b50, 0, none⟩)), (150, .int .i64 (p0_3.length : Int)), (151, .int .i64 s)]) (fun s g => St w0 m m [[⟨b3, 24, [.int .i64 p0_0, .int .i64 p0_1, .int .i64 p0_2, .slice a_p0_3 p0_3.length c_p0_3]⟩], [⟨b9, 24, [.int .i64 p0_0, .int .i64 p0_1, .int .i64 p0_2, .slice a18 ((l_5).length) c20]⟩], L17, L34, [⟨b36, 39, [.int .i64 y_6, .int .i64 y_7, .int .i64 y_8, .slice a31 ((y_9).length) c32]⟩], L41, [⟨b43, 39, [.int .i64 y_11, .int .i64 y_12, .int .i64 y_13, .slice a38 ((y_14).length) c39]⟩], L48, [⟨b50, 39, [.int .i64 y_16, .int .i64 y_17, .int .i64 y_18, .slice a45 ((y_19).length) c46]⟩]]) (fun s g => True) FUEL 0 () x54 hx55 trivial ⟨rfl, rfl, rfl, rfl, rfl, rfl, rfl, rfl, trivial⟩ (fun _ h => h) ?_
                rintro s_22 ⟨⟩ o58 fl59 hm57 - hn60 hd61
                have hm57 : fiduciallaw44_CensusShifted_s2 p0_0 p0_3 p1 y_9 y_14 y_19 s_22 = some o58 := hm57
                unfold fiduciallaw44_CensusShifted_s2 at hm57
                refine WK.sub (e' := [(3, .pointer (some ⟨b3, 0, none⟩)), (6, .bool false), (7, .int .i64 (Int.tmod (w64 (p1)) 4)), (11, .pointer (some ⟨b36, 0, none⟩)), (13, .pointer (some ⟨b43, 0, none⟩)), (15, .pointer (some ⟨b50, 0, none⟩)), (150, .int .i64 (p0_3.length : Int)), (151, .int .i64 s_22)]) ⟨rfl, rfl, rfl, rfl, rfl, rfl, rfl, rfl, trivial⟩ (WK.cls (C' := St w0 m m [[⟨b3, 24, [.int .i64 p0_0, .int .i64 p0_1, .int .i64 p0_2, .slice a_p0_3 p0_3.length c_p0_3]⟩], [⟨b9, 24, [.int .i64 p0_0, .int .i64 p0_1, .int .i64 p0_2, .slice a18 ((l_5).length) c20]⟩], L17, L34, [⟨b36, 39, [.int .i64 y_6, .int .i64 y_7, .int .i64 y_8, .slice a31 ((y_9).length) c32]⟩], L41, [⟨b43, 39, [.int .i64 y_11, .int .i64 y_12, .int .i64 y_13, .slice a38 ((y_14).length) c39]⟩], L48, [⟨b50, 39, [.int .i64 y_16, .int .i64 y_17, .int .i64 y_18, .slice a45 ((y_19).length) c46]⟩]]) (fun _ h => h) ?_)
                refine WK_seq ?_
                refine WK_region ?_
                refine WO_pure tbok 1 [(3, .pointer (some ⟨b3, 0, none⟩)), (6, .bool false), (7, .int .i64 (Int.tmod (w64 (p1)) 4)), (11, .pointer (some ⟨b36, 0, none⟩)), (13, .pointer (some ⟨b43, 0, none⟩)), (15, .pointer (some ⟨b50, 0, none⟩)), (150, .int .i64 (p0_3.length : Int)), (151, .int .i64 s_22), (152, .bool (decide (s_22 < (p0_3.length : Int))))] rfl ⟨rfl, rfl, rfl, rfl, rfl, rfl, rfl, rfl, rfl, trivial⟩ ?_
                refine WO_end ?_
                refine WK_seq ?_
                refine WK_cond (b := decide (s_22 < (p0_3.length : Int))) rfl (fun hb63 => ?_) (fun hb63 => ?_)
                · have hm57 := ifT hb63 hm57
                  refine WK_skip ?_
                  refine WK_seq ?_
                  refine WK_block ?_
                  refine WK_seq ?_
                  refine WK_region ?_
                  refine WO_pure tbok 2 [(3, .pointer (some ⟨b3, 0, none⟩)), (6, .bool false), (7, .int .i64 (Int.tmod (w64 (p1)) 4)), (11, .pointer (some ⟨b36, 0, none⟩)), (13, .pointer (some ⟨b43, 0, none⟩)), (15, .pointer (some ⟨b50, 0, none⟩)), (17, .int .i64 s_22), (150, .int .i64 (p0_3.length : Int)), (151, .int .i64 s_22)] rfl ⟨rfl, rfl, rfl, rfl, rfl, rfl, rfl, rfl, rfl, trivial⟩ ?_
                  refine WO_end ?_
                  refine WK_seq ?_
                  refine WK_region ?_
                  refine WO_pure tbok 2 [(3, .pointer (some ⟨b3, 0, none⟩)), (6, .bool false), (7, .int .i64 (Int.tmod (w64 (p1)) 4)), (11, .pointer (some ⟨b36, 0, none⟩)), (13, .pointer (some ⟨b43, 0, none⟩)), (15, .pointer (some ⟨b50, 0, none⟩)), (17, .int .i64 s_22), (150, .int .i64 (p0_3.length : Int)), (151, .int .i64 s_22), (154, .int .i64 s_22), (155, .pointer (some ⟨b3, 0, none⟩))] rfl ⟨rfl, rfl, rfl, rfl, rfl, rfl, rfl, rfl, rfl, rfl, rfl, trivial⟩ ?_
                  refine WO_loadB tbok 0 rfl rfl rfl rfl (fun _ h => h) rfl rfl ?_
                  obtain ⟨hc64, hm57⟩ := chk_some hm57
                  refine WO_rem rfl rfl rfl rfl rfl hc64 ?_
                  refine WO_pure tbok 1 [(3, .pointer (some ⟨b3, 0, none⟩)), (6, .bool false), (7, .int .i64 (Int.tmod (w64 (p1)) 4)), (11, .pointer (some ⟨b36, 0, none⟩)), (13, .pointer (some ⟨b43, 0, none⟩)), (15, .pointer (some ⟨b50, 0, none⟩)), (17, .int .i64 s_22), (18, .int .i64 (Int.tmod s_22 p0_0)), (150, .int .i64 (p0_3.length : Int)), (151, .int .i64 s_22)] rfl ⟨rfl, rfl, rfl, rfl, rfl, rfl, rfl, rfl, rfl, rfl, trivial⟩ ?_
                  refine WO_end ?_
                  refine WK_seq ?_
                  refine WK_region ?_
                  refine WO_pure tbok 7 [(3, .pointer (some ⟨b3, 0, none⟩)), (6, .bool false), (7, .int .i64 (Int.tmod (w64 (p1)) 4)), (11, .pointer (some ⟨b36, 0, none⟩)), (13, .pointer (some ⟨b43, 0, none⟩)), (15, .pointer (some ⟨b50, 0, none⟩)), (18, .int .i64 (Int.tmod s_22 p0_0)), (19, .int .i64 (w64 ((w64 (s_22 * (w64 ((Int.tmod (w64 (p1)) 4) + 1)))) + (Int.tmod (w64 (p1)) 4)))), (150, .int .i64 (p0_3.length : Int)), (151, .int .i64 s_22)] rfl ⟨rfl, rfl, rfl, rfl, rfl, rfl, rfl, rfl, rfl, rfl, trivial⟩ ?_
                  refine WO_end ?_
                  refine WK_seq ?_
                  obtain ⟨s_23, hx65, hm57⟩ := bind_some hm57
                  refine WK_meet [(3, .pointer (some ⟨b3, 0, none⟩)), (6, .bool false), (7, .int .i64 (Int.tmod (w64 (p1)) 4)), (11, .pointer (some ⟨b36, 0, none⟩)), (13, .pointer (some ⟨b43, 0, none⟩)), (15, .pointer (some ⟨b50, 0, none⟩)), (150, .int .i64 (p0_3.length : Int)), (151, .int .i64 s_22), (216, .bool s_23)] (St w0 m m [[⟨b3, 24, [.int .i64 p0_0, .int .i64 p0_1, .int .i64 p0_2, .slice a_p0_3 p0_3.length c_p0_3]⟩], [⟨b9, 24, [.int .i64 p0_0, .int .i64 p0_1, .int .i64 p0_2, .slice a18 ((l_5).length) c20]⟩], L17, L34, [⟨b36, 39, [.int .i64 y_6, .int .i64 y_7, .int .i64 y_8, .slice a31 ((y_9).length) c32]⟩], L41, [⟨b43, 39, [.int .i64 y_11, .int .i64 y_12, .int .i64 y_13, .slice a38 ((y_14).length) c39]⟩], L48, [⟨b50, 39, [.int .i64 y_16, .int .i64 y_17, .int .i64 y_18, .slice a45 ((y_19).length) c46]⟩]]) ?_ (fun hk66 => ?_)
                  · refine WK_cond (b := s_23) rfl (fun hb67 => ?_) (fun hb67 => ?_)
                    · have hm57 := ifT hb67 hm57
                      refine WK_seq ?_
                      refine WK_region ?_
                      refine WO_pure tbok 1 [(3, .pointer (some ⟨b3, 0, none⟩)), (6, .bool false), (7, .int .i64 (Int.tmod (w64 (p1)) 4)), (11, .pointer (some ⟨b36, 0, none⟩)), (13, .pointer (some ⟨b43, 0, none⟩)), (15, .pointer (some ⟨b50, 0, none⟩)), (150, .int .i64 (p0_3.length : Int)), (151, .int .i64 s_22)] rfl ⟨rfl, rfl, rfl, rfl, rfl, rfl, rfl, rfl, trivial⟩ ?_
                      refine WO_end ?_
                      cases hm57
                      have hq := hd61 _ rfl
                      subst hq
                      have hm : some _ = some _ := hm
                      cases hm
                      exact WK_ret (ret_out (L := []) (RLc_tmp rfl RLc_nil) (List.nil_sublist _) rfl)
                    · have hm57 := ifF hb67 hm57
                      refine WK_skip ?_
                      refine WK_blk ?_
                      refine WK_region ?_
                      refine WO_pure tbok 2 [(3, .pointer (some ⟨b3, 0, none⟩)), (6, .bool false), (7, .int .i64 (Int.tmod (w64 (p1)) 4)), (11, .pointer (some ⟨b36, 0, none⟩)), (13, .pointer (some ⟨b43, 0, none⟩)), (15, .pointer (some ⟨b50, 0, none⟩)), (150, .int .i64 (p0_3.length : Int)), (151, .int .i64 (w64 (s_22 + 1)))] rfl ⟨rfl, rfl, rfl, rfl, rfl, rfl, rfl, rfl, trivial⟩ ?_
                      refine WO_end ?_
                      cases hm57
                      refine WK.sub ?_ (WK.cls (fun _ h => h) (hn60 _ () rfl trivial))
                      exact ⟨rfl, rfl, rfl, rfl, rfl, rfl, rfl, rfl, trivial⟩
                  · refine WK_region ?_
                    refine WO_pure tbok 4 [(3, .pointer (some ⟨b3, 0, none⟩)), (6, .bool false), (7, .int .i64 (Int.tmod (w64 (p1)) 4)), (11, .pointer (some ⟨b36, 0, none⟩)), (13, .pointer (some ⟨b43, 0, none⟩)), (15, .pointer (some ⟨b50, 0, none⟩)), (18, .int .i64 (Int.tmod s_22 p0_0)), (19, .int .i64 (w64 ((w64 (s_22 * (w64 ((Int.tmod (w64 (p1)) 4) + 1)))) + (Int.tmod (w64 (p1)) 4)))), (150, .int .i64 (p0_3.length : Int)), (151, .int .i64 s_22), (167, .bool (decide ((Int.tmod (w64 (p1)) 4) ≤ (Int.tmod s_22 p0_0))))] rfl ⟨rfl, rfl, rfl, rfl, rfl, rfl, rfl, rfl, rfl, rfl, rfl, trivial⟩ ?_
                    refine WO_split (d := 167) (b := decide ((Int.tmod (w64 (p1)) 4) ≤ (Int.tmod s_22 p0_0))) rfl (fun hb68 => ?_) (fun hb68 => ?_)
                    · have hx65 := ifT hb68 hx65
                      refine WO_pure tbok 1 [(3, .pointer (some ⟨b3, 0, none⟩)), (6, .bool false), (7, .int .i64 (Int.tmod (w64 (p1)) 4)), (11, .pointer (some ⟨b36, 0, none⟩)), (13, .pointer (some ⟨b43, 0, none⟩)), (15, .pointer (some ⟨b50, 0, none⟩)), (18, .int .i64 (Int.tmod s_22 p0_0)), (19, .int .i64 (w64 ((w64 (s_22 * (w64 ((Int.tmod (w64 (p1)) 4) + 1)))) + (Int.tmod (w64 (p1)) 4)))), (150, .int .i64 (p0_3.length : Int)), (151, .int .i64 s_22), (167, .bool true), (168, .pointer (some ⟨b36, 3, none⟩))] rfl ⟨rfl, rfl, rfl, rfl, rfl, rfl, rfl, rfl, rfl, rfl, rfl, rfl, trivial⟩ ?_
                      refine WO_loadB tbok 4 rfl rfl rfl rfl (fun _ h => h) rfl rfl ?_
                      refine WO_pure tbok 1 [(3, .pointer (some ⟨b3, 0, none⟩)), (6, .bool false), (7, .int .i64 (Int.tmod (w64 (p1)) 4)), (11, .pointer (some ⟨b36, 0, none⟩)), (13, .pointer (some ⟨b43, 0, none⟩)), (15, .pointer (some ⟨b50, 0, none⟩)), (18, .int .i64 (Int.tmod s_22 p0_0)), (19, .int .i64 (w64 ((w64 (s_22 * (w64 ((Int.tmod (w64 (p1)) 4) + 1)))) + (Int.tmod (w64 (p1)) 4)))), (150, .int .i64 (p0_3.length : Int)), (151, .int .i64 s_22), (167, .bool true), (169, .slice a31 ((y_9).length) c32), (170, .int .i64 (w64 ((w64 (s_22 * (w64 ((Int.tmod (w64 (p1)) 4) + 1)))) + (Int.tmod (w64 (p1)) 4))))] rfl ⟨rfl, rfl, rfl, rfl, rfl, rfl, rfl, rfl, rfl, rfl, rfl, rfl, rfl, trivial⟩ ?_
                      obtain ⟨v_24, hy69, hx65⟩ := bind_some hx65
                      obtain ⟨hc70, hy69⟩ := ix_some hy69
                      refine WO_index tbok rfl rfl rfl rfl rfl rfl rfl rfl (OwnE.addr hL34) (by simpa using hc70) ?_
                      refine WO_loadO (E := (I1 .i64)) tbok (fun _ => rfl) 3 rfl rfl rfl rfl (fun _ h => h) hL34 rfl hy69 rfl ?_
                      refine WO_pure tbok 3 [(3, .pointer (some ⟨b3, 0, none⟩)), (6, .bool false), (7, .int .i64 (Int.tmod (w64 (p1)) 4)), (11, .pointer (some ⟨b36, 0, none⟩)), (13, .pointer (some ⟨b43, 0, none⟩)), (15, .pointer (some ⟨b50, 0, none⟩)), (18, .int .i64 (Int.tmod s_22 p0_0)), (19, .int .i64 (w64 ((w64 (s_22 * (w64 ((Int.tmod (w64 (p1)) 4) + 1)))) + (Int.tmod (w64 (p1)) 4)))), (150, .int .i64 (p0_3.length : Int)), (151, .int .i64 s_22), (175, .bool (v_24 != 0))] rfl ⟨rfl, rfl, rfl, rfl, rfl, rfl, rfl, rfl, rfl, rfl, rfl, trivial⟩ ?_
                      refine WO_split (d := 175) (b := v_24 != 0) rfl (fun hb71 => ?_) (fun hb71 => ?_)
                      · have hx65 := ifT hb71 hx65
                        refine WO_pure tbok 41 [(3, .pointer (some ⟨b3, 0, none⟩)), (6, .bool false), (7, .int .i64 (Int.tmod (w64 (p1)) 4)), (11, .pointer (some ⟨b36, 0, none⟩)), (13, .pointer (some ⟨b43, 0, none⟩)), (15, .pointer (some ⟨b50, 0, none⟩)), (150, .int .i64 (p0_3.length : Int)), (151, .int .i64 s_22), (216, .bool true)] rfl ⟨rfl, rfl, rfl, rfl, rfl, rfl, rfl, rfl, rfl, trivial⟩ ?_
                        refine WO_end ?_
                        cases hx65
                        refine WK.sub ?_ (WK.cls (fun _ h => h) hk66)
                        exact ⟨rfl, rfl, rfl, rfl, rfl, rfl, rfl, rfl, rfl, trivial⟩
                      · have hx65 := ifF hb71 hx65
                        refine WO_pure tbok 5 [(3, .pointer (some ⟨b3, 0, none⟩)), (6, .bool false), (7, .int .i64 (Int.tmod (w64 (p1)) 4)), (11, .pointer (some ⟨b36, 0, none⟩)), (13, .pointer (some ⟨b43, 0, none⟩)), (15, .pointer (some ⟨b50, 0, none⟩)), (18, .int .i64 (Int.tmod s_22 p0_0)), (19, .int .i64 (w64 ((w64 (s_22 * (w64 ((Int.tmod (w64 (p1)) 4) + 1)))) + (Int.tmod (w64 (p1)) 4)))), (150, .int .i64 (p0_3.length : Int)), (151, .int .i64 s_22), (175, .bool false), (180, .bool (decide ((w64 ((Int.tmod (w64 (p1)) 4) + 1)) ≤ (Int.tmod s_22 p0_0))))] rfl ⟨rfl, rfl, rfl, rfl, rfl, rfl, rfl, rfl, rfl, rfl, rfl, rfl, trivial⟩ ?_
                        refine WO_split (d := 180) (b := decide ((w64 ((Int.tmod (w64 (p1)) 4) + 1)) ≤ (Int.tmod s_22 p0_0))) rfl (fun hb72 => ?_) (fun hb72 => ?_)
                        · have hx65 := ifT hb72 hx65
                          refine WO_pure tbok 2 [(3, .pointer (some ⟨b3, 0, none⟩)), (6, .bool false), (7, .int .i64 (Int.tmod (w64 (p1)) 4)), (11, .pointer (some ⟨b36, 0, none⟩)), (13, .pointer (some ⟨b43, 0, none⟩)), (15, .pointer (some ⟨b50, 0, none⟩)), (18, .int .i64 (Int.tmod s_22 p0_0)), (19, .int .i64 (w64 ((w64 (s_22 * (w64 ((Int.tmod (w64 (p1)) 4) + 1)))) + (Int.tmod (w64 (p1)) 4)))), (150, .int .i64 (p0_3.length : Int)), (151, .int .i64 s_22), (175, .bool false), (180, .bool true), (181, .int .i64 (Int.tmod s_22 p0_0)), (182, .pointer (some ⟨b3, 0, none⟩))] rfl ⟨rfl, rfl, rfl, rfl, rfl, rfl, rfl, rfl, rfl, rfl, rfl, rfl, rfl, rfl, trivial⟩ ?_
                          refine WO_loadB tbok 0 rfl rfl rfl rfl (fun _ h => h) rfl rfl ?_
                          refine WO_pure tbok 4 [(3, .pointer (some ⟨b3, 0, none⟩)), (6, .bool false), (7, .int .i64 (Int.tmod (w64 (p1)) 4)), (11, .pointer (some ⟨b36, 0, none⟩)), (13, .pointer (some ⟨b43, 0, none⟩)), (15, .pointer (some ⟨b50, 0, none⟩)), (18, .int .i64 (Int.tmod s_22 p0_0)), (19, .int .i64 (w64 ((w64 (s_22 * (w64 ((Int.tmod (w64 (p1)) 4) + 1)))) + (Int.tmod (w64 (p1)) 4)))), (150, .int .i64 (p0_3.length : Int)), (151, .int .i64 s_22), (175, .bool false), (187, .bool (decide ((Int.tmod s_22 p0_0) < (w64 (p0_0 - 1)))))] rfl ⟨rfl, rfl, rfl, rfl, rfl, rfl, rfl, rfl, rfl, rfl, rfl, rfl, trivial⟩ ?_
                          refine WO_split (d := 187) (b := decide ((Int.tmod s_22 p0_0) < (w64 (p0_0 - 1)))) rfl (fun hb73 => ?_) (fun hb73 => ?_)
                          · have hx65 := ifT hb73 hx65
                            refine WO_pure tbok 1 [(3, .pointer (some ⟨b3, 0, none⟩)), (6, .bool false), (7, .int .i64 (Int.tmod (w64 (p1)) 4)), (11, .pointer (some ⟨b36, 0, none⟩)), (13, .pointer (some ⟨b43, 0, none⟩)), (15, .pointer (some ⟨b50, 0, none⟩)), (18, .int .i64 (Int.tmod s_22 p0_0)), (19, .int .i64 (w64 ((w64 (s_22 * (w64 ((Int.tmod (w64 (p1)) 4) + 1)))) + (Int.tmod (w64 (p1)) 4)))), (150, .int .i64 (p0_3.length : Int)), (151, .int .i64 s_22), (175, .bool false), (187, .bool true), (188, .pointer (some ⟨b43, 3, none⟩))] rfl ⟨rfl, rfl, rfl, rfl, rfl, rfl, rfl, rfl, rfl, rfl, rfl, rfl, rfl, trivial⟩ ?_
                            refine WO_loadB tbok 6 rfl rfl rfl rfl (fun _ h => h) rfl rfl ?_
                            refine WO_pure tbok 1 [(3, .pointer (some ⟨b3, 0, none⟩)), (6, .bool false), (7, .int .i64 (Int.tmod (w64 (p1)) 4)), (11, .pointer (some ⟨b36, 0, none⟩)), (13, .pointer (some ⟨b43, 0, none⟩)), (15, .pointer (some ⟨b50, 0, none⟩)), (18, .int .i64 (Int.tmod s_22 p0_0)), (19, .int .i64 (w64 ((w64 (s_22 * (w64 ((Int.tmod (w64 (p1)) 4) + 1)))) + (Int.tmod (w64 (p1)) 4)))), (150, .int .i64 (p0_3.length : Int)), (151, .int .i64 s_22), (175, .bool false), (187, .bool true), (189, .slice a38 ((y_14).length) c39), (190, .int .i64 (w64 ((w64 (s_22 * (w64 ((Int.tmod (w64 (p1)) 4) + 1)))) + (Int.tmod (w64 (p1)) 4))))] rfl ⟨rfl, rfl, rfl, rfl, rfl, rfl, rfl, rfl, rfl, rfl, rfl, rfl, rfl, rfl, trivial⟩ ?_
                            obtain ⟨v_25, hy74, hx65⟩ := bind_some hx65
                            obtain ⟨hc75, hy74⟩ := ix_some hy74
                            refine WO_index tbok rfl rfl rfl rfl rfl rfl rfl rfl (OwnE.addr hL41) (by simpa using hc75) ?_
                            refine WO_loadO (E := (I1 .i64)) tbok (fun _ => rfl) 5 rfl rfl rfl rfl (fun _ h => h) hL41 rfl hy74 rfl ?_
                            refine WO_pure tbok 4 [(3, .pointer (some ⟨b3, 0, none⟩)), (6, .bool false), (7, .int .i64 (Int.tmod (w64 (p1)) 4)), (11, .pointer (some ⟨b36, 0, none⟩)), (13, .pointer (some ⟨b43, 0, none⟩)), (15, .pointer (some ⟨b50, 0, none⟩)), (18, .int .i64 (Int.tmod s_22 p0_0)), (19, .int .i64 (w64 ((w64 (s_22 * (w64 ((Int.tmod (w64 (p1)) 4) + 1)))) + (Int.tmod (w64 (p1)) 4)))), (150, .int .i64 (p0_3.length : Int)), (151, .int .i64 s_22), (196, .bool (v_25 != 0))] rfl ⟨rfl, rfl, rfl, rfl, rfl, rfl, rfl, rfl, rfl, rfl, rfl, trivial⟩ ?_
                            refine WO_split (d := 196) (b := v_25 != 0) rfl (fun hb76 => ?_) (fun hb76 => ?_)
                            · have hx65 := ifT hb76 hx65
                              refine WO_pure tbok 20 [(3, .pointer (some ⟨b3, 0, none⟩)), (6, .bool false), (7, .int .i64 (Int.tmod (w64 (p1)) 4)), (11, .pointer (some ⟨b36, 0, none⟩)), (13, .pointer (some ⟨b43, 0, none⟩)), (15, .pointer (some ⟨b50, 0, none⟩)), (150, .int .i64 (p0_3.length : Int)), (151, .int .i64 s_22), (216, .bool true)] rfl ⟨rfl, rfl, rfl, rfl, rfl, rfl, rfl, rfl, rfl, trivial⟩ ?_
                              refine WO_end ?_
                              cases hx65
                              refine WK.sub ?_ (WK.cls (fun _ h => h) hk66)
                              exact ⟨rfl, rfl, rfl, rfl, rfl, rfl, rfl, rfl, rfl, trivial⟩
                            · have hx65 := ifF hb76 hx65
                              refine WO_pure tbok 5 [(3, .pointer (some ⟨b3, 0, none⟩)), (6, .bool false), (7, .int .i64 (Int.tmod (w64 (p1)) 4)), (11, .pointer (some ⟨b36, 0, none⟩)), (13, .pointer (some ⟨b43, 0, none⟩)), (15, .pointer (some ⟨b50, 0, none⟩)), (18, .int .i64 (Int.tmod s_22 p0_0)), (19, .int .i64 (w64 ((w64 (s_22 * (w64 ((Int.tmod (w64 (p1)) 4) + 1)))) + (Int.tmod (w64 (p1)) 4)))), (150, .int .i64 (p0_3.length : Int)), (151, .int .i64 s_22), (196, .bool false), (201, .bool (decide ((w64 ((Int.tmod (w64 (p1)) 4) + 2)) ≤ (Int.tmod s_22 p0_0))))] rfl ⟨rfl, rfl, rfl, rfl, rfl, rfl, rfl, rfl, rfl, rfl, rfl, rfl, trivial⟩ ?_
                              refine WO_split (d := 201) (b := decide ((w64 ((Int.tmod (w64 (p1)) 4) + 2)) ≤ (Int.tmod s_22 p0_0))) rfl (fun hb77 => ?_) (fun hb77 => ?_)
                              · have hx65 := ifT hb77 hx65
                                refine WO_pure tbok 2 [(3, .pointer (some ⟨b3, 0, none⟩)), (6, .bool false), (7, .int .i64 (Int.tmod (w64 (p1)) 4)), (11, .pointer (some ⟨b36, 0, none⟩)), (13, .pointer (some ⟨b43, 0, none⟩)), (15, .pointer (some ⟨b50, 0, none⟩)), (19, .int .i64 (w64 ((w64 (s_22 * (w64 ((Int.tmod (w64 (p1)) 4) + 1)))) + (Int.tmod (w64 (p1)) 4)))), (150, .int .i64 (p0_3.length : Int)), (151, .int .i64 s_22), (196, .bool false), (201, .bool true), (202, .int .i64 (Int.tmod s_22 p0_0)), (203, .pointer (some ⟨b3, 0, none⟩))] rfl ⟨rfl, rfl, rfl, rfl, rfl, rfl, rfl, rfl, rfl, rfl, rfl, rfl, rfl, trivial⟩ ?_
                                refine WO_loadB tbok 0 rfl rfl rfl rfl (fun _ h => h) rfl rfl ?_
                                refine WO_pure tbok 4 [(3, .pointer (some ⟨b3, 0, none⟩)), (6, .bool false), (7, .int .i64 (Int.tmod (w64 (p1)) 4)), (11, .pointer (some ⟨b36, 0, none⟩)), (13, .pointer (some ⟨b43, 0, none⟩)), (15, .pointer (some ⟨b50, 0, none⟩)), (19, .int .i64 (w64 ((w64 (s_22 * (w64 ((Int.tmod (w64 (p1)) 4) + 1)))) + (Int.tmod (w64 (p1)) 4)))), (150, .int .i64 (p0_3.length : Int)), (151, .int .i64 s_22), (196, .bool false), (208, .bool (decide ((Int.tmod s_22 p0_0) < (w64 (p0_0 - 2)))))] rfl ⟨rfl, rfl, rfl, rfl, rfl, rfl, rfl, rfl, rfl, rfl, rfl, trivial⟩ ?_
                                refine WO_split (d := 208) (b := decide ((Int.tmod s_22 p0_0) < (w64 (p0_0 - 2)))) rfl (fun hb78 => ?_) (fun hb78 => ?_)
                                · have hx65 := ifT hb78 hx65
                                  refine WO_pure tbok 1 [(3, .pointer (some ⟨b3, 0, none⟩)), (6, .bool false), (7, .int .i64 (Int.tmod (w64 (p1)) 4)), (11, .pointer (some ⟨b36, 0, none⟩)), (13, .pointer (some ⟨b43, 0, none⟩)), (15, .pointer (some ⟨b50, 0, none⟩)), (19, .int .i64 (w64 ((w64 (s_22 * (w64 ((Int.tmod (w64 (p1)) 4) + 1)))) + (Int.tmod (w64 (p1)) 4)))), (150, .int .i64 (p0_3.length : Int)), (151, .int .i64 s_22), (196, .bool false), (208, .bool true), (209, .pointer (some ⟨b50, 3, none⟩))] rfl ⟨rfl, rfl, rfl, rfl, rfl, rfl, rfl, rfl, rfl, rfl, rfl, rfl, trivial⟩ ?_
                                  refine WO_loadB tbok 8 rfl rfl rfl rfl (fun _ h => h) rfl rfl ?_
                                  refine WO_pure tbok 1 [(3, .pointer (some ⟨b3, 0, none⟩)), (6, .bool false), (7, .int .i64 (Int.tmod (w64 (p1)) 4)), (11, .pointer (some ⟨b36, 0, none⟩)), (13, .pointer (some ⟨b43, 0, none⟩)), (15, .pointer (some ⟨b50, 0, none⟩)), (150, .int .i64 (p0_3.length : Int)), (151, .int .i64 s_22), (196, .bool false), (208, .bool true), (210, .slice a45 ((y_19).length) c46), (211, .int .i64 (w64 ((w64 (s_22 * (w64 ((Int.tmod (w64 (p1)) 4) + 1)))) + (Int.tmod (w64 (p1)) 4))))] rfl ⟨rfl, rfl, rfl, rfl, rfl, rfl, rfl, rfl, rfl, rfl, rfl, rfl, trivial⟩ ?_
                                  obtain ⟨v_26, hy79, hx65⟩ := bind_some hx65
                                  obtain ⟨hc80, hy79⟩ := ix_some hy79
                                  refine WO_index tbok rfl rfl rfl rfl rfl rfl rfl rfl (OwnE.addr hL48) (by simpa using hc80) ?_
                                  refine WO_loadO (E := (I1 .i64)) tbok (fun _ => rfl) 7 rfl rfl rfl rfl (fun _ h => h) hL48 rfl hy79 rfl ?_
                                  refine WO_pure tbok 3 [(3, .pointer (some ⟨b3, 0, none⟩)), (6, .bool false), (7, .int .i64 (Int.tmod (w64 (p1)) 4)), (11, .pointer (some ⟨b36, 0, none⟩)), (13, .pointer (some ⟨b43, 0, none⟩)), (15, .pointer (some ⟨b50, 0, none⟩)), (150, .int .i64 (p0_3.length : Int)), (151, .int .i64 s_22), (216, .bool (v_26 != 0))] rfl ⟨rfl, rfl, rfl, rfl, rfl, rfl, rfl, rfl, rfl, trivial⟩ ?_
                                  refine WO_end ?_
                                  cases hx65
                                  refine WK.sub ?_ (WK.cls (fun _ h => h) hk66)
                                  exact ⟨rfl, rfl, rfl, rfl, rfl, rfl, rfl, rfl, rfl, trivial⟩
                                · have hx65 := ifF hb78 hx65
                                  refine WO_pure tbok 8 [(3, .pointer (some ⟨b3, 0, none⟩)), (6, .bool false), (7, .int .i64 (Int.tmod (w64 (p1)) 4)), (11, .pointer (some ⟨b36, 0, none⟩)), (13, .pointer (some ⟨b43, 0, none⟩)), (15, .pointer (some ⟨b50, 0, none⟩)), (150, .int .i64 (p0_3.length : Int)), (151, .int .i64 s_22), (216, .bool false)] rfl ⟨rfl, rfl, rfl, rfl, rfl, rfl, rfl, rfl, rfl, trivial⟩ ?_
                                  refine WO_end ?_
                                  cases hx65
                                  refine WK.sub ?_ (WK.cls (fun _ h => h) hk66)
                                  exact ⟨rfl, rfl, rfl, rfl, rfl, rfl, rfl, rfl, rfl, trivial⟩
                              · have hx65 := ifF hb77 hx65
                                refine WO_pure tbok 15 [(3, .pointer (some ⟨b3, 0, none⟩)), (6, .bool false), (7, .int .i64 (Int.tmod (w64 (p1)) 4)), (11, .pointer (some ⟨b36, 0, none⟩)), (13, .pointer (some ⟨b43, 0, none⟩)), (15, .pointer (some ⟨b50, 0, none⟩)), (150, .int .i64 (p0_3.length : Int)), (151, .int .i64 s_22), (216, .bool false)] rfl ⟨rfl, rfl, rfl, rfl, rfl, rfl, rfl, rfl, rfl, trivial⟩ ?_
                                refine WO_end ?_
                                cases hx65
                                refine WK.sub ?_ (WK.cls (fun _ h => h) hk66)
                                exact ⟨rfl, rfl, rfl, rfl, rfl, rfl, rfl, rfl, rfl, trivial⟩
                          · have hx65 := ifF hb73 hx65
                            refine WO_pure tbok 14 [(3, .pointer (some ⟨b3, 0, none⟩)), (6, .bool false), (7, .int .i64 (Int.tmod (w64 (p1)) 4)), (11, .pointer (some ⟨b36, 0, none⟩)), (13, .pointer (some ⟨b43, 0, none⟩)), (15, .pointer (some ⟨b50, 0, none⟩)), (18, .int .i64 (Int.tmod s_22 p0_0)), (19, .int .i64 (w64 ((w64 (s_22 * (w64 ((Int.tmod (w64 (p1)) 4) + 1)))) + (Int.tmod (w64 (p1)) 4)))), (150, .int .i64 (p0_3.length : Int)), (151, .int .i64 s_22), (196, .bool false), (201, .bool (decide ((w64 ((Int.tmod (w64 (p1)) 4) + 2)) ≤ (Int.tmod s_22 p0_0))))] rfl ⟨rfl, rfl, rfl, rfl, rfl, rfl, rfl, rfl, rfl, rfl, rfl, rfl, trivial⟩ ?_
                            refine WO_split (d := 201) (b := decide ((w64 ((Int.tmod (w64 (p1)) 4) + 2)) ≤ (Int.tmod s_22 p0_0))) rfl (fun hb81 => ?_) (fun hb81 => ?_)
                            · have hx65 := ifT hb81 hx65
                              refine WO_pure tbok 2 [(3, .pointer (some ⟨b3, 0, none⟩)), (6, .bool false), (7, .int .i64 (Int.tmod (w64 (p1)) 4)), (11, .pointer (some ⟨b36, 0, none⟩)), (13, .pointer (some ⟨b43, 0, none⟩)), (15, .pointer (some ⟨b50, 0, none⟩)), (19, .int .i64 (w64 ((w64 (s_22 * (w64 ((Int.tmod (w64 (p1)) 4) + 1)))) + (Int.tmod (w64 (p1)) 4)))), (150, .int .i64 (p0_3.length : Int)), (151, .int .i64 s_22), (196, .bool false), (201, .bool true), (202, .int .i64 (Int.tmod s_22 p0_0)), (203, .pointer (some ⟨b3, 0, none⟩))] rfl ⟨rfl, rfl, rfl, rfl, rfl, rfl, rfl, rfl, rfl, rfl, rfl, rfl, rfl, trivial⟩ ?_
                              refine WO_loadB tbok 0 rfl rfl rfl rfl (fun _ h => h) rfl rfl ?_
                              refine WO_pure tbok 4 [(3, .pointer (some ⟨b3, 0, none⟩)), (6, .bool false), (7, .int .i64 (Int.tmod (w64 (p1)) 4)), (11, .pointer (some ⟨b36, 0, none⟩)), (13, .pointer (some ⟨b43, 0, none⟩)), (15, .pointer (some ⟨b50, 0, none⟩)), (19, .int .i64 (w64 ((w64 (s_22 * (w64 ((Int.tmod (w64 (p1)) 4) + 1)))) + (Int.tmod (w64 (p1)) 4)))), (150, .int .i64 (p0_3.length : Int)), (151, .int .i64 s_22), (196, .bool false), (208, .bool (decide ((Int.tmod s_22 p0_0) < (w64 (p0_0 - 2)))))] rfl ⟨rfl, rfl, rfl, rfl, rfl, rfl, rfl, rfl, rfl, rfl, rfl, trivial⟩ ?_
                              refine WO_split (d := 208) (b := decide ((Int.tmod s_22 p0_0) < (w64 (p0_0 - 2)))) rfl (fun hb82 => ?_) (fun hb82 => ?_)
                              · have hx65 := ifT hb82 hx65
                                refine WO_pure tbok 1 [(3, .pointer (some ⟨b3, 0, none⟩)), (6, .bool false), (7, .int .i64 (Int.tmod (w64 (p1)) 4)), (11, .pointer (some ⟨b36, 0, none⟩)), (13, .pointer (some ⟨b43, 0, none⟩)), (15, .pointer (some ⟨b50, 0, none⟩)), (19, .int .i64 (w64 ((w64 (s_22 * (w64 ((Int.tmod (w64 (p1)) 4) + 1)))) + (Int.tmod (w64 (p1)) 4)))), (150, .int .i64 (p0_3.length : Int)), (151, .int .i64 s_22), (196, .bool false), (208, .bool true), (209, .pointer (some ⟨b50, 3, none⟩))] rfl ⟨rfl, rfl, rfl, rfl, rfl, rfl, rfl, rfl, rfl, rfl, rfl, rfl, trivial⟩ ?_
                                refine WO_loadB tbok 8 rfl rfl rfl rfl (fun _ h => h) rfl rfl ?_
                                refine WO_pure tbok 1 [(3, .pointer (some ⟨b3, 0, none⟩)), (6, .bool false), (7, .int .i64 (Int.tmod (w64 (p1)) 4)), (11, .pointer (some ⟨b36, 0, none⟩)), (13, .pointer (some ⟨b43, 0, none⟩)), (15, .pointer (some ⟨b50, 0, none⟩)), (150, .int .i64 (p0_3.length : Int)), (151, .int .i64 s_22), (196, .bool false), (208, .bool true), (210, .slice a45 ((y_19).length) c46), (211, .int .i64 (w64 ((w64 (s_22 * (w64 ((Int.tmod (w64 (p1)) 4) + 1)))) + (Int.tmod (w64 (p1)) 4))))] rfl ⟨rfl, rfl, rfl, rfl, rfl, rfl, rfl, rfl, rfl, rfl, rfl, rfl, trivial⟩ ?_
                                obtain ⟨v_27, hy83, hx65⟩ := bind_some hx65
                                obtain ⟨hc84, hy83⟩ := ix_some hy83
                                refine WO_index tbok rfl rfl rfl rfl rfl rfl rfl rfl (OwnE.addr hL48) (by simpa using hc84) ?_
                                refine WO_loadO (E := (I1 .i64)) tbok (fun _ => rfl) 7 rfl rfl rfl rfl (fun _ h => h) hL48 rfl hy83 rfl ?_
                                refine WO_pure tbok 3 [(3, .pointer (some ⟨b3, 0, none⟩)), (6, .bool false), (7, .int .i64 (Int.tmod (w64 (p1)) 4)), (11, .pointer (some ⟨b36, 0, none⟩)), (13, .pointer (some ⟨b43, 0, none⟩)), (15, .pointer (some ⟨b50, 0, none⟩)), (150, .int .i64 (p0_3.length : Int)), (151, .int .i64 s_22), (216, .bool (v_27 != 0))] rfl ⟨rfl, rfl, rfl, rfl, rfl, rfl, rfl, rfl, rfl, trivial⟩ ?_
                                refine WO_end ?_
                                cases hx65
                                refine WK.sub ?_ (WK.cls (fun _ h => h) hk66)
                                exact ⟨rfl, rfl, rfl, rfl, rfl, rfl, rfl, rfl, rfl, trivial⟩
                              · have hx65 := ifF hb82 hx65
                                refine WO_pure tbok 8 [(3, .pointer (some ⟨b3, 0, none⟩)), (6, .bool false), (7, .int .i64 (Int.tmod (w64 (p1)) 4)), (11, .pointer (some ⟨b36, 0, none⟩)), (13, .pointer (some ⟨b43, 0, none⟩)), (15, .pointer (some ⟨b50, 0, none⟩)), (150, .int .i64 (p0_3.length : Int)), (151, .int .i64 s_22), (216, .bool false)] rfl ⟨rfl, rfl, rfl, rfl, rfl, rfl, rfl, rfl, rfl, trivial⟩ ?_
                                refine WO_end ?_
                                cases hx65
                                refine WK.sub ?_ (WK.cls (fun _ h => h) hk66)
                                exact ⟨rfl, rfl, rfl, rfl, rfl, rfl, rfl, rfl, rfl, trivial⟩
                            · have hx65 := ifF hb81 hx65
                              refine WO_pure tbok 15 [(3, .pointer (some ⟨b3, 0, none⟩)), (6, .bool false), (7, .int .i64 (Int.tmod (w64 (p1)) 4)), (11, .pointer (some ⟨b36, 0, none⟩)), (13, .pointer (some ⟨b43, 0, none⟩)), (15, .pointer (some ⟨b50, 0, none⟩)), (150, .int .i64 (p0_3.length : Int)), (151, .int .i64 s_22), (216, .bool false)] rfl ⟨rfl, rfl, rfl, rfl, rfl, rfl, rfl, rfl, rfl, trivial⟩ ?_
                              refine WO_end ?_
                              cases hx65
                              refine WK.sub ?_ (WK.cls (fun _ h => h) hk66)
                              exact ⟨rfl, rfl, rfl, rfl, rfl, rfl, rfl, rfl, rfl, trivial⟩
                        · have hx65 := ifF hb72 hx65
                          refine WO_pure tbok 21 [(3, .pointer (some ⟨b3, 0, none⟩)), (6, .bool false), (7, .int .i64 (Int.tmod (w64 (p1)) 4)), (11, .pointer (some ⟨b36, 0, none⟩)), (13, .pointer (some ⟨b43, 0, none⟩)), (15, .pointer (some ⟨b50, 0, none⟩)), (18, .int .i64 (Int.tmod s_22 p0_0)), (19, .int .i64 (w64 ((w64 (s_22 * (w64 ((Int.tmod (w64 (p1)) 4) + 1)))) + (Int.tmod (w64 (p1)) 4)))), (150, .int .i64 (p0_3.length : Int)), (151, .int .i64 s_22), (196, .bool false), (201, .bool (decide ((w64 ((Int.tmod (w64 (p1)) 4) + 2)) ≤ (Int.tmod s_22 p0_0))))] rfl ⟨rfl, rfl, rfl, rfl, rfl, rfl, rfl, rfl, rfl, rfl, rfl, rfl, trivial⟩ ?_
                          refine WO_split (d := 201) (b := decide ((w64 ((Int.tmod (w64 (p1)) 4) + 2)) ≤ (Int.tmod s_22 p0_0))) rfl (fun hb85 => ?_) (fun hb85 => ?_)
                          · have hx65 := ifT hb85 hx65
                            refine WO_pure tbok 2 [(3, .pointer (some ⟨b3, 0, none⟩)), (6, .bool false), (7, .int .i64 (Int.tmod (w64 (p1)) 4)), (11, .pointer (some ⟨b36, 0, none⟩)), (13, .pointer (some ⟨b43, 0, none⟩)), (15, .pointer (some ⟨b50, 0, none⟩)), (19, .int .i64 (w64 ((w64 (s_22 * (w64 ((Int.tmod (w64 (p1)) 4) + 1)))) + (Int.tmod (w64 (p1)) 4)))), (150, .int .i64 (p0_3.length : Int)), (151, .int .i64 s_22), (196, .bool false), (201, .bool true), (202, .int .i64 (Int.tmod s_22 p0_0)), (203, .pointer (some ⟨b3, 0, none⟩))] rfl ⟨rfl, rfl, rfl, rfl, rfl, rfl, rfl, rfl, rfl, rfl, rfl, rfl, rfl, trivial⟩ ?_
                            refine WO_loadB tbok 0 rfl rfl rfl rfl (fun _ h => h) rfl rfl ?_
                            refine WO_pure tbok 4 [(3, .pointer (some ⟨b3, 0, none⟩)), (6, .bool false), (7, .int .i64 (Int.tmod (w64 (p1)) 4)), (11, .pointer (some ⟨b36, 0, none⟩)), (13, .pointer (some ⟨b43, 0, none⟩)), (15, .pointer (some ⟨b50, 0, none⟩)), (19, .int .i64 (w64 ((w64 (s_22 * (w64 ((Int.tmod (w64 (p1)) 4) + 1)))) + (Int.tmod (w64 (p1)) 4)))), (150, .int .i64 (p0_3.length : Int)), (151, .int .i64 s_22), (196, .bool false), (208, .bool (decide ((Int.tmod s_22 p0_0) < (w64 (p0_0 - 2)))))] rfl ⟨rfl, rfl, rfl, rfl, rfl, rfl, rfl, rfl, rfl, rfl, rfl, trivial⟩ ?_
                            refine WO_split (d := 208) (b := decide ((Int.tmod s_22 p0_0) < (w64 (p0_0 - 2)))) rfl (fun hb86 => ?_) (fun hb86 => ?_)
                            · have hx65 := ifT hb86 hx65
                              refine WO_pure tbok 1 [(3, .pointer (some ⟨b3, 0, none⟩)), (6, .bool false), (7, .int .i64 (Int.tmod (w64 (p1)) 4)), (11, .pointer (some ⟨b36, 0, none⟩)), (13, .pointer (some ⟨b43, 0, none⟩)), (15, .pointer (some ⟨b50, 0, none⟩)), (19, .int .i64 (w64 ((w64 (s_22 * (w64 ((Int.tmod (w64 (p1)) 4) + 1)))) + (Int.tmod (w64 (p1)) 4)))), (150, .int .i64 (p0_3.length : Int)), (151, .int .i64 s_22), (196, .bool false), (208, .bool true), (209, .pointer (some ⟨b50, 3, none⟩))] rfl ⟨rfl, rfl, rfl, rfl, rfl, rfl, rfl, rfl, rfl, rfl, rfl, rfl, trivial⟩ ?_
                              refine WO_loadB tbok 8 rfl rfl rfl rfl (fun _ h => h) rfl rfl ?_
                              refine WO_pure tbok 1 [(3, .pointer (some ⟨b3, 0, none⟩)), (6, .bool false), (7, .int .i64 (Int.tmod (w64 (p1)) 4)), (11, .pointer (some ⟨b36, 0, none⟩)), (13, .pointer (some ⟨b43, 0, none⟩)), (15, .pointer (some ⟨b50, 0, none⟩)), (150, .int .i64 (p0_3.length : Int)), (151, .int .i64 s_22), (196, .bool false), (208, .bool true), (210, .slice a45 ((y_19).length) c46), (211, .int .i64 (w64 ((w64 (s_22 * (w64 ((Int.tmod (w64 (p1)) 4) + 1)))) + (Int.tmod (w64 (p1)) 4))))] rfl ⟨rfl, rfl, rfl, rfl, rfl, rfl, rfl, rfl, rfl, rfl, rfl, rfl, trivial⟩ ?_
                              obtain ⟨v_28, hy87, hx65⟩ := bind_some hx65
                              obtain ⟨hc88, hy87⟩ := ix_some hy87
                              refine WO_index tbok rfl rfl rfl rfl rfl rfl rfl rfl (OwnE.addr hL48) (by simpa using hc88) ?_
                              refine WO_loadO (E := (I1 .i64)) tbok (fun _ => rfl) 7 rfl rfl rfl rfl (fun _ h => h) hL48 rfl hy87 rfl ?_
                              refine WO_pure tbok 3 [(3, .pointer (some ⟨b3, 0, none⟩)), (6, .bool false), (7, .int .i64 (Int.tmod (w64 (p1)) 4)), (11, .pointer (some ⟨b36, 0, none⟩)), (13, .pointer (some ⟨b43, 0, none⟩)), (15, .pointer (some ⟨b50, 0, none⟩)), (150, .int .i64 (p0_3.length : Int)), (151, .int .i64 s_22), (216, .bool (v_28 != 0))] rfl ⟨rfl, rfl, rfl, rfl, rfl, rfl, rfl, rfl, rfl, trivial⟩ ?_
                              refine WO_end ?_
                              cases hx65
                              refine WK.sub ?_ (WK.cls (fun _ h => h) hk66)
                              exact ⟨rfl, rfl, rfl, rfl, rfl, rfl, rfl, rfl, rfl, trivial⟩
                            · have hx65 := ifF hb86 hx65
                              refine WO_pure tbok 8 [(3, .pointer (some ⟨b3, 0, none⟩)), (6, .bool false), (7, .int .i64 (Int.tmod (w64 (p1)) 4)), (11, .pointer (some ⟨b36, 0, none⟩)), (13, .pointer (some ⟨b43, 0, none⟩)), (15, .pointer (some ⟨b50, 0, none⟩)), (150, .int .i64 (p0_3.length : Int)), (151, .int .i64 s_22), (216, .bool false)] rfl ⟨rfl, rfl, rfl, rfl, rfl, rfl, rfl, rfl, rfl, trivial⟩ ?_
                              refine WO_end ?_
                              cases hx65
                              refine WK.sub ?_ (WK.cls (fun _ h => h) hk66)
                              exact ⟨rfl, rfl, rfl, rfl, rfl, rfl, rfl, rfl, rfl, trivial⟩
                          · have hx65 := ifF hb85 hx65
                            refine WO_pure tbok 15 [(3, .pointer (some ⟨b3, 0, none⟩)), (6, .bool false), (7, .int .i64 (Int.tmod (w64 (p1)) 4)), (11, .pointer (some ⟨b36, 0, none⟩)), (13, .pointer (some ⟨b43, 0, none⟩)), (15, .pointer (some ⟨b50, 0, none⟩)), (150, .int .i64 (p0_3.length : Int)), (151, .int .i64 s_22), (216, .bool false)] rfl ⟨rfl, rfl, rfl, rfl, rfl, rfl, rfl, rfl, rfl, trivial⟩ ?_
                            refine WO_end ?_
                            cases hx65
                            refine WK.sub ?_ (WK.cls (fun _ h => h) hk66)
                            exact ⟨rfl, rfl, rfl, rfl, rfl, rfl, rfl, rfl, rfl, trivial⟩
                    · have hx65 := ifF hb68 hx65
                      refine WO_pure tbok 13 [(3, .pointer (some ⟨b3, 0, none⟩)), (6, .bool false), (7, .int .i64 (Int.tmod (w64 (p1)) 4)), (11, .pointer (some ⟨b36, 0, none⟩)), (13, .pointer (some ⟨b43, 0, none⟩)), (15, .pointer (some ⟨b50, 0, none⟩)), (18, .int .i64 (Int.tmod s_22 p0_0)), (19, .int .i64 (w64 ((w64 (s_22 * (w64 ((Int.tmod (w64 (p1)) 4) + 1)))) + (Int.tmod (w64 (p1)) 4)))), (150, .int .i64 (p0_3.length : Int)), (151, .int .i64 s_22), (175, .bool false), (180, .bool (decide ((w64 ((Int.tmod (w64 (p1)) 4) + 1)) ≤ (Int.tmod s_22 p0_0))))] rfl ⟨rfl, rfl, rfl, rfl, rfl, rfl, rfl, rfl, rfl, rfl, rfl, rfl, trivial⟩ ?_
                      refine WO_split (d := 180) (b := decide ((w64 ((Int.tmod (w64 (p1)) 4) + 1)) ≤ (Int.tmod s_22 p0_0))) rfl (fun hb89 => ?_) (fun hb89 => ?_)
                      · have hx65 := ifT hb89 hx65
                        refine WO_pure tbok 2 [(3, .pointer (some ⟨b3, 0, none⟩)), (6, .bool false), (7, .int .i64 (Int.tmod (w64 (p1)) 4)), (11, .pointer (some ⟨b36, 0, none⟩)), (13, .pointer (some ⟨b43, 0, none⟩)), (15, .pointer (some ⟨b50, 0, none⟩)), (18, .int .i64 (Int.tmod s_22 p0_0)), (19, .int .i64 (w64 ((w64 (s_22 * (w64 ((Int.tmod (w64 (p1)) 4) + 1)))) + (Int.tmod (w64 (p1)) 4)))), (150, .int .i64 (p0_3.length : Int)), (151, .int .i64 s_22), (175, .bool false), (180, .bool true), (181, .int .i64 (Int.tmod s_22 p0_0)), (182, .pointer (some ⟨b3, 0, none⟩))] rfl ⟨rfl, rfl, rfl, rfl, rfl, rfl, rfl, rfl, rfl, rfl, rfl, rfl, rfl, rfl, trivial⟩ ?_
                        refine WO_loadB tbok 0 rfl rfl rfl rfl (fun _ h => h) rfl rfl ?_
                        refine WO_pure tbok 4 [(3, .pointer (some ⟨b3, 0, none⟩)), (6, .bool false), (7, .int .i64 (Int.tmod (w64 (p1)) 4)), (11, .pointer (some ⟨b36, 0, none⟩)), (13, .pointer (some ⟨b43, 0, none⟩)), (15, .pointer (some ⟨b50, 0, none⟩)), (18, .int .i64 (Int.tmod s_22 p0_0)), (19, .int .i64 (w64 ((w64 (s_22 * (w64 ((Int.tmod (w64 (p1)) 4) + 1)))) + (Int.tmod (w64 (p1)) 4)))), (150, .int .i64 (p0_3.length : Int)), (151, .int .i64 s_22), (175, .bool false), (187, .bool (decide ((Int.tmod s_22 p0_0) < (w64 (p0_0 - 1)))))] rfl ⟨rfl, rfl, rfl, rfl, rfl, rfl, rfl, rfl, rfl, rfl, rfl, rfl, trivial⟩ ?_
                        refine WO_split (d := 187) (b := decide ((Int.tmod s_22 p0_0) < (w64 (p0_0 - 1)))) rfl (fun hb90 => ?_) (fun hb90 => ?_)
                        · have hx65 := ifT hb90 hx65
                          refine WO_pure tbok 1 [(3, .pointer (some ⟨b3, 0, none⟩)), (6, .bool false), (7, .int .i64 (Int.tmod (w64 (p1)) 4)), (11, .pointer (some ⟨b36, 0, none⟩)), (13, .pointer (some ⟨b43, 0, none⟩)), (15, .pointer (some ⟨b50, 0, none⟩)), (18, .int .i64 (Int.tmod s_22 p0_0)), (19, .int .i64 (w64 ((w64 (s_22 * (w64 ((Int.tmod (w64 (p1)) 4) + 1)))) + (Int.tmod (w64 (p1)) 4)))), (150, .int .i64 (p0_3.length : Int)), (151, .int .i64 s_22), (175, .bool false), (187, .bool true), (188, .pointer (some ⟨b43, 3, none⟩))] rfl ⟨rfl, rfl, rfl, rfl, rfl, rfl, rfl, rfl, rfl, rfl, rfl, rfl, rfl, trivial⟩ ?_
                          refine WO_loadB tbok 6 rfl rfl rfl rfl (fun _ h => h) rfl rfl ?_
                          refine WO_pure tbok 1 [(3, .pointer (some ⟨b3, 0, none⟩)), (6, .bool false), (7, .int .i64 (Int.tmod (w64 (p1)) 4)), (11, .pointer (some ⟨b36, 0, none⟩)), (13, .pointer (some ⟨b43, 0, none⟩)), (15, .pointer (some ⟨b50, 0, none⟩)), (18, .int .i64 (Int.tmod s_22 p0_0)), (19, .int .i64 (w64 ((w64 (s_22 * (w64 ((Int.tmod (w64 (p1)) 4) + 1)))) + (Int.tmod (w64 (p1)) 4)))), (150, .int .i64 (p0_3.length : Int)), (151, .int .i64 s_22), (175, .bool false), (187, .bool true), (189, .slice a38 ((y_14).length) c39), (190, .int .i64 (w64 ((w64 (s_22 * (w64 ((Int.tmod (w64 (p1)) 4) + 1)))) + (Int.tmod (w64 (p1)) 4))))] rfl ⟨rfl, rfl, rfl, rfl, rfl, rfl, rfl, rfl, rfl, rfl, rfl, rfl, rfl, rfl, trivial⟩ ?_
                          obtain ⟨v_29, hy91, hx65⟩ := bind_some hx65
                          obtain ⟨hc92, hy91⟩ := ix_some hy91
                          refine WO_index tbok rfl rfl rfl rfl rfl rfl rfl rfl (OwnE.addr hL41) (by simpa using hc92) ?_
                          refine WO_loadO (E := (I1 .i64)) tbok (fun _ => rfl) 5 rfl rfl rfl rfl (fun _ h => h) hL41 rfl hy91 rfl ?_
                          refine WO_pure tbok 4 [(3, .pointer (some ⟨b3, 0, none⟩)), (6, .bool false), (7, .int .i64 (Int.tmod (w64 (p1)) 4)), (11, .pointer (some ⟨b36, 0, none⟩)), (13, .pointer (some ⟨b43, 0, none⟩)), (15, .pointer (some ⟨b50, 0, none⟩)), (18, .int .i64 (Int.tmod s_22 p0_0)), (19, .int .i64 (w64 ((w64 (s_22 * (w64 ((Int.tmod (w64 (p1)) 4) + 1)))) + (Int.tmod (w64 (p1)) 4)))), (150, .int .i64 (p0_3.length : Int)), (151, .int .i64 s_22), (196, .bool (v_29 != 0))] rfl ⟨rfl, rfl, rfl, rfl, rfl, rfl, rfl, rfl, rfl, rfl, rfl, trivial⟩ ?_
                          refine WO_split (d := 196) (b := v_29 != 0) rfl (fun hb93 => ?_) (fun hb93 => ?_)
                          · have hx65 := ifT hb93 hx65
                            refine WO_pure tbok 20 [(3, .pointer (some ⟨b3, 0, none⟩)), (6, .bool false), (7, .int .i64 (Int.tmod (w64 (p1)) 4)), (11, .pointer (some ⟨b36, 0, none⟩)), (13, .pointer (some ⟨b43, 0, none⟩)), (15, .pointer (some ⟨b50, 0, none⟩)), (150, .int .i64 (p0_3.length : Int)), (151, .int .i64 s_22), (216, .bool true)] rfl ⟨rfl, rfl, rfl, rfl, rfl, rfl, rfl, rfl, rfl, trivial⟩ ?_
                            refine WO_end ?_
                            cases hx65
                            refine WK.sub ?_ (WK.cls (fun _ h => h) hk66)
                            exact ⟨rfl, rfl, rfl, rfl, rfl, rfl, rfl, rfl, rfl, trivial⟩
                          · have hx65 := ifF hb93 hx65
                            refine WO_pure tbok 5 [(3, .pointer (some ⟨b3, 0, none⟩)), (6, .bool false), (7, .int .i64 (Int.tmod (w64 (p1)) 4)), (11, .pointer (some ⟨b36, 0, none⟩)), (13, .pointer (some ⟨b43, 0, none⟩)), (15, .pointer (some ⟨b50, 0, none⟩)), (18, .int .i64 (Int.tmod s_22 p0_0)), (19, .int .i64 (w64 ((w64 (s_22 * (w64 ((Int.tmod (w64 (p1)) 4) + 1)))) + (Int.tmod (w64 (p1)) 4)))), (150, .int .i64 (p0_3.length : Int)), (151, .int .i64 s_22), (196, .bool false), (201, .bool (decide ((w64 ((Int.tmod (w64 (p1)) 4) + 2)) ≤ (Int.tmod s_22 p0_0))))] rfl ⟨rfl, rfl, rfl, rfl, rfl, rfl, rfl, rfl, rfl, rfl, rfl, rfl, trivial⟩ ?_
                            refine WO_split (d := 201) (b := decide ((w64 ((Int.tmod (w64 (p1)) 4) + 2)) ≤ (Int.tmod s_22 p0_0))) rfl (fun hb94 => ?_) (fun hb94 => ?_)
                            · have hx65 := ifT hb94 hx65
                              refine WO_pure tbok 2 [(3, .pointer (some ⟨b3, 0, none⟩)), (6, .bool false), (7, .int .i64 (Int.tmod (w64 (p1)) 4)), (11, .pointer (some ⟨b36, 0, none⟩)), (13, .pointer (some ⟨b43, 0, none⟩)), (15, .pointer (some ⟨b50, 0, none⟩)), (19, .int .i64 (w64 ((w64 (s_22 * (w64 ((Int.tmod (w64 (p1)) 4) + 1)))) + (Int.tmod (w64 (p1)) 4)))), (150, .int .i64 (p0_3.length : Int)), (151, .int .i64 s_22), (196, .bool false), (201, .bool true), (202, .int .i64 (Int.tmod s_22 p0_0)), (203, .pointer (some ⟨b3, 0, none⟩))] rfl ⟨rfl, rfl, rfl, rfl, rfl, rfl, rfl, rfl, rfl, rfl, rfl, rfl, rfl, trivial⟩ ?_
                              refine WO_loadB tbok 0 rfl rfl rfl rfl (fun _ h => h) rfl rfl ?_
                              refine WO_pure tbok 4 [(3, .pointer (some ⟨b3, 0, none⟩)), (6, .bool false), (7, .int .i64 (Int.tmod (w64 (p1)) 4)), (11, .pointer (some ⟨b36, 0, none⟩)), (13, .pointer (some ⟨b43, 0, none⟩)), (15, .pointer (some ⟨b50, 0, none⟩)), (19, .int .i64 (w64 ((w64 (s_22 * (w64 ((Int.tmod (w64 (p1)) 4) + 1)))) + (Int.tmod (w64 (p1)) 4)))), (150, .int .i64 (p0_3.length : Int)), (151, .int .i64 s_22), (196, .bool false), (208, .bool (decide ((Int.tmod s_22 p0_0) < (w64 (p0_0 - 2)))))] rfl ⟨rfl, rfl, rfl, rfl, rfl, rfl, rfl, rfl, rfl, rfl, rfl, trivial⟩ ?_
                              refine WO_split (d := 208) (b := decide ((Int.tmod s_22 p0_0) < (w64 (p0_0 - 2)))) rfl (fun hb95 => ?_) (fun hb95 => ?_)
                              · have hx65 := ifT hb95 hx65
                                refine WO_pure tbok 1 [(3, .pointer (some ⟨b3, 0, none⟩)), (6, .bool false), (7, .int .i64 (Int.tmod (w64 (p1)) 4)), (11, .pointer (some ⟨b36, 0, none⟩)), (13, .pointer (some ⟨b43, 0, none⟩)), (15, .pointer (some ⟨b50, 0, none⟩)), (19, .int .i64 (w64 ((w64 (s_22 * (w64 ((Int.tmod (w64 (p1)) 4) + 1)))) + (Int.tmod (w64 (p1)) 4)))), (150, .int .i64 (p0_3.length : Int)), (151, .int .i64 s_22), (196, .bool false), (208, .bool true), (209, .pointer (some ⟨b50, 3, none⟩))] rfl ⟨rfl, rfl, rfl, rfl, rfl, rfl, rfl, rfl, rfl, rfl, rfl, rfl, trivial⟩ ?_
                                refine WO_loadB tbok 8 rfl rfl rfl rfl (fun _ h => h) rfl rfl ?_
                                refine WO_pure tbok 1 [(3, .pointer (some ⟨b3, 0, none⟩)), (6, .bool false), (7, .int .i64 (Int.tmod (w64 (p1)) 4)), (11, .pointer (some ⟨b36, 0, none⟩)), (13, .pointer (some ⟨b43, 0, none⟩)), (15, .pointer (some ⟨b50, 0, none⟩)), (150, .int .i64 (p0_3.length : Int)), (151, .int .i64 s_22), (196, .bool false), (208, .bool true), (210, .slice a45 ((y_19).length) c46), (211, .int .i64 (w64 ((w64 (s_22 * (w64 ((Int.tmod (w64 (p1)) 4) + 1)))) + (Int.tmod (w64 (p1)) 4))))] rfl ⟨rfl, rfl, rfl, rfl, rfl, rfl, rfl, rfl, rfl, rfl, rfl, rfl, trivial⟩ ?_
                                obtain ⟨v_30, hy96, hx65⟩ := bind_some hx65
                                obtain ⟨hc97, hy96⟩ := ix_some hy96
                                refine WO_index tbok rfl rfl rfl rfl rfl rfl rfl rfl (OwnE.addr hL48) (by simpa using hc97) ?_
                                refine WO_loadO (E := (I1 .i64)) tbok (fun _ => rfl) 7 rfl rfl rfl rfl (fun _ h => h) hL48 rfl hy96 rfl ?_
                                refine WO_pure tbok 3 [(3, .pointer (some ⟨b3, 0, none⟩)), (6, .bool false), (7, .int .i64 (Int.tmod (w64 (p1)) 4)), (11, .pointer (some ⟨b36, 0, none⟩)), (13, .pointer (some ⟨b43, 0, none⟩)), (15, .pointer (some ⟨b50, 0, none⟩)), (150, .int .i64 (p0_3.length : Int)), (151, .int .i64 s_22), (216, .bool (v_30 != 0))] rfl ⟨rfl, rfl, rfl, rfl, rfl, rfl, rfl, rfl, rfl, trivial⟩ ?_
                                refine WO_end ?_
                                cases hx65
                                refine WK.sub ?_ (WK.cls (fun _ h => h) hk66)
                                exact ⟨rfl, rfl, rfl, rfl, rfl, rfl, rfl, rfl, rfl, trivial⟩
                              · have hx65 := ifF hb95 hx65
                                refine WO_pure tbok 8 [(3, .pointer (some ⟨b3, 0, none⟩)), (6, .bool false), (7, .int .i64 (Int.tmod (w64 (p1)) 4)), (11, .pointer (some ⟨b36, 0, none⟩)), (13, .pointer (some ⟨b43, 0, none⟩)), (15, .pointer (some ⟨b50, 0, none⟩)), (150, .int .i64 (p0_3.length : Int)), (151, .int .i64 s_22), (216, .bool false)] rfl ⟨rfl, rfl, rfl, rfl, rfl, rfl, rfl, rfl, rfl, trivial⟩ ?_
                                refine WO_end ?_
                                cases hx65
                                refine WK.sub ?_ (WK.cls (fun _ h => h) hk66)
                                exact ⟨rfl, rfl, rfl, rfl, rfl, rfl, rfl, rfl, rfl, trivial⟩
                            · have hx65 := ifF hb94 hx65
                              refine WO_pure tbok 15 [(3, .pointer (some ⟨b3, 0, none⟩)), (6, .bool false), (7, .int .i64 (Int.tmod (w64 (p1)) 4)), (11, .pointer (some ⟨b36, 0, none⟩)), (13, .pointer (some ⟨b43, 0, none⟩)), (15, .pointer (some ⟨b50, 0, none⟩)), (150, .int .i64 (p0_3.length : Int)), (151, .int .i64 s_22), (216, .bool false)] rfl ⟨rfl, rfl, rfl, rfl, rfl, rfl, rfl, rfl, rfl, trivial⟩ ?_
                              refine WO_end ?_
                              cases hx65
                              refine WK.sub ?_ (WK.cls (fun _ h => h) hk66)
                              exact ⟨rfl, rfl, rfl, rfl, rfl, rfl, rfl, rfl, rfl, trivial⟩
                        · have hx65 := ifF hb90 hx65
                          refine WO_pure tbok 14 [(3, .pointer (some ⟨b3, 0, none⟩)), (6, .bool false), (7, .int .i64 (Int.tmod (w64 (p1)) 4)), (11, .pointer (some ⟨b36, 0, none⟩)), (13, .pointer (some ⟨b43, 0, none⟩)), (15, .pointer (some ⟨b50, 0, none⟩)), (18, .int .i64 (Int.tmod s_22 p0_0)), (19, .int .i64 (w64 ((w64 (s_22 * (w64 ((Int.tmod (w64 (p1)) 4) + 1)))) + (Int.tmod (w64 (p1)) 4)))), (150, .int .i64 (p0_3.length : Int)), (151, .int .i64 s_22), (196, .bool false), (201, .bool (decide ((w64 ((Int.tmod (w64 (p1)) 4) + 2)) ≤ (Int.tmod s_22 p0_0))))] rfl ⟨rfl, rfl, rfl, rfl, rfl, rfl, rfl, rfl, rfl, rfl, rfl, rfl, trivial⟩ ?_
                          refine WO_split (d := 201) (b := decide ((w64 ((Int.tmod (w64 (p1)) 4) + 2)) ≤ (Int.tmod s_22 p0_0))) rfl (fun hb98 => ?_) (fun hb98 => ?_)
                          · have hx65 := ifT hb98 hx65
                            refine WO_pure tbok 2 [(3, .pointer (some ⟨b3, 0, none⟩)), (6, .bool false), (7, .int .i64 (Int.tmod (w64 (p1)) 4)), (11, .pointer (some ⟨b36, 0, none⟩)), (13, .pointer (some ⟨b43, 0, none⟩)), (15, .pointer (some ⟨b50, 0, none⟩)), (19, .int .i64 (w64 ((w64 (s_22 * (w64 ((Int.tmod (w64 (p1)) 4) + 1)))) + (Int.tmod (w64 (p1)) 4)))), (150, .int .i64 (p0_3.length : Int)), (151, .int .i64 s_22), (196, .bool false), (201, .bool true), (202, .int .i64 (Int.tmod s_22 p0_0)), (203, .pointer (some ⟨b3, 0, none⟩))] rfl ⟨rfl, rfl, rfl, rfl, rfl, rfl, rfl, rfl, rfl, rfl, rfl, rfl, rfl, trivial⟩ ?_
                            refine WO_loadB tbok 0 rfl rfl rfl rfl (fun _ h => h) rfl rfl ?_
                            refine WO_pure tbok 4 [(3, .pointer (some ⟨b3, 0, none⟩)), (6, .bool false), (7, .int .i64 (Int.tmod (w64 (p1)) 4)), (11, .pointer (some ⟨b36, 0, none⟩)), (13, .pointer (some ⟨b43, 0, none⟩)), (15, .pointer (some ⟨b50, 0, none⟩)), (19, .int .i64 (w64 ((w64 (s_22 * (w64 ((Int.tmod (w64 (p1)) 4) + 1)))) + (Int.tmod (w64 (p1)) 4)))), (150, .int .i64 (p0_3.length : Int)), (151, .int .i64 s_22), (196, .bool false), (208, .bool (decide ((Int.tmod s_22 p0_0) < (w64 (p0_0 - 2)))))] rfl ⟨rfl, rfl, rfl, rfl, rfl, rfl, rfl, rfl, rfl, rfl, rfl, trivial⟩ ?_
                            refine WO_split (d := 208) (b := decide ((Int.tmod s_22 p0_0) < (w64 (p0_0 - 2)))) rfl (fun hb99 => ?_) (fun hb99 => ?_)
                            · have hx65 := ifT hb99 hx65
                              refine WO_pure tbok 1 [(3, .pointer (some ⟨b3, 0, none⟩)), (6, .bool false), (7, .int .i64 (Int.tmod (w64 (p1)) 4)), (11, .pointer (some ⟨b36, 0, none⟩)), (13, .pointer (some ⟨b43, 0, none⟩)), (15, .pointer (some ⟨b50, 0, none⟩)), (19, .int .i64 (w64 ((w64 (s_22 * (w64 ((Int.tmod (w64 (p1)) 4) + 1)))) + (Int.tmod (w64 (p1)) 4)))), (150, .int .i64 (p0_3.length : Int)), (151, .int .i64 s_22), (196, .bool false), (208, .bool true), (209, .pointer (some ⟨b50, 3, none⟩))] rfl ⟨rfl, rfl, rfl, rfl, rfl, rfl, rfl, rfl, rfl, rfl, rfl, rfl, trivial⟩ ?_
                              refine WO_loadB tbok 8 rfl rfl rfl rfl (fun _ h => h) rfl rfl ?_
                              refine WO_pure tbok 1 [(3, .pointer (some ⟨b3, 0, none⟩)), (6, .bool false), (7, .int .i64 (Int.tmod (w64 (p1)) 4)), (11, .pointer (some ⟨b36, 0, none⟩)), (13, .pointer (some ⟨b43, 0, none⟩)), (15, .pointer (some ⟨b50, 0, none⟩)), (150, .int .i64 (p0_3.length : Int)), (151, .int .i64 s_22), (196, .bool false), (208, .bool true), (210, .slice a45 ((y_19).length) c46), (211, .int .i64 (w64 ((w64 (s_22 * (w64 ((Int.tmod (w64 (p1)) 4) + 1)))) + (Int.tmod (w64 (p1)) 4))))] rfl ⟨rfl, rfl, rfl, rfl, rfl, rfl, rfl, rfl, rfl, rfl, rfl, rfl, trivial⟩ ?_
                              obtain ⟨v_31, hy100, hx65⟩ := bind_some hx65
                              obtain ⟨hc101, hy100⟩ := ix_some hy100
                              refine WO_index tbok rfl rfl rfl rfl rfl rfl rfl rfl (OwnE.addr hL48) (by simpa using hc101) ?_
                              refine WO_loadO (E := (I1 .i64)) tbok (fun _ => rfl) 7 rfl rfl rfl rfl (fun _ h => h) hL48 rfl hy100 rfl ?_
                              refine WO_pure tbok 3 [(3, .pointer (some ⟨b3, 0, none⟩)), (6, .bool false), (7, .int .i64 (Int.tmod (w64 (p1)) 4)), (11, .pointer (some ⟨b36, 0, none⟩)), (13, .pointer (some ⟨b43, 0, none⟩)), (15, .pointer (some ⟨b50, 0, none⟩)), (150, .int .i64 (p0_3.length : Int)), (151, .int .i64 s_22), (216, .bool (v_31 != 0))] rfl ⟨rfl, rfl, rfl, rfl, rfl, rfl, rfl, rfl, rfl, trivial⟩ ?_
                              refine WO_end ?_
                              cases hx65
                              refine WK.sub ?_ (WK.cls (fun _ h => h) hk66)
                              exact ⟨rfl, rfl, rfl, rfl, rfl, rfl, rfl, rfl, rfl, trivial⟩
                            · have hx65 := ifF hb99 hx65
                              refine WO_pure tbok 8 [(3, .pointer (some ⟨b3, 0, none⟩)), (6, .bool false), (7, .int .i64 (Int.tmod (w64 (p1)) 4)), (11, .pointer (some ⟨b36, 0, none⟩)), (13, .pointer (some ⟨b43, 0, none⟩)), (15, .pointer (some ⟨b50, 0, none⟩)), (150, .int .i64 (p0_3.length : Int)), (151, .int .i64 s_22), (216, .bool false)] rfl ⟨rfl, rfl, rfl, rfl, rfl, rfl, rfl, rfl, rfl, trivial⟩ ?_
                              refine WO_end ?_
                              cases hx65
                              refine WK.sub ?_ (WK.cls (fun _ h => h) hk66)
                              exact ⟨rfl, rfl, rfl, rfl, rfl, rfl, rfl, rfl, rfl, trivial⟩
                          · have hx65 := ifF hb98 hx65
                            refine WO_pure tbok 15 [(3, .pointer (some ⟨b3, 0, none⟩)), (6, .bool false), (7, .int .i64 (Int.tmod (w64 (p1)) 4)), (11, .pointer (some ⟨b36, 0, none⟩)), (13, .pointer (some ⟨b43, 0, none⟩)), (15, .pointer (some ⟨b50, 0, none⟩)), (150, .int .i64 (p0_3.length : Int)), (151, .int .i64 s_22), (216, .bool false)] rfl ⟨rfl, rfl, rfl, rfl, rfl, rfl, rfl, rfl, rfl, trivial⟩ ?_
                            refine WO_end ?_
                            cases hx65
                            refine WK.sub ?_ (WK.cls (fun _ h => h) hk66)
                            exact ⟨rfl, rfl, rfl, rfl, rfl, rfl, rfl, rfl, rfl, trivial⟩
                      · have hx65 := ifF hb89 hx65
                        refine WO_pure tbok 21 [(3, .pointer (some ⟨b3, 0, none⟩)), (6, .bool false), (7, .int .i64 (Int.tmod (w64 (p1)) 4)), (11, .pointer (some ⟨b36, 0, none⟩)), (13, .pointer (some ⟨b43, 0, none⟩)), (15, .pointer (some ⟨b50, 0, none⟩)), (18, .int .i64 (Int.tmod s_22 p0_0)), (19, .int .i64 (w64 ((w64 (s_22 * (w64 ((Int.tmod (w64 (p1)) 4) + 1)))) + (Int.tmod (w64 (p1)) 4)))), (150, .int .i64 (p0_3.length : Int)), (151, .int .i64 s_22), (196, .bool false), (201, .bool (decide ((w64 ((Int.tmod (w64 (p1)) 4) + 2)) ≤ (Int.tmod s_22 p0_0))))] rfl ⟨rfl, rfl, rfl, rfl, rfl, rfl, rfl, rfl, rfl, rfl, rfl, rfl, trivial⟩ ?_
                        refine WO_split (d := 201) (b := decide ((w64 ((Int.tmod (w64 (p1)) 4) + 2)) ≤ (Int.tmod s_22 p0_0))) rfl (fun hb102 => ?_) (fun hb102 => ?_)
                        · have hx65 := ifT hb102 hx65
                          refine WO_pure tbok 2 [(3, .pointer (some ⟨b3, 0, none⟩)), (6, .bool false), (7, .int .i64 (Int.tmod (w64 (p1)) 4)), (11, .pointer (some ⟨b36, 0, none⟩)), (13, .pointer (some ⟨b43, 0, none⟩)), (15, .pointer (some ⟨b50, 0, none⟩)), (19, .int .i64 (w64 ((w64 (s_22 * (w64 ((Int.tmod (w64 (p1)) 4) + 1)))) + (Int.tmod (w64 (p1)) 4)))), (150, .int .i64 (p0_3.length : Int)), (151, .int .i64 s_22), (196, .bool false), (201, .bool true), (202, .int .i64 (Int.tmod s_22 p0_0)), (203, .pointer (some ⟨b3, 0, none⟩))] rfl ⟨rfl, rfl, rfl, rfl, rfl, rfl, rfl, rfl, rfl, rfl, rfl, rfl, rfl, trivial⟩ ?_
                          refine WO_loadB tbok 0 rfl rfl rfl rfl (fun _ h => h) rfl rfl ?_
                          refine WO_pure tbok 4 [(3, .pointer (some ⟨b3, 0, none⟩)), (6, .bool false), (7, .int .i64 (Int.tmod (w64 (p1)) 4)), (11, .pointer (some ⟨b36, 0, none⟩)), (13, .pointer (some ⟨b43, 0, none⟩)), (15, .pointer (some ⟨b50, 0, none⟩)), (19, .int .i64 (w64 ((w64 (s_22 * (w64 ((Int.tmod (w64 (p1)) 4) + 1)))) + (Int.tmod (w64 (p1)) 4)))), (150, .int .i64 (p0_3.length : Int)), (151, .int .i64 s_22), (196, .bool false), (208, .bool (decide ((Int.tmod s_22 p0_0) < (w64 (p0_0 - 2)))))] rfl ⟨rfl, rfl, rfl, rfl, rfl, rfl, rfl, rfl, rfl, rfl, rfl, trivial⟩ ?_
                          refine WO_split (d := 208) (b := decide ((Int.tmod s_22 p0_0) < (w64 (p0_0 - 2)))) rfl (fun hb103 => ?_) (fun hb103 => ?_)
                          · have hx65 := ifT hb103 hx65
                            refine WO_pure tbok 1 [(3, .pointer (some ⟨b3, 0, none⟩)), (6, .bool false), (7, .int .i64 (Int.tmod (w64 (p1)) 4)), (11, .pointer (some ⟨b36, 0, none⟩)), (13, .pointer (some ⟨b43, 0, none⟩)), (15, .pointer (some ⟨b50, 0, none⟩)), (19, .int .i64 (w64 ((w64 (s_22 * (w64 ((Int.tmod (w64 (p1)) 4) + 1)))) + (Int.tmod (w64 (p1)) 4)))), (150, .int .i64 (p0_3.length : Int)), (151, .int .i64 s_22), (196, .bool false), (208, .bool true), (209, .pointer (some ⟨b50, 3, none⟩))] rfl ⟨rfl, rfl, rfl, rfl, rfl, rfl, rfl, rfl, rfl, rfl, rfl, rfl, trivial⟩ ?_
                            refine WO_loadB tbok 8 rfl rfl rfl rfl (fun _ h => h) rfl rfl ?_
                            refine WO_pure tbok 1 [(3, .pointer (some ⟨b3, 0, none⟩)), (6, .bool false), (7, .int .i64 (Int.tmod (w64 (p1)) 4)), (11, .pointer (some ⟨b36, 0, none⟩)), (13, .pointer (some ⟨b43, 0, none⟩)), (15, .pointer (some ⟨b50, 0, none⟩)), (150, .int .i64 (p0_3.length : Int)), (151, .int .i64 s_22), (196, .bool false), (208, .bool true), (210, .slice a45 ((y_19).length) c46), (211, .int .i64 (w64 ((w64 (s_22 * (w64 ((Int.tmod (w64 (p1)) 4) + 1)))) + (Int.tmod (w64 (p1)) 4))))] rfl ⟨rfl, rfl, rfl, rfl, rfl, rfl, rfl, rfl, rfl, rfl, rfl, rfl, trivial⟩ ?_
                            obtain ⟨v_32, hy104, hx65⟩ := bind_some hx65
                            obtain ⟨hc105, hy104⟩ := ix_some hy104
                            refine WO_index tbok rfl rfl rfl rfl rfl rfl rfl rfl (OwnE.addr hL48) (by simpa using hc105) ?_
                            refine WO_loadO (E := (I1 .i64)) tbok (fun _ => rfl) 7 rfl rfl rfl rfl (fun _ h => h) hL48 rfl hy104 rfl ?_
                            refine WO_pure tbok 3 [(3, .pointer (some ⟨b3, 0, none⟩)), (6, .bool false), (7, .int .i64 (Int.tmod (w64 (p1)) 4)), (11, .pointer (some ⟨b36, 0, none⟩)), (13, .pointer (some ⟨b43, 0, none⟩)), (15, .pointer (some ⟨b50, 0, none⟩)), (150, .int .i64 (p0_3.length : Int)), (151, .int .i64 s_22), (216, .bool (v_32 != 0))] rfl ⟨rfl, rfl, rfl, rfl, rfl, rfl, rfl, rfl, rfl, trivial⟩ ?_
                            refine WO_end ?_
                            cases hx65
                            refine WK.sub ?_ (WK.cls (fun _ h => h) hk66)
                            exact ⟨rfl, rfl, rfl, rfl, rfl, rfl, rfl, rfl, rfl, trivial⟩
                          · have hx65 := ifF hb103 hx65
                            refine WO_pure tbok 8 [(3, .pointer (some ⟨b3, 0, none⟩)), (6, .bool false), (7, .int .i64 (Int.tmod (w64 (p1)) 4)), (11, .pointer (some ⟨b36, 0, none⟩)), (13, .pointer (some ⟨b43, 0, none⟩)), (15, .pointer (some ⟨b50, 0, none⟩)), (150, .int .i64 (p0_3.length : Int)), (151, .int .i64 s_22), (216, .bool false)] rfl ⟨rfl, rfl, rfl, rfl, rfl, rfl, rfl, rfl, rfl, trivial⟩ ?_
                            refine WO_end ?_
                            cases hx65
                            refine WK.sub ?_ (WK.cls (fun _ h => h) hk66)
                            exact ⟨rfl, rfl, rfl, rfl, rfl, rfl, rfl, rfl, rfl, trivial⟩
                        · have hx65 := ifF hb102 hx65
                          refine WO_pure tbok 15 [(3, .pointer (some ⟨b3, 0, none⟩)), (6, .bool false), (7, .int .i64 (Int.tmod (w64 (p1)) 4)), (11, .pointer (some ⟨b36, 0, none⟩)), (13, .pointer (some ⟨b43, 0, none⟩)), (15, .pointer (some ⟨b50, 0, none⟩)), (150, .int .i64 (p0_3.length : Int)), (151, .int .i64 s_22), (216, .bool false)] rfl ⟨rfl, rfl, rfl, rfl, rfl, rfl, rfl, rfl, rfl, trivial⟩ ?_
                          refine WO_end ?_
                          cases hx65
                          refine WK.sub ?_ (WK.cls (fun _ h => h) hk66)
                          exact ⟨rfl, rfl, rfl, rfl, rfl, rfl, rfl, rfl, rfl, trivial⟩
                · have hm57 := ifF hb63 hm57
                  refine WK_exit rfl ?_
                  cases hm57
                  refine WK.sub ?_ (WK.cls (fun _ h => h) (hk56 ((), ()) (hd61 _ rfl)))
                  exact ⟨rfl, trivial⟩
          · refine WK_region ?_
            refine WO_pure tbok 7 [(3, .pointer (some ⟨b3, 0, none⟩)), (6, .bool false), (7, .int .i64 (Int.tmod (w64 (p1)) 4)), (11, .pointer (some ⟨b36, 0, none⟩)), (13, .pointer (some ⟨b43, 0, none⟩)), (15, .pointer (some ⟨b50, 0, none⟩)), (118, .bool ((w64 ((w64 (y_10 + y_15)) + y_20)) != 0))] rfl ⟨rfl, rfl, rfl, rfl, rfl, rfl, rfl, trivial⟩ ?_
            refine WO_split (d := 118) (b := (w64 ((w64 (y_10 + y_15)) + y_20)) != 0) rfl (fun hb106 => ?_) (fun hb106 => ?_)
            · have hx51 := ifT hb106 hx51
              refine WO_pure tbok 29 [(3, .pointer (some ⟨b3, 0, none⟩)), (6, .bool false), (7, .int .i64 (Int.tmod (w64 (p1)) 4)), (11, .pointer (some ⟨b36, 0, none⟩)), (13, .pointer (some ⟨b43, 0, none⟩)), (15, .pointer (some ⟨b50, 0, none⟩)), (147, .bool true)] rfl ⟨rfl, rfl, rfl, rfl, rfl, rfl, rfl, trivial⟩ ?_
              refine WO_end ?_
              cases hx51
              refine WK.sub ?_ (WK.cls (fun _ h => h) hk52)
              exact ⟨rfl, rfl, rfl, rfl, rfl, rfl, rfl, trivial⟩
            · have hx51 := ifF hb106 hx51
              refine WO_pure tbok 1 [(3, .pointer (some ⟨b3, 0, none⟩)), (6, .bool false), (7, .int .i64 (Int.tmod (w64 (p1)) 4)), (11, .pointer (some ⟨b36, 0, none⟩)), (13, .pointer (some ⟨b43, 0, none⟩)), (15, .pointer (some ⟨b50, 0, none⟩)), (118, .bool false), (119, .pointer (some ⟨b36, 3, none⟩))] rfl ⟨rfl, rfl, rfl, rfl, rfl, rfl, rfl, rfl, trivial⟩ ?_
              refine WO_loadB tbok 4 rfl rfl rfl rfl (fun _ h => h) rfl rfl ?_
              refine WO_pure tbok 2 [(3, .pointer (some ⟨b3, 0, none⟩)), (6, .bool false), (7, .int .i64 (Int.tmod (w64 (p1)) 4)), (11, .pointer (some ⟨b36, 0, none⟩)), (13, .pointer (some ⟨b43, 0, none⟩)), (15, .pointer (some ⟨b50, 0, none⟩)), (118, .bool false), (121, .int .i64 ((y_9).length : Int)), (122, .pointer (some ⟨b3, 3, none⟩))] rfl ⟨rfl, rfl, rfl, rfl, rfl, rfl, rfl, rfl, rfl, trivial⟩ ?_
              refine WO_loadB tbok 0 rfl rfl rfl rfl (fun _ h => h) rfl rfl ?_
              refine WO_pure tbok 7 [(3, .pointer (some ⟨b3, 0, none⟩)), (6, .bool false), (7, .int .i64 (Int.tmod (w64 (p1)) 4)), (11, .pointer (some ⟨b36, 0, none⟩)), (13, .pointer (some ⟨b43, 0, none⟩)), (15, .pointer (some ⟨b50, 0, none⟩)), (130, .bool (((y_9).length : Int) != (w64 ((p0_3.length : Int) * (w64 ((Int.tmod (w64 (p1)) 4) + 1))))))] rfl ⟨rfl, rfl, rfl, rfl, rfl, rfl, rfl, trivial⟩ ?_
              refine WO_split (d := 130) (b := ((y_9).length : Int) != (w64 ((p0_3.length : Int) * (w64 ((Int.tmod (w64 (p1)) 4) + 1))))) rfl (fun hb107 => ?_) (fun hb107 => ?_)
              · have hx51 := ifT hb107 hx51
                refine WO_pure tbok 17 [(3, .pointer (some ⟨b3, 0, none⟩)), (6, .bool false), (7, .int .i64 (Int.tmod (w64 (p1)) 4)), (11, .pointer (some ⟨b36, 0, none⟩)), (13, .pointer (some ⟨b43, 0, none⟩)), (15, .pointer (some ⟨b50, 0, none⟩)), (147, .bool true)] rfl ⟨rfl, rfl, rfl, rfl, rfl, rfl, rfl, trivial⟩ ?_
                refine WO_end ?_
                cases hx51
                refine WK.sub ?_ (WK.cls (fun _ h => h) hk52)
                exact ⟨rfl, rfl, rfl, rfl, rfl, rfl, rfl, trivial⟩
              · have hx51 := ifF hb107 hx51
                refine WO_pure tbok 1 [(3, .pointer (some ⟨b3, 0, none⟩)), (6, .bool false), (7, .int .i64 (Int.tmod (w64 (p1)) 4)), (11, .pointer (some ⟨b36, 0, none⟩)), (13, .pointer (some ⟨b43, 0, none⟩)), (15, .pointer (some ⟨b50, 0, none⟩)), (130, .bool false), (131, .pointer (some ⟨b43, 3, none⟩))] rfl ⟨rfl, rfl, rfl, rfl, rfl, rfl, rfl, rfl, trivial⟩ ?_
                refine WO_loadB tbok 6 rfl rfl rfl rfl (fun _ h => h) rfl rfl ?_
                refine WO_pure tbok 2 [(3, .pointer (some ⟨b3, 0, none⟩)), (6, .bool false), (7, .int .i64 (Int.tmod (w64 (p1)) 4)), (11, .pointer (some ⟨b36, 0, none⟩)), (13, .pointer (some ⟨b43, 0, none⟩)), (15, .pointer (some ⟨b50, 0, none⟩)), (130, .bool false), (133, .int .i64 ((y_14).length : Int)), (134, .pointer (some ⟨b36, 3, none⟩))] rfl ⟨rfl, rfl, rfl, rfl, rfl, rfl, rfl, rfl, rfl, trivial⟩ ?_
                refine WO_loadB tbok 4 rfl rfl rfl rfl (fun _ h => h) rfl rfl ?_
                refine WO_pure tbok 4 [(3, .pointer (some ⟨b3, 0, none⟩)), (6, .bool false), (7, .int .i64 (Int.tmod (w64 (p1)) 4)), (11, .pointer (some ⟨b36, 0, none⟩)), (13, .pointer (some ⟨b43, 0, none⟩)), (15, .pointer (some ⟨b50, 0, none⟩)), (139, .bool (((y_14).length : Int) != ((y_9).length : Int)))] rfl ⟨rfl, rfl, rfl, rfl, rfl, rfl, rfl, trivial⟩ ?_
                refine WO_split (d := 139) (b := ((y_14).length : Int) != ((y_9).length : Int)) rfl (fun hb108 => ?_) (fun hb108 => ?_)
                · have hx51 := ifT hb108 hx51
                  refine WO_pure tbok 8 [(3, .pointer (some ⟨b3, 0, none⟩)), (6, .bool false), (7, .int .i64 (Int.tmod (w64 (p1)) 4)), (11, .pointer (some ⟨b36, 0, none⟩)), (13, .pointer (some ⟨b43, 0, none⟩)), (15, .pointer (some ⟨b50, 0, none⟩)), (147, .bool true)] rfl ⟨rfl, rfl, rfl, rfl, rfl, rfl, rfl, trivial⟩ ?_
                  refine WO_end ?_
                  cases hx51
                  refine WK.sub ?_ (WK.cls (fun _ h => h) hk52)
                  exact ⟨rfl, rfl, rfl, rfl, rfl, rfl, rfl, trivial⟩
                · have hx51 := ifF hb108 hx51
                  refine WO_pure tbok 1 [(3, .pointer (some ⟨b3, 0, none⟩)), (6, .bool false), (7, .int .i64 (Int.tmod (w64 (p1)) 4)), (11, .pointer (some ⟨b36, 0, none⟩)), (13, .pointer (some ⟨b43, 0, none⟩)), (15, .pointer (some ⟨b50, 0, none⟩)), (139, .bool false), (140, .pointer (some ⟨b50, 3, none⟩))] rfl ⟨rfl, rfl, rfl, rfl, rfl, rfl, rfl, rfl, trivial⟩ ?_
                  refine WO_loadB tbok 8 rfl rfl rfl rfl (fun _ h => h) rfl rfl ?_
                  refine WO_pure tbok 2 [(3, .pointer (some ⟨b3, 0, none⟩)), (6, .bool false), (7, .int .i64 (Int.tmod (w64 (p1)) 4)), (11, .pointer (some ⟨b36, 0, none⟩)), (13, .pointer (some ⟨b43, 0, none⟩)), (15, .pointer (some ⟨b50, 0, none⟩)), (139, .bool false), (142, .int .i64 ((y_19).length : Int)), (143, .pointer (some ⟨b36, 3, none⟩))] rfl ⟨rfl, rfl, rfl, rfl, rfl, rfl, rfl, rfl, rfl, trivial⟩ ?_
                  refine WO_loadB tbok 4 rfl rfl rfl rfl (fun _ h => h) rfl rfl ?_
                  refine WO_pure tbok 3 [(3, .pointer (some ⟨b3, 0, none⟩)), (6, .bool false), (7, .int .i64 (Int.tmod (w64 (p1)) 4)), (11, .pointer (some ⟨b36, 0, none⟩)), (13, .pointer (some ⟨b43, 0, none⟩)), (15, .pointer (some ⟨b50, 0, none⟩)), (147, .bool (((y_19).length : Int) != ((y_9).length : Int)))] rfl ⟨rfl, rfl, rfl, rfl, rfl, rfl, rfl, trivial⟩ ?_
                  refine WO_end ?_
                  cases hx51
                  refine WK.sub ?_ (WK.cls (fun _ h => h) hk52)
                  exact ⟨rfl, rfl, rfl, rfl, rfl, rfl, rfl, trivial⟩
        · refine WK_block ?_
          refine WK_loop (S := List Int × Int) (G := Option Addr × Nat × Nat × List Ent) (fun s => fiduciallaw44_CensusShifted_s1 p0_0 p0_2 p0_3 p1 p2 s.1 s.2) (fun s g => [(2, .slice a_p2 p2.length c_p2), (3, .pointer (some ⟨b3, 0, none⟩)), (6, .bool false), (7, .int .i64 (Int.tmod (w64 (p1)) 4)), (8, .pointer (some ⟨b9, 0, none⟩)), (48, .int .i64 (p0_3.length : Int)), (49, .int .i64 s.2)]) (fun s g => St w0 m m [[⟨b3, 24, [.int .i64 p0_0, .int .i64 p0_1, .int .i64 p0_2, .slice a_p0_3 p0_3.length c_p0_3]⟩], [⟨b9, 24, [.int .i64 p0_0, .int .i64 p0_1, .int .i64 p0_2, .slice g.1 g.2.1 g.2.2.1]⟩], g.2.2.2]) (fun s g => OwnE 3 1 (I1 .i64) (.slice g.1 g.2.1 g.2.2.1) s.1 g.2.2.2) FUEL (([] : List Int), 0) (none, 0, 0, []) x21 hx22 (OwnE.nil (T := 3) (k := 1) (E := (I1 .i64)) none) ⟨rfl, rfl, rfl, rfl, rfl, rfl, rfl, trivial⟩ (fun _ h => h) ?_
          rintro ⟨l_3, s_4⟩ ⟨a13, q14, c15, L12⟩ o25 fl26 hm24 hL12 hn27 hd28
          have hm24 : fiduciallaw44_CensusShifted_s1 p0_0 p0_2 p0_3 p1 p2 l_3 s_4 = some o25 := hm24
          unfold fiduciallaw44_CensusShifted_s1 at hm24
          have hqq : q14 = l_3.length := OwnE.qlen hL12
          subst hqq
          refine WK.sub (e' := [(2, .slice a_p2 p2.length c_p2), (3, .pointer (some ⟨b3, 0, none⟩)), (6, .bool false), (7, .int .i64 (Int.tmod (w64 (p1)) 4)), (8, .pointer (some ⟨b9, 0, none⟩)), (48, .int .i64 (p0_3.length : Int)), (49, .int .i64 s_4)]) ⟨rfl, rfl, rfl, rfl, rfl, rfl, rfl, trivial⟩ (WK.cls (C' := St w0 m m [[⟨b3, 24, [.int .i64 p0_0, .int .i64 p0_1, .int .i64 p0_2, .slice a_p0_3 p0_3.length c_p0_3]⟩], [⟨b9, 24, [.int .i64 p0_0, .int .i64 p0_1, .int .i64 p0_2, .slice a13 ((l_3).length) c15]⟩], L12]) (fun _ h => h) ?_)
          refine WK_seq ?_
          refine WK_region ?_
          refine WO_pure tbok 1 [(2, .slice a_p2 p2.length c_p2), (3, .pointer (some ⟨b3, 0, none⟩)), (6, .bool false), (7, .int .i64 (Int.tmod (w64 (p1)) 4)), (8, .pointer (some ⟨b9, 0, none⟩)), (48, .int .i64 (p0_3.length : Int)), (49, .int .i64 s_4), (50, .bool (decide (s_4 < (p0_3.length : Int))))] rfl ⟨rfl, rfl, rfl, rfl, rfl, rfl, rfl, rfl, trivial⟩ ?_
          refine WO_end ?_
          refine WK_seq ?_
          refine WK_cond (b := decide (s_4 < (p0_3.length : Int))) rfl (fun hb109 => ?_) (fun hb109 => ?_)
          · have hm24 := ifT hb109 hm24
            refine WK_skip ?_
            refine WK_seq ?_
            refine WK_block ?_
            refine WK_seq ?_
            refine WK_region ?_
            refine WO_pure tbok 2 [(2, .slice a_p2 p2.length c_p2), (3, .pointer (some ⟨b3, 0, none⟩)), (6, .bool false), (7, .int .i64 (Int.tmod (w64 (p1)) 4)), (8, .pointer (some ⟨b9, 0, none⟩)), (9, .int .i64 s_4), (48, .int .i64 (p0_3.length : Int)), (49, .int .i64 s_4)] rfl ⟨rfl, rfl, rfl, rfl, rfl, rfl, rfl, rfl, trivial⟩ ?_
            refine WO_end ?_
            refine WK_seq ?_
            refine WK_region ?_
            refine WO_pure tbok 1 [(2, .slice a_p2 p2.length c_p2), (3, .pointer (some ⟨b3, 0, none⟩)), (6, .bool false), (7, .int .i64 (Int.tmod (w64 (p1)) 4)), (8, .pointer (some ⟨b9, 0, none⟩)), (9, .int .i64 s_4), (10, .int .i64 0), (48, .int .i64 (p0_3.length : Int)), (49, .int .i64 s_4)] rfl ⟨rfl, rfl, rfl, rfl, rfl, rfl, rfl, rfl, rfl, trivial⟩ ?_
            refine WO_end ?_
            refine WK_seq ?_
            refine WK_seq ?_
            refine WK_region ?_
            refine WO_pure tbok 4 [(2, .slice a_p2 p2.length c_p2), (3, .pointer (some ⟨b3, 0, none⟩)), (6, .bool false), (7, .int .i64 (Int.tmod (w64 (p1)) 4)), (8, .pointer (some ⟨b9, 0, none⟩)), (9, .int .i64 s_4), (10, .int .i64 0), (48, .int .i64 (p0_3.length : Int)), (49, .int .i64 s_4), (55, .bool (decide (s_4 < (p2.length : Int))))] rfl ⟨rfl, rfl, rfl, rfl, rfl, rfl, rfl, rfl, rfl, rfl, trivial⟩ ?_
            refine WO_end ?_
            obtain ⟨s_33, hx110, hm24⟩ := bind_some hm24
            refine WK_meet [(2, .slice a_p2 p2.length c_p2), (3, .pointer (some ⟨b3, 0, none⟩)), (6, .bool false), (7, .int .i64 (Int.tmod (w64 (p1)) 4)), (8, .pointer (some ⟨b9, 0, none⟩)), (9, .int .i64 s_4), (10, .int .i64 s_33), (48, .int .i64 (p0_3.length : Int)), (49, .int .i64 s_4)] (St w0 m m [[⟨b3, 24, [.int .i64 p0_0, .int .i64 p0_1, .int .i64 p0_2, .slice a_p0_3 p0_3.length c_p0_3]⟩], [⟨b9, 24, [.int .i64 p0_0, .int .i64 p0_1, .int .i64 p0_2, .slice a13 ((l_3).length) c15]⟩], L12]) ?_ (fun hk111 => ?_)
            · refine WK_seq ?_
              refine WK_seq ?_
              refine WK_draw 9 [0, 1, 2, 3, 4, 5, 6, 7, 8] follows_ok (by kernel_rfl) St_closed ?_
              refine WO_pure tbok 2 [(2, .slice a_p2 p2.length c_p2), (3, .pointer (some ⟨b3, 0, none⟩)), (6, .bool false), (7, .int .i64 (Int.tmod (w64 (p1)) 4)), (8, .pointer (some ⟨b9, 0, none⟩)), (9, .int .i64 s_4), (10, .int .i64 s_33), (48, .int .i64 (p0_3.length : Int)), (49, .int .i64 s_4), (65, .int .i64 s_4), (66, .pointer (some ⟨b3, 0, none⟩))] rfl ⟨rfl, rfl, rfl, rfl, rfl, rfl, rfl, rfl, rfl, rfl, rfl, trivial⟩ ?_
              refine WO_loadB tbok 0 rfl rfl rfl rfl (fun _ h => h) rfl rfl ?_
              obtain ⟨hc112, hm24⟩ := chk_some hm24
              refine WO_rem rfl rfl rfl rfl rfl hc112 ?_
              refine WO_pure tbok 3 [(2, .slice a_p2 p2.length c_p2), (3, .pointer (some ⟨b3, 0, none⟩)), (6, .bool false), (7, .int .i64 (Int.tmod (w64 (p1)) 4)), (8, .pointer (some ⟨b9, 0, none⟩)), (9, .int .i64 s_4), (10, .int .i64 s_33), (48, .int .i64 (p0_3.length : Int)), (49, .int .i64 s_4), (70, .int .i64 (w64 ((Int.tmod s_4 p0_0) + (Int.tmod (w64 (p1)) 4)))), (71, .pointer (some ⟨b3, 0, none⟩))] rfl ⟨rfl, rfl, rfl, rfl, rfl, rfl, rfl, rfl, rfl, rfl, rfl, trivial⟩ ?_
              refine WO_loadB tbok 0 rfl rfl rfl rfl (fun _ h => h) rfl rfl ?_
              refine WO_pure tbok 1 [(2, .slice a_p2 p2.length c_p2), (3, .pointer (some ⟨b3, 0, none⟩)), (6, .bool false), (7, .int .i64 (Int.tmod (w64 (p1)) 4)), (8, .pointer (some ⟨b9, 0, none⟩)), (9, .int .i64 s_4), (10, .int .i64 s_33), (48, .int .i64 (p0_3.length : Int)), (49, .int .i64 s_4), (73, .bool (decide ((w64 ((Int.tmod s_4 p0_0) + (Int.tmod (w64 (p1)) 4))) < p0_0)))] rfl ⟨rfl, rfl, rfl, rfl, rfl, rfl, rfl, rfl, rfl, rfl, trivial⟩ ?_
              refine WO_tail ?_
              refine WO_end ?_
              obtain ⟨s_34, hx113, hm24⟩ := bind_some hm24
              refine WK_meet [(2, .slice a_p2 p2.length c_p2), (3, .pointer (some ⟨b3, 0, none⟩)), (6, .bool false), (7, .int .i64 (Int.tmod (w64 (p1)) 4)), (8, .pointer (some ⟨b9, 0, none⟩)), (10, .int .i64 s_34), (48, .int .i64 (p0_3.length : Int)), (49, .int .i64 s_4)] (St w0 m m [[⟨b3, 24, [.int .i64 p0_0, .int .i64 p0_1, .int .i64 p0_2, .slice a_p0_3 p0_3.length c_p0_3]⟩], [⟨b9, 24, [.int .i64 p0_0, .int .i64 p0_1, .int .i64 p0_2, .slice a13 ((l_3).length) c15]⟩], L12]) ?_ (fun hk114 => ?_)
              · refine WK_region ?_
                refine WO_pure tbok 1 [(2, .slice a_p2 p2.length c_p2), (3, .pointer (some ⟨b3, 0, none⟩)), (6, .bool false), (7, .int .i64 (Int.tmod (w64 (p1)) 4)), (8, .pointer (some ⟨b9, 0, none⟩)), (10, .int .i64 s_34), (48, .int .i64 (p0_3.length : Int)), (49, .int .i64 s_4), (81, .pointer (some ⟨b9, 3, none⟩))] rfl ⟨rfl, rfl, rfl, rfl, rfl, rfl, rfl, rfl, rfl, trivial⟩ ?_
                refine WO_loadB tbok 1 rfl rfl rfl rfl (fun _ h => h) rfl rfl ?_
                refine WO_pure tbok 1 [(2, .slice a_p2 p2.length c_p2), (3, .pointer (some ⟨b3, 0, none⟩)), (6, .bool false), (7, .int .i64 (Int.tmod (w64 (p1)) 4)), (8, .pointer (some ⟨b9, 0, none⟩)), (48, .int .i64 (p0_3.length : Int)), (49, .int .i64 s_4), (82, .slice a13 ((l_3).length) c15), (83, .int .i64 s_34)] rfl ⟨rfl, rfl, rfl, rfl, rfl, rfl, rfl, rfl, rfl, trivial⟩ ?_
                refine WO_bslice (E := (I1 .i64)) tbok (fun _ => rfl) (by decide) [.int .i64 s_34] ([s_34] : List Int) rfl rfl trivial rfl rfl rfl rfl rfl rfl rfl rfl rfl rfl rfl rfl (fun b115 hb115 => ?_)
                refine WO.cls (C' := St w0 m m [[⟨b3, 24, [.int .i64 p0_0, .int .i64 p0_1, .int .i64 p0_2, .slice a_p0_3 p0_3.length c_p0_3]⟩], [⟨b9, 24, [.int .i64 p0_0, .int .i64 p0_1, .int .i64 p0_2, .slice a13 ((l_3).length) c15]⟩], L12, [⟨b115, 3, ([s_34] : List Int).flatMap (I1 .i64)⟩]]) (fun _ h => h) ?_
                obtain ⟨hc117, hm24⟩ := chk_some hm24
                refine WO_append (E := (I1 .i64)) tbok (fun _ => rfl) 2 ([s_34] : List Int) (fun _ _ => rfl) rfl rfl rfl rfl rfl rfl rfl rfl rfl rfl rfl rfl hL12 rfl (src_seg (j := 3) rfl) (ap_ok (by decide) hc117) (ap_max hc117) (fun a118 c119 L120 hL120 => ?_)
                refine WO.cls (C' := St w0 m m [[⟨b3, 24, [.int .i64 p0_0, .int .i64 p0_1, .int .i64 p0_2, .slice a_p0_3 p0_3.length c_p0_3]⟩], [⟨b9, 24, [.int .i64 p0_0, .int .i64 p0_1, .int .i64 p0_2, .slice a13 ((l_3).length) c15]⟩], L120, [⟨b115, 3, ([s_34] : List Int).flatMap (I1 .i64)⟩]]) (fun _ h => h) ?_
                refine WO_pure tbok 1 [(2, .slice a_p2 p2.length c_p2), (3, .pointer (some ⟨b3, 0, none⟩)), (6, .bool false), (7, .int .i64 (Int.tmod (w64 (p1)) 4)), (8, .pointer (some ⟨b9, 0, none⟩)), (48, .int .i64 (p0_3.length : Int)), (49, .int .i64 s_4), (85, .slice a118 ((l_3 ++ ([s_34] : List Int)).length) c119), (86, .pointer (some ⟨b9, 3, none⟩))] rfl ⟨rfl, rfl, rfl, rfl, rfl, rfl, rfl, rfl, rfl, trivial⟩ ?_
                refine WO_storeB tbok 1 [.int .i64 p0_0, .int .i64 p0_1, .int .i64 p0_2, .slice a118 ((l_3 ++ ([s_34] : List Int)).length) c119] rfl rfl rfl rfl rfl rfl rfl ?_
                refine WO.cls (C' := St w0 m m [[⟨b3, 24, [.int .i64 p0_0, .int .i64 p0_1, .int .i64 p0_2, .slice a_p0_3 p0_3.length c_p0_3]⟩], [⟨b9, 24, [.int .i64 p0_0, .int .i64 p0_1, .int .i64 p0_2, .slice a118 ((l_3 ++ ([s_34] : List Int)).length) c119]⟩], L120, [⟨b115, 3, ([s_34] : List Int).flatMap (I1 .i64)⟩]]) (fun _ h => h) ?_
                refine WO_end ?_
                refine WK_blk ?_
                refine WK_region ?_
                refine WO_pure tbok 2 [(2, .slice a_p2 p2.length c_p2), (3, .pointer (some ⟨b3, 0, none⟩)), (6, .bool false), (7, .int .i64 (Int.tmod (w64 (p1)) 4)), (8, .pointer (some ⟨b9, 0, none⟩)), (48, .int .i64 (p0_3.length : Int)), (49, .int .i64 (w64 (s_4 + 1)))] rfl ⟨rfl, rfl, rfl, rfl, rfl, rfl, rfl, trivial⟩ ?_
                refine WO_end ?_
                cases hm24
                refine WK.sub ?_ (WK.cls (fun _ h => St.take 3 h) (hn27 _ (a118, (l_3 ++ ([s_34] : List Int)).length, c119, L120) rfl hL120))
                exact ⟨rfl, rfl, rfl, rfl, rfl, rfl, rfl, trivial⟩
              · refine WK_cond (b := decide ((w64 ((Int.tmod s_4 p0_0) + (Int.tmod (w64 (p1)) 4))) < p0_0)) rfl (fun hb122 => ?_) (fun hb122 => ?_)
                · have hx113 := ifT hb122 hx113
                  refine WK_region ?_
                  refine WO_pure tbok 1 [(2, .slice a_p2 p2.length c_p2), (3, .pointer (some ⟨b3, 0, none⟩)), (6, .bool false), (7, .int .i64 (Int.tmod (w64 (p1)) 4)), (8, .pointer (some ⟨b9, 0, none⟩)), (9, .int .i64 s_4), (10, .int .i64 s_33), (48, .int .i64 (p0_3.length : Int)), (49, .int .i64 s_4), (74, .pointer (some ⟨b3, 3, none⟩))] rfl ⟨rfl, rfl, rfl, rfl, rfl, rfl, rfl, rfl, rfl, rfl, trivial⟩ ?_
                  refine WO_loadB tbok 0 rfl rfl rfl rfl (fun _ h => h) rfl rfl ?_
                  refine WO_pure tbok 3 [(2, .slice a_p2 p2.length c_p2), (3, .pointer (some ⟨b3, 0, none⟩)), (6, .bool false), (7, .int .i64 (Int.tmod (w64 (p1)) 4)), (8, .pointer (some ⟨b9, 0, none⟩)), (10, .int .i64 s_33), (48, .int .i64 (p0_3.length : Int)), (49, .int .i64 s_4), (75, .slice a_p0_3 p0_3.length c_p0_3), (78, .int .i64 (w64 (s_4 + (Int.tmod (w64 (p1)) 4))))] rfl ⟨rfl, rfl, rfl, rfl, rfl, rfl, rfl, rfl, rfl, rfl, trivial⟩ ?_
                  obtain ⟨v_35, hy123, hx113⟩ := bind_some hx113
                  obtain ⟨hc124, hy123⟩ := ix_some hy123
                  refine WO_index tbok rfl rfl rfl rfl rfl rfl rfl rfl (SlR.addr h_p0_3) hc124 ?_
                  refine WO_loadE tbok rfl rfl rfl rfl (fun _ h => St.sat h) h_p0_3 hy123 rfl ?_
                  refine WO_pure tbok 1 [(2, .slice a_p2 p2.length c_p2), (3, .pointer (some ⟨b3, 0, none⟩)), (6, .bool false), (7, .int .i64 (Int.tmod (w64 (p1)) 4)), (8, .pointer (some ⟨b9, 0, none⟩)), (10, .int .i64 v_35), (48, .int .i64 (p0_3.length : Int)), (49, .int .i64 s_4)] rfl ⟨rfl, rfl, rfl, rfl, rfl, rfl, rfl, rfl, trivial⟩ ?_
                  refine WO_end ?_
                  cases hx113
                  refine WK.sub ?_ (WK.cls (fun _ h => h) hk114)
                  exact ⟨rfl, rfl, rfl, rfl, rfl, rfl, rfl, rfl, trivial⟩
                · have hx113 := ifF hb122 hx113
                  refine WK_skip ?_
                  cases hx113
                  refine WK.sub ?_ (WK.cls (fun _ h => h) hk114)
                  exact ⟨rfl, rfl, rfl, rfl, rfl, rfl, rfl, rfl, trivial⟩
            · refine WK_cond (b := decide (s_4 < (p2.length : Int))) rfl (fun hb125 => ?_) (fun hb125 => ?_)
              · have hx110 := ifT hb125 hx110
                refine WK_draw 10 [0, 1, 2, 3, 4, 5, 6, 7, 8, 9] follows_ok (by kernel_rfl) St_closed ?_
                refine WO_pure tbok 2 [(2, .slice a_p2 p2.length c_p2), (3, .pointer (some ⟨b3, 0, none⟩)), (6, .bool false), (7, .int .i64 (Int.tmod (w64 (p1)) 4)), (8, .pointer (some ⟨b9, 0, none⟩)), (9, .int .i64 s_4), (10, .int .i64 0), (48, .int .i64 (p0_3.length : Int)), (49, .int .i64 s_4), (56, .slice a_p2 p2.length c_p2), (57, .int .i64 s_4)] rfl ⟨rfl, rfl, rfl, rfl, rfl, rfl, rfl, rfl, rfl, rfl, rfl, trivial⟩ ?_
                obtain ⟨v_36, hy126, hx110⟩ := bind_some hx110
                obtain ⟨hc127, hy126⟩ := ix_some hy126
                refine WO_index tbok rfl rfl rfl rfl rfl rfl rfl rfl (SlR.addr h_p2) hc127 ?_
                refine WO_loadE tbok rfl rfl rfl rfl (fun _ h => St.sat h) h_p2 hy126 rfl ?_
                refine WO_pure tbok 2 [(2, .slice a_p2 p2.length c_p2), (3, .pointer (some ⟨b3, 0, none⟩)), (6, .bool false), (7, .int .i64 (Int.tmod (w64 (p1)) 4)), (8, .pointer (some ⟨b9, 0, none⟩)), (9, .int .i64 s_4), (10, .int .i64 0), (48, .int .i64 (p0_3.length : Int)), (49, .int .i64 s_4), (60, .int .i64 (w64 (v_36))), (61, .pointer (some ⟨b3, 2, none⟩))] rfl ⟨rfl, rfl, rfl, rfl, rfl, rfl, rfl, rfl, rfl, rfl, rfl, trivial⟩ ?_
                refine WO_loadB tbok 0 rfl rfl rfl rfl (fun _ h => h) rfl rfl ?_
                refine WO_pure tbok 1 [(2, .slice a_p2 p2.length c_p2), (3, .pointer (some ⟨b3, 0, none⟩)), (6, .bool false), (7, .int .i64 (Int.tmod (w64 (p1)) 4)), (8, .pointer (some ⟨b9, 0, none⟩)), (9, .int .i64 s_4), (10, .int .i64 0), (48, .int .i64 (p0_3.length : Int)), (49, .int .i64 s_4), (60, .int .i64 (w64 (v_36))), (63, .int .i64 (w64 (p0_2 + 1)))] rfl ⟨rfl, rfl, rfl, rfl, rfl, rfl, rfl, rfl, rfl, rfl, rfl, trivial⟩ ?_
                obtain ⟨hc128, hx110⟩ := chk_some hx110
                refine WO_rem rfl rfl rfl rfl rfl hc128 ?_
                refine WO_pure tbok 1 [(2, .slice a_p2 p2.length c_p2), (3, .pointer (some ⟨b3, 0, none⟩)), (6, .bool false), (7, .int .i64 (Int.tmod (w64 (p1)) 4)), (8, .pointer (some ⟨b9, 0, none⟩)), (9, .int .i64 s_4), (10, .int .i64 (Int.tmod (w64 (v_36)) (w64 (p0_2 + 1)))), (48, .int .i64 (p0_3.length : Int)), (49, .int .i64 s_4)] rfl ⟨rfl, rfl, rfl, rfl, rfl, rfl, rfl, rfl, rfl, trivial⟩ ?_
                refine WO_tail ?_
                refine WO_end ?_
                cases hx110
                refine WK.sub ?_ (WK.cls (fun _ h => h) hk111)
                exact ⟨rfl, rfl, rfl, rfl, rfl, rfl, rfl, rfl, rfl, trivial⟩
              · have hx110 := ifF hb125 hx110
                refine WK_skip ?_
                cases hx110
                refine WK.sub ?_ (WK.cls (fun _ h => h) hk111)
                exact ⟨rfl, rfl, rfl, rfl, rfl, rfl, rfl, rfl, rfl, trivial⟩
          · have hm24 := ifF hb109 hm24
            refine WK_exit rfl ?_
            cases hm24
            refine WK.sub ?_ (WK.cls (fun _ h => h) (hk23 (l_3, (a13, _, c15, L12)) ⟨(hd28 _ rfl), hL12⟩))
            exact ⟨rfl, rfl, rfl, rfl, trivial⟩
    · refine WK_region ?_
      refine WO_pure tbok 1 [(1, .int .u8 p1), (2, .slice a_p2 p2.length c_p2), (3, .pointer (some ⟨b3, 0, none⟩)), (6, .bool false), (22, .pointer (some ⟨b3, 3, none⟩))] rfl ⟨rfl, rfl, rfl, rfl, rfl, trivial⟩ ?_
      refine WO_loadB tbok 0 rfl rfl rfl rfl (fun _ h => h) rfl rfl ?_
      refine WO_pure tbok 3 [(1, .int .u8 p1), (2, .slice a_p2 p2.length c_p2), (3, .pointer (some ⟨b3, 0, none⟩)), (6, .bool false), (26, .bool (decide (120 < (p0_3.length : Int))))] rfl ⟨rfl, rfl, rfl, rfl, rfl, trivial⟩ ?_
      refine WO_split (d := 26) (b := decide (120 < (p0_3.length : Int))) rfl (fun hb129 => ?_) (fun hb129 => ?_)
      · have hx6 := ifT hb129 hx6
        refine WO_pure tbok 1 [(1, .int .u8 p1), (2, .slice a_p2 p2.length c_p2), (3, .pointer (some ⟨b3, 0, none⟩)), (6, .bool false), (26, .bool true)] rfl ⟨rfl, rfl, rfl, rfl, rfl, trivial⟩ ?_
        refine WO_skip rfl rfl ?_
        refine WO_pure tbok 7 [(1, .int .u8 p1), (2, .slice a_p2 p2.length c_p2), (3, .pointer (some ⟨b3, 0, none⟩)), (6, .bool false), (35, .bool true)] rfl ⟨rfl, rfl, rfl, rfl, rfl, trivial⟩ ?_
        refine WO_end ?_
        cases hx6
        refine WK.sub ?_ (WK.cls (fun _ h => h) hk7)
        exact ⟨rfl, rfl, rfl, rfl, rfl, trivial⟩
      · have hx6 := ifF hb129 hx6
        refine WO_loadB tbok 0 rfl rfl rfl rfl (fun _ h => h) rfl rfl ?_
        obtain ⟨y_37, hc130, hx6⟩ := bind_some hx6
        refine WO_call0 (.int .i64 y_37) rfl rfl trivial rfl rfl rfl rfl St_closed ⟨26, #[], #[], rfl, callable_26, fun w hw => ⟨_, hw.sat, fiducialref13_Check_walk h_p0_3 hc130⟩⟩ ?_
        refine WO_pure tbok 3 [(1, .int .u8 p1), (2, .slice a_p2 p2.length c_p2), (3, .pointer (some ⟨b3, 0, none⟩)), (6, .bool false), (31, .bool (y_37 != 0))] rfl ⟨rfl, rfl, rfl, rfl, rfl, trivial⟩ ?_
        refine WO_split (d := 31) (b := y_37 != 0) rfl (fun hb131 => ?_) (fun hb131 => ?_)
        · have hx6 := ifT hb131 hx6
          refine WO_pure tbok 4 [(1, .int .u8 p1), (2, .slice a_p2 p2.length c_p2), (3, .pointer (some ⟨b3, 0, none⟩)), (6, .bool false), (35, .bool true)] rfl ⟨rfl, rfl, rfl, rfl, rfl, trivial⟩ ?_
          refine WO_end ?_
          cases hx6
          refine WK.sub ?_ (WK.cls (fun _ h => h) hk7)
          exact ⟨rfl, rfl, rfl, rfl, rfl, trivial⟩
        · have hx6 := ifF hb131 hx6
          refine WO_pure tbok 4 [(1, .int .u8 p1), (2, .slice a_p2 p2.length c_p2), (3, .pointer (some ⟨b3, 0, none⟩)), (6, .bool false), (35, .bool (decide (200 < (p2.length : Int))))] rfl ⟨rfl, rfl, rfl, rfl, rfl, trivial⟩ ?_
          refine WO_end ?_
          cases hx6
          refine WK.sub ?_ (WK.cls (fun _ h => h) hk7)
          exact ⟨rfl, rfl, rfl, rfl, rfl, trivial⟩
theorem slices_Max_sint_walk {m : Mu} {p0 : List Int} {a_p0 : Option Addr} {q_p0 c_p0 : Nat} (h_p0 : SlR (FE (I1 .i64)) 1 m (.slice a_p0 q_p0 c_p0) p0) {r : Int} (hm : slices_Max_sint p0 = some r) :
    Go.E.Spec Try.prog 47 [.slice a_p0 q_p0 c_p0] m (fun v _ _ => v = .int .i64 r) := by
  refine Spec_enter Try.func47 rfl rfl rfl (fun w0 => ?_)
  refine WK.sub (e' := [(0, .slice a_p0 q_p0 c_p0)]) ⟨rfl, trivial⟩ ?_
  obtain rfl := SlR.qlen h_p0
  refine WK.sub (e' := [(0, .slice a_p0 p0.length c_p0)]) ⟨rfl, trivial⟩ ?_
  unfold slices_Max_sint at hm
  refine WK_seq ?_
  refine WK_region ?_
  refine WO_pure tbok 1 [(0, .slice a_p0 p0.length c_p0), (2, .int .i64 0)] rfl ⟨rfl, rfl, trivial⟩ ?_
  refine WO_end ?_
  refine WK_seq ?_
  refine WK_seq ?_
  refine WK_region ?_
  refine WO_pure tbok 3 [(0, .slice a_p0 p0.length c_p0), (2, .int .i64 0), (7, .bool (decide ((p0.length : Int) < 1)))] rfl ⟨rfl, rfl, rfl, trivial⟩ ?_
  refine WO_end ?_
  refine WK_cond (b := decide ((p0.length : Int) < 1)) rfl (fun hb2 => ?_) (fun hb2 => ?_)
  · have hm := ifT hb2 hm
    refine WK_region ?_
    cases hm
  · have hm := ifF hb2 hm
    refine WK_skip ?_
    refine WK_seq ?_
    refine WK_region ?_
    refine WO_pure tbok 1 [(0, .slice a_p0 p0.length c_p0), (2, .int .i64 0), (9, .slice a_p0 p0.length c_p0)] rfl ⟨rfl, rfl, rfl, trivial⟩ ?_
    obtain ⟨v_1, hy3, hm⟩ := bind_some hm
    obtain ⟨hc4, hy3⟩ := ix_some hy3
    refine WO_index tbok rfl rfl rfl rfl rfl rfl rfl rfl (SlR.addr h_p0) hc4 ?_
    refine WO_loadE tbok rfl rfl rfl rfl (fun _ h => St.sat h) h_p0 hy3 rfl ?_
    refine WO_pure tbok 1 [(0, .slice a_p0 p0.length c_p0), (2, .int .i64 0), (3, .int .i64 v_1)] rfl ⟨rfl, rfl, rfl, trivial⟩ ?_
    refine WO_end ?_
    refine WK_seq ?_
    refine WK_seq ?_
    refine WK_region ?_
    refine WO_pure tbok 1 [(0, .slice a_p0 p0.length c_p0), (2, .int .i64 0), (3, .int .i64 v_1), (4, .int .i64 1)] rfl ⟨rfl, rfl, rfl, rfl, trivial⟩ ?_
    refine WO_end ?_
    obtain ⟨x5, hx6, hm⟩ := bind_some hm
    refine WK_join (β := Int × Unit) (fun p => p.1 = x5) (fun p => [(2, .int .i64 0), (3, .int .i64 p.1)]) (fun p => St w0 m m []) ?_ (fun hk7 => ?_)
    · rintro ⟨s_4, ⟨⟩⟩ hq13
      subst hq13
      refine WK.sub (e' := [(2, .int .i64 0), (3, .int .i64 s_4)]) ⟨rfl, rfl, trivial⟩ (WK.cls (C' := St w0 m m []) (fun _ h => h) ?_)
      refine WK_seq ?_
      refine WK_region ?_
      refine WO_pure tbok 2 [(2, .int .i64 s_4)] rfl ⟨rfl, trivial⟩ ?_
      refine WO_end ?_
      cases hm
      exact WK_ret (ret_out (L := []) (RLc_tmp rfl RLc_nil) (List.nil_sublist _) rfl)
    · refine WK_block ?_
      refine WK_loop (S := Int × Int) (G := Unit) (fun s => slices_Max_sint_s1 p0 s.1 s.2) (fun s g => [(0, .slice a_p0 p0.length c_p0), (2, .int .i64 0), (3, .int .i64 s.1), (4, .int .i64 s.2)]) (fun s g => St w0 m m []) (fun s g => True) FUEL (v_1, 1) () x5 hx6 trivial ⟨rfl, rfl, rfl, rfl, trivial⟩ (fun _ h => h) ?_
      rintro ⟨s_2, s_3⟩ ⟨⟩ o9 fl10 hm8 - hn11 hd12
      have hm8 : slices_Max_sint_s1 p0 s_2 s_3 = some o9 := hm8
      unfold slices_Max_sint_s1 at hm8
      refine WK.sub (e' := [(0, .slice a_p0 p0.length c_p0), (2, .int .i64 0), (3, .int .i64 s_2), (4, .int .i64 s_3)]) ⟨rfl, rfl, rfl, rfl, trivial⟩ (WK.cls (C' := St w0 m m []) (fun _ h => h) ?_)
      refine WK_seq ?_
      refine WK_seq ?_
      refine WK_region ?_
      refine WO_pure tbok 4 [(0, .slice a_p0 p0.length c_p0), (2, .int .i64 0), (3, .int .i64 s_2), (4, .int .i64 s_3), (15, .bool (decide (s_3 < (p0.length : Int))))] rfl ⟨rfl, rfl, rfl, rfl, rfl, trivial⟩ ?_
      refine WO_end ?_
      refine WK_cond (b := decide (s_3 < (p0.length : Int))) rfl (fun hb14 => ?_) (fun hb14 => ?_)
      · have hm8 := ifT hb14 hm8
        refine WK_skip ?_
        refine WK_seq ?_
        refine WK_block ?_
        refine WK_region ?_
        refine WO_pure tbok 3 [(0, .slice a_p0 p0.length c_p0), (2, .int .i64 0), (3, .int .i64 s_2), (4, .int .i64 s_3), (18, .int .i64 s_2), (19, .slice a_p0 p0.length c_p0), (20, .int .i64 s_3)] rfl ⟨rfl, rfl, rfl, rfl, rfl, rfl, rfl, trivial⟩ ?_
        obtain ⟨v_5, hy15, hm8⟩ := bind_some hm8
        obtain ⟨hc16, hy15⟩ := ix_some hy15
        refine WO_index tbok rfl rfl rfl rfl rfl rfl rfl rfl (SlR.addr h_p0) hc16 ?_
        refine WO_loadE tbok rfl rfl rfl rfl (fun _ h => St.sat h) h_p0 hy15 rfl ?_
        refine WO_pure tbok 2 [(0, .slice a_p0 p0.length c_p0), (2, .int .i64 0), (3, .int .i64 (if s_2 < v_5 then v_5 else s_2)), (4, .int .i64 s_3)] rfl ⟨rfl, rfl, rfl, rfl, trivial⟩ ?_
        refine WO_end ?_
        refine WK_blk ?_
        refine WK_region ?_
        refine WO_pure tbok 3 [(0, .slice a_p0 p0.length c_p0), (2, .int .i64 0), (3, .int .i64 (if s_2 < v_5 then v_5 else s_2)), (4, .int .i64 (w64 (s_3 + 1)))] rfl ⟨rfl, rfl, rfl, rfl, trivial⟩ ?_
        refine WO_end ?_
        cases hm8
        refine WK.sub ?_ (WK.cls (fun _ h => h) (hn11 _ () rfl trivial))
        exact ⟨rfl, rfl, rfl, rfl, trivial⟩
      · have hm8 := ifF hb14 hm8
        refine WK_exit rfl ?_
        cases hm8
        refine WK.sub ?_ (WK.cls (fun _ h => h) (hk7 (s_2, ()) (hd12 _ rfl)))
        exact ⟨rfl, rfl, trivial⟩
end Go.Proofs.Ytmeopehknkfnbaa
