import Derived.Test.YtcaeieofjchpjaaTab
import Derived.Test.YtcaeieofjchpjaaM
import Derived.Test.YtcaeieofjchpjaaV2
set_option linter.unusedVariables false
set_option maxRecDepth 100000
set_option maxHeartbeats 4000000
namespace Go.Proofs.Ytcaeieofjchpjaa
open Go.E Go.RowKit
attribute [local irreducible] Go.E.WO Go.E.WK
@[reducible] def pb2 (b : Nat) : Value := .pointer (some ⟨b, 0, none⟩)
@[reducible] def i2 (z : Int) : Value := .int .i64 z
theorem fiduciallaw48_TerrainOpens_walk {m : Mu} {p0_0 : Int} {p0_1 : Int} {p0_2 : Int} {p0_3 : Int} {p0_4 : Int} {p0_5 : List Int} {p1 : Int} {p2 : List Int} {a_p0_5 : Option Addr} {q_p0_5 c_p0_5 : Nat} {a_p2 : Option Addr} {q_p2 c_p2 : Nat} (h_p0_5 : SlR (FE (I1 .i64)) 1 m (.slice a_p0_5 q_p0_5 c_p0_5) p0_5) (h_p2 : SlR (FE (I1 .u8)) 1 m (.slice a_p2 q_p2 c_p2) p2) {r : Bool} (hm : fiduciallaw48_TerrainOpens p0_0 p0_1 p0_2 p0_3 p0_4 p0_5 p1 p2 = some r) :
    Go.E.Spec Try.prog 8 [.agg #[.int .i64 p0_0, .int .i64 p0_1, .int .i64 p0_2, .int .i64 p0_3, .int .i64 p0_4, .slice a_p0_5 q_p0_5 c_p0_5], .int .u8 p1, .slice a_p2 q_p2 c_p2] m (fun v _ _ => v = .bool r) := by
  refine Spec_enter Try.func8 rfl rfl rfl (fun w0 => ?_)
  refine WK.sub (e' := [(0, .agg #[i2 p0_0, i2 p0_1, i2 p0_2, i2 p0_3, i2 p0_4, .slice a_p0_5 q_p0_5 c_p0_5]), (1, .int .u8 p1), (2, .slice a_p2 q_p2 c_p2)]) ⟨rfl, rfl, rfl, trivial⟩ ?_
  obtain rfl := SlR.qlen h_p0_5
  obtain rfl := SlR.qlen h_p2
  refine WK.sub (e' := [(0, .agg #[i2 p0_0, i2 p0_1, i2 p0_2, i2 p0_3, i2 p0_4, .slice a_p0_5 p0_5.length c_p0_5]), (1, .int .u8 p1), (2, .slice a_p2 p2.length c_p2)]) ⟨rfl, rfl, rfl, trivial⟩ ?_
  unfold fiduciallaw48_TerrainOpens at hm
  refine WK_seq ?_
  refine WK_region ?_
  refine WO_box [i2 p0_0, i2 p0_1, i2 p0_2, i2 p0_3, i2 p0_4, .slice a_p0_5 p0_5.length c_p0_5] rfl rfl trivial rfl rfl rfl (fun b1 => ?_)
  let B1 : Ent := ⟨b1, 25, [i2 p0_0, i2 p0_1, i2 p0_2, i2 p0_3, i2 p0_4, .slice a_p0_5 p0_5.length c_p0_5]⟩
  refine WO.cls (C' := St w0 m m [[B1]]) (fun _ h => h) ?_
  refine WO_pure tbok 1 [(1, .int .u8 p1), (2, .slice a_p2 p2.length c_p2), (3, pb2 b1), (6, .bool false)] rfl ⟨rfl, rfl, rfl, rfl, trivial⟩ ?_
  refine WO_end ?_
  refine WK_seq ?_
  refine WK_seq ?_
  refine WK_region ?_
  obtain ⟨y_1, hc2, hm⟩ := bind_some hm
  refine WO_call0 (.bool y_1) rfl rfl trivial rfl rfl rfl rfl St_closed ⟨11, #[], #[], rfl, callable_11, fun w hw => ⟨_, hw.sat, fiduciallaw48_known_walk hc2⟩⟩ ?_
  refine WO_pure tbok 1 [(1, .int .u8 p1), (2, .slice a_p2 p2.length c_p2), (3, pb2 b1), (6, .bool false), (25, .bool (!y_1))] rfl ⟨rfl, rfl, rfl, rfl, rfl, trivial⟩ ?_
  refine WO_end ?_
  refine WK_cond (b := !y_1) rfl (fun hb3 => ?_) (fun hb3 => ?_)
  · have hm := ifT hb3 hm
    refine WK_seq ?_
    refine WK_region ?_
    refine WO_pure tbok 1 [(1, .int .u8 p1), (2, .slice a_p2 p2.length c_p2), (3, pb2 b1), (6, .bool false)] rfl ⟨rfl, rfl, rfl, rfl, trivial⟩ ?_
    refine WO_end ?_
    cases hm
    exact WK_ret (ret_out (L := []) (RLc_tmp rfl RLc_nil) (List.nil_sublist _) rfl)
  · have hm := ifF hb3 hm
    refine WK_skip ?_
    refine WK_seq ?_
    refine WK_seq ?_
    obtain ⟨s_2, hx4, hm⟩ := bind_some hm
    refine WK_meet [(1, .int .u8 p1), (2, .slice a_p2 p2.length c_p2), (3, pb2 b1), (6, .bool false), (33, .bool s_2)] (St w0 m m [[B1]]) ?_ (fun hk5 => ?_)
    · refine WK_cond (b := s_2) rfl (fun hb6 => ?_) (fun hb6 => ?_)
      · have hm := ifT hb6 hm
        refine WK_seq ?_
        refine WK_region ?_
        refine WO_pure tbok 1 [(1, .int .u8 p1), (2, .slice a_p2 p2.length c_p2), (3, pb2 b1), (6, .bool true)] rfl ⟨rfl, rfl, rfl, rfl, trivial⟩ ?_
        refine WO_end ?_
        cases hm
        exact WK_ret (ret_out (L := []) (RLc_tmp rfl RLc_nil) (List.nil_sublist _) rfl)
      · have hm := ifF hb6 hm
        refine WK_skip ?_
        refine WK_seq ?_
        refine WK_region ?_
        refine WO_pure tbok 4 [(2, .slice a_p2 p2.length c_p2), (3, pb2 b1), (6, .bool false), (7, i2 (Int.tmod (w64 (p1)) 9))] rfl ⟨rfl, rfl, rfl, rfl, trivial⟩ ?_
        refine WO_end ?_
        refine WK_seq ?_
        obtain ⟨⟨l_3, l_4, s_5, s_6, s_7, s_8, s_9, s_10, s_11, s_12, s_13, s_14⟩, hx15, hm⟩ := bind_some hm
        refine WK_join (β := Option Addr × Nat × List Ent × Option Addr × Nat × List Ent × Nat × Nat) (fun p => OwnE 3 1 (I1 .i64) (.slice p.1 ((l_3).length) p.2.1) l_3 p.2.2.1 ∧ OwnE 3 1 (I1 .i64) (.slice p.2.2.2.1 ((l_4).length) p.2.2.2.2.1) l_4 p.2.2.2.2.2.1) (fun p => [(2, .slice a_p2 p2.length c_p2), (3, pb2 b1), (6, .bool false), (7, i2 (Int.tmod (w64 (p1)) 9)), (8, .pointer (some ⟨p.2.2.2.2.2.2.1, 0, none⟩)), (9, .pointer (some ⟨p.2.2.2.2.2.2.2, 0, none⟩))]) (fun p => St w0 m m [[B1], [⟨p.2.2.2.2.2.2.1, 25, [i2 s_5, i2 s_6, i2 s_7, i2 s_8, i2 s_9, .slice p.1 ((l_3).length) p.2.1]⟩], p.2.2.1, [⟨p.2.2.2.2.2.2.2, 25, [i2 s_10, i2 s_11, i2 s_12, i2 s_13, i2 s_14, .slice p.2.2.2.1 ((l_4).length) p.2.2.2.2.1]⟩], p.2.2.2.2.2.1]) ?_ (fun hk16 => ?_)
        · rintro ⟨a7, c8, L9, a10, c11, L12, b13, b14⟩ ⟨hL9, hL12⟩
          refine WK.sub (e' := [(2, .slice a_p2 p2.length c_p2), (3, pb2 b1), (6, .bool false), (7, i2 (Int.tmod (w64 (p1)) 9)), (8, pb2 b13), (9, pb2 b14)]) ⟨rfl, rfl, rfl, rfl, rfl, rfl, trivial⟩ (WK.cls (C' := St w0 m m [[B1], [⟨b13, 25, [i2 s_5, i2 s_6, i2 s_7, i2 s_8, i2 s_9, .slice a7 ((l_3).length) c8]⟩], L9, [⟨b14, 25, [i2 s_10, i2 s_11, i2 s_12, i2 s_13, i2 s_14, .slice a10 ((l_4).length) c11]⟩], L12]) (fun _ h => h) ?_)
          refine WK_seq ?_
          refine WK_seq ?_
          refine WK_region ?_
          refine WO_pure tbok 1 [(2, .slice a_p2 p2.length c_p2), (3, pb2 b1), (6, .bool false), (7, i2 (Int.tmod (w64 (p1)) 9)), (8, pb2 b13), (9, pb2 b14), (47, .pointer (some ⟨b1, 5, none⟩))] rfl ⟨rfl, rfl, rfl, rfl, rfl, rfl, rfl, trivial⟩ ?_
          refine WO_loadB tbok 0 rfl rfl rfl rfl (fun _ h => h) rfl rfl ?_
          refine WO_pure tbok 2 [(2, .slice a_p2 p2.length c_p2), (3, pb2 b1), (6, .bool false), (7, i2 (Int.tmod (w64 (p1)) 9)), (8, pb2 b13), (9, pb2 b14), (48, .slice a_p0_5 p0_5.length c_p0_5), (49, i2 (p0_5.length : Int)), (50, i2 0)] rfl ⟨rfl, rfl, rfl, rfl, rfl, rfl, rfl, rfl, rfl, trivial⟩ ?_
          refine WO_end ?_
          obtain ⟨x21, hx22, hm⟩ := bind_some hm
          refine WK_join (β := (List Int × List Int) × (List Ent × List Ent)) (fun p => p.1 = x21 ∧ OwnE 3 1 (I1 .i64) (.slice a7 ((l_3).length) c8) p.1.1 p.2.1 ∧ OwnE 3 1 (I1 .i64) (.slice a10 ((l_4).length) c11) p.1.2 p.2.2) (fun p => [(3, pb2 b1), (6, .bool false), (7, i2 (Int.tmod (w64 (p1)) 9)), (8, pb2 b13), (9, pb2 b14)]) (fun p => St w0 m m [[B1], [⟨b13, 25, [i2 s_5, i2 s_6, i2 s_7, i2 s_8, i2 s_9, .slice a7 ((l_3).length) c8]⟩], p.2.1, [⟨b14, 25, [i2 s_10, i2 s_11, i2 s_12, i2 s_13, i2 s_14, .slice a10 ((l_4).length) c11]⟩], p.2.2]) ?_ (fun hk23 => ?_)
          · rintro ⟨⟨l_18, l_19⟩, ⟨L19, L20⟩⟩ ⟨hq29, hL19, hL20⟩
            subst hq29
            refine WK.sub (e' := [(3, pb2 b1), (6, .bool false), (7, i2 (Int.tmod (w64 (p1)) 9)), (8, pb2 b13), (9, pb2 b14)]) ⟨rfl, rfl, rfl, rfl, rfl, trivial⟩ (WK.cls (C' := St w0 m m [[B1], [⟨b13, 25, [i2 s_5, i2 s_6, i2 s_7, i2 s_8, i2 s_9, .slice a7 ((l_3).length) c8]⟩], L19, [⟨b14, 25, [i2 s_10, i2 s_11, i2 s_12, i2 s_13, i2 s_14, .slice a10 ((l_4).length) c11]⟩], L20]) (fun _ h => h) ?_)
            refine WK_seq ?_
            refine WK_region ?_
            refine WO_loadB tbok 0 rfl rfl rfl rfl (fun _ h => h) rfl rfl ?_
            refine WO_pure tbok 1 [(3, pb2 b1), (6, .bool false), (7, i2 (Int.tmod (w64 (p1)) 9)), (8, pb2 b13), (9, pb2 b14), (81, .agg #[i2 p0_0, i2 p0_1, i2 p0_2, i2 p0_3, i2 p0_4, .slice a_p0_5 p0_5.length c_p0_5]), (82, i2 (Int.tmod (w64 (p1)) 9))] rfl ⟨rfl, rfl, rfl, rfl, rfl, rfl, rfl, trivial⟩ ?_
            obtain ⟨⟨y_20, y_21, y_22, y_23, y_24, y_25, y_26⟩, hc30, hm⟩ := bind_some hm
            refine WO_call2 (terrain_Open_Q (y_20, y_21, y_22, y_23, y_24, y_25, y_26)) rfl rfl trivial rfl rfl rfl rfl ⟨26, #[], #[], rfl, callable_26, terrain_Open_walk h_p0_5 hc30⟩ (fun v34 m35 L33 hle36 hq => ?_)
            obtain ⟨a31, qa31, c32, rfl, h37⟩ := hq
            obtain rfl := SlR.qlen h37
            let B2 : Ent := ⟨b13, 25, [i2 s_5, i2 s_6, i2 s_7, i2 s_8, i2 s_9, .slice a7 ((l_3).length) c8]⟩
            let B3 : Ent := ⟨b14, 25, [i2 s_10, i2 s_11, i2 s_12, i2 s_13, i2 s_14, .slice a10 ((l_4).length) c11]⟩
            refine WO.cls (C' := St w0 m m35 [[B1], [B2], L19, [B3], L20, L33]) (fun _ h => h.sub (by simp +zetaDelta)) ?_
            refine WO_pure tbok 3 [(3, pb2 b1), (6, .bool false), (7, i2 (Int.tmod (w64 (p1)) 9)), (8, pb2 b13), (9, pb2 b14), (84, .agg #[i2 y_20, i2 y_21, i2 y_22, i2 y_23, i2 y_24, .slice a31 ((y_25).length) c32]), (85, i2 y_26)] rfl ⟨rfl, rfl, rfl, rfl, rfl, rfl, rfl, trivial⟩ ?_
            refine WO_alloc tbok [i2 0, i2 0, i2 0, i2 0, i2 0, .slice none 0 0] rfl rfl trivial rfl rfl rfl rfl (fun b38 => ?_)
            let B4 : Ent := ⟨b38, 25, [i2 0, i2 0, i2 0, i2 0, i2 0, .slice none 0 0]⟩
            refine WO.cls (C' := St w0 m m35 [[B1], [B2], L19, [B3], L20, L33, [B4]]) (fun _ h => h) ?_
            refine WO_storeB tbok 6 [i2 y_20, i2 y_21, i2 y_22, i2 y_23, i2 y_24, .slice a31 ((y_25).length) c32] rfl rfl rfl rfl rfl rfl rfl ?_
            let B5 : Ent := ⟨b38, 25, [i2 y_20, i2 y_21, i2 y_22, i2 y_23, i2 y_24, .slice a31 ((y_25).length) c32]⟩
            refine WO.cls (C' := St w0 m m35 [[B1], [B2], L19, [B3], L20, L33, [B5]]) (fun _ h => h) ?_
            refine WO_pure tbok 1 [(3, pb2 b1), (6, .bool false), (7, i2 (Int.tmod (w64 (p1)) 9)), (8, pb2 b13), (9, pb2 b14), (12, pb2 b38), (13, i2 y_26)] rfl ⟨rfl, rfl, rfl, rfl, rfl, rfl, rfl, trivial⟩ ?_
            refine WO_end ?_
            refine WK_seq ?_
            refine WK_region ?_
            refine WO_loadB tbok 6 rfl rfl rfl rfl (fun _ h => h) rfl rfl ?_
            refine WO_pure tbok 1 [(3, pb2 b1), (6, .bool false), (7, i2 (Int.tmod (w64 (p1)) 9)), (8, pb2 b13), (9, pb2 b14), (12, pb2 b38), (13, i2 y_26), (87, .agg #[i2 y_20, i2 y_21, i2 y_22, i2 y_23, i2 y_24, .slice a31 ((y_25).length) c32]), (88, i2 (Int.tmod (w64 (p1)) 9))] rfl ⟨rfl, rfl, rfl, rfl, rfl, rfl, rfl, rfl, rfl, trivial⟩ ?_
            obtain ⟨⟨y_27, y_28, y_29, y_30, y_31, y_32, y_33⟩, hc39, hm⟩ := bind_some hm
            refine WO_call2 (terrain_Open_Q (y_27, y_28, y_29, y_30, y_31, y_32, y_33)) rfl rfl trivial rfl rfl rfl rfl ⟨26, #[], #[], rfl, callable_26, terrain_Open_walk h37 hc39⟩ (fun v43 m44 L42 hle45 hq => ?_)
            obtain ⟨a40, qa40, c41, rfl, h46⟩ := hq
            obtain rfl := SlR.qlen h46
            refine WO.cls (C' := St w0 m m44 [[B1], [B2], L19, [B3], L20, L33, [B5], L42]) (fun _ h => h.sub (by simp +zetaDelta)) ?_
            refine WO_pure tbok 3 [(3, pb2 b1), (6, .bool false), (7, i2 (Int.tmod (w64 (p1)) 9)), (8, pb2 b13), (9, pb2 b14), (12, pb2 b38), (13, i2 y_26), (90, .agg #[i2 y_27, i2 y_28, i2 y_29, i2 y_30, i2 y_31, .slice a40 ((y_32).length) c41]), (91, i2 y_33)] rfl ⟨rfl, rfl, rfl, rfl, rfl, rfl, rfl, rfl, rfl, trivial⟩ ?_
            refine WO_alloc tbok [i2 0, i2 0, i2 0, i2 0, i2 0, .slice none 0 0] rfl rfl trivial rfl rfl rfl rfl (fun b47 => ?_)
            let B6 : Ent := ⟨b47, 25, [i2 0, i2 0, i2 0, i2 0, i2 0, .slice none 0 0]⟩
            refine WO.cls (C' := St w0 m m44 [[B1], [B2], L19, [B3], L20, L33, [B5], L42, [B6]]) (fun _ h => h) ?_
            refine WO_storeB tbok 8 [i2 y_27, i2 y_28, i2 y_29, i2 y_30, i2 y_31, .slice a40 ((y_32).length) c41] rfl rfl rfl rfl rfl rfl rfl ?_
            let B7 : Ent := ⟨b47, 25, [i2 y_27, i2 y_28, i2 y_29, i2 y_30, i2 y_31, .slice a40 ((y_32).length) c41]⟩
            refine WO.cls (C' := St w0 m m44 [[B1], [B2], L19, [B3], L20, L33, [B5], L42, [B7]]) (fun _ h => h) ?_
            refine WO_pure tbok 1 [(3, pb2 b1), (6, .bool false), (7, i2 (Int.tmod (w64 (p1)) 9)), (8, pb2 b13), (9, pb2 b14), (12, pb2 b38), (13, i2 y_26), (14, pb2 b47), (15, i2 y_33)] rfl ⟨rfl, rfl, rfl, rfl, rfl, rfl, rfl, rfl, rfl, trivial⟩ ?_
            refine WO_end ?_
            refine WK_seq ?_
            refine WK_region ?_
            refine WO_loadB tbok 1 rfl rfl rfl rfl (fun _ h => h) rfl rfl ?_
            refine WO_pure tbok 1 [(3, pb2 b1), (6, .bool false), (7, i2 (Int.tmod (w64 (p1)) 9)), (9, pb2 b14), (12, pb2 b38), (13, i2 y_26), (14, pb2 b47), (15, i2 y_33), (93, .agg #[i2 s_5, i2 s_6, i2 s_7, i2 s_8, i2 s_9, .slice a7 ((l_3).length) c8]), (94, i2 (Int.tmod (w64 (p1)) 9))] rfl ⟨rfl, rfl, rfl, rfl, rfl, rfl, rfl, rfl, rfl, rfl, trivial⟩ ?_
            refine WO_freeze 2 rfl (fun m48 hle49 hmm50 => ?_)
            refine WO.cls (C' := St w0 m m48 [[B1], [B2], [], [B3], L20, L33, [B5], L42, [B7]]) (fun _ h => h) ?_
            obtain ⟨⟨y_34, y_35, y_36, y_37, y_38, y_39, y_40⟩, hc51, hm⟩ := bind_some hm
            refine WO_call2 (terrain_Open_Q (y_34, y_35, y_36, y_37, y_38, y_39, y_40)) rfl rfl trivial rfl rfl rfl rfl ⟨26, #[], #[], rfl, callable_26, terrain_Open_walk (OwnE.rd (E := (I1 .i64)) (k := 1) (fun _ => rfl) hL19 hmm50) hc51⟩ (fun v55 m56 L54 hle57 hq => ?_)
            obtain ⟨a52, qa52, c53, rfl, h58⟩ := hq
            obtain rfl := SlR.qlen h58
            refine WO.cls (C' := St w0 m m56 [[B1], [B2], [], [B3], L20, L33, [B5], L42, [B7], L54]) (fun _ h => h.sub (by simp +zetaDelta)) ?_
            refine WO_pure tbok 3 [(3, pb2 b1), (6, .bool false), (7, i2 (Int.tmod (w64 (p1)) 9)), (9, pb2 b14), (12, pb2 b38), (13, i2 y_26), (14, pb2 b47), (15, i2 y_33), (96, .agg #[i2 y_34, i2 y_35, i2 y_36, i2 y_37, i2 y_38, .slice a52 ((y_39).length) c53]), (97, i2 y_40)] rfl ⟨rfl, rfl, rfl, rfl, rfl, rfl, rfl, rfl, rfl, rfl, trivial⟩ ?_
            refine WO_alloc tbok [i2 0, i2 0, i2 0, i2 0, i2 0, .slice none 0 0] rfl rfl trivial rfl rfl rfl rfl (fun b59 => ?_)
            let B8 : Ent := ⟨b59, 25, [i2 0, i2 0, i2 0, i2 0, i2 0, .slice none 0 0]⟩
            refine WO.cls (C' := St w0 m m56 [[B1], [B2], [], [B3], L20, L33, [B5], L42, [B7], L54, [B8]]) (fun _ h => h) ?_
            refine WO_storeB tbok 10 [i2 y_34, i2 y_35, i2 y_36, i2 y_37, i2 y_38, .slice a52 ((y_39).length) c53] rfl rfl rfl rfl rfl rfl rfl ?_
            let B9 : Ent := ⟨b59, 25, [i2 y_34, i2 y_35, i2 y_36, i2 y_37, i2 y_38, .slice a52 ((y_39).length) c53]⟩
            refine WO.cls (C' := St w0 m m56 [[B1], [B2], [], [B3], L20, L33, [B5], L42, [B7], L54, [B9]]) (fun _ h => h) ?_
            refine WO_pure tbok 1 [(3, pb2 b1), (6, .bool false), (7, i2 (Int.tmod (w64 (p1)) 9)), (9, pb2 b14), (12, pb2 b38), (13, i2 y_26), (14, pb2 b47), (15, i2 y_33), (16, pb2 b59), (17, i2 y_40)] rfl ⟨rfl, rfl, rfl, rfl, rfl, rfl, rfl, rfl, rfl, rfl, trivial⟩ ?_
            refine WO_end ?_
            refine WK_seq ?_
            refine WK_region ?_
            refine WO_loadB tbok 0 rfl rfl rfl rfl (fun _ h => h) rfl rfl ?_
            refine WO_pure tbok 1 [(3, pb2 b1), (6, .bool false), (7, i2 (Int.tmod (w64 (p1)) 9)), (9, pb2 b14), (12, pb2 b38), (13, i2 y_26), (14, pb2 b47), (15, i2 y_33), (16, pb2 b59), (17, i2 y_40), (99, .agg #[i2 p0_0, i2 p0_1, i2 p0_2, i2 p0_3, i2 p0_4, .slice a_p0_5 p0_5.length c_p0_5]), (100, i2 (Int.tmod (w64 (p1)) 9))] rfl ⟨rfl, rfl, rfl, rfl, rfl, rfl, rfl, rfl, rfl, rfl, rfl, rfl, trivial⟩ ?_
            obtain ⟨⟨y_41, y_42, y_43, y_44, y_45, y_46, y_47⟩, hc60, hm⟩ := bind_some hm
            refine WO_call2 (terrain_Erode_Q (y_41, y_42, y_43, y_44, y_45, y_46, y_47)) rfl rfl trivial rfl rfl rfl rfl ⟨24, #[], #[], rfl, callable_24, terrain_Erode_walk ((((h_p0_5.mono (mono_FE _) hle36).mono (mono_FE _) hle45).mono (mono_FE _) hle49).mono (mono_FE _) hle57) hc60⟩ (fun v64 m65 L63 hle66 hq => ?_)
            obtain ⟨a61, qa61, c62, rfl, h67⟩ := hq
            obtain rfl := SlR.qlen h67
            refine WO.cls (C' := St w0 m m65 [[B1], [B2], [], [B3], L20, L33, [B5], L42, [B7], L54, [B9], L63]) (fun _ h => h.sub (by simp +zetaDelta)) ?_
            refine WO_pure tbok 3 [(3, pb2 b1), (6, .bool false), (7, i2 (Int.tmod (w64 (p1)) 9)), (9, pb2 b14), (12, pb2 b38), (13, i2 y_26), (14, pb2 b47), (15, i2 y_33), (16, pb2 b59), (17, i2 y_40), (102, .agg #[i2 y_41, i2 y_42, i2 y_43, i2 y_44, i2 y_45, .slice a61 ((y_46).length) c62]), (103, i2 y_47)] rfl ⟨rfl, rfl, rfl, rfl, rfl, rfl, rfl, rfl, rfl, rfl, rfl, rfl, trivial⟩ ?_
            refine WO_alloc tbok [i2 0, i2 0, i2 0, i2 0, i2 0, .slice none 0 0] rfl rfl trivial rfl rfl rfl rfl (fun b68 => ?_)
            let B10 : Ent := ⟨b68, 25, [i2 0, i2 0, i2 0, i2 0, i2 0, .slice none 0 0]⟩
            refine WO.cls (C' := St w0 m m65 [[B1], [B2], [], [B3], L20, L33, [B5], L42, [B7], L54, [B9], L63, [B10]]) (fun _ h => h) ?_
            refine WO_storeB tbok 12 [i2 y_41, i2 y_42, i2 y_43, i2 y_44, i2 y_45, .slice a61 ((y_46).length) c62] rfl rfl rfl rfl rfl rfl rfl ?_
            let B11 : Ent := ⟨b68, 25, [i2 y_41, i2 y_42, i2 y_43, i2 y_44, i2 y_45, .slice a61 ((y_46).length) c62]⟩
            refine WO.cls (C' := St w0 m m65 [[B1], [B2], [], [B3], L20, L33, [B5], L42, [B7], L54, [B9], L63, [B11]]) (fun _ h => h) ?_
            refine WO_pure tbok 1 [(3, pb2 b1), (6, .bool false), (7, i2 (Int.tmod (w64 (p1)) 9)), (9, pb2 b14), (12, pb2 b38), (13, i2 y_26), (14, pb2 b47), (15, i2 y_33), (16, pb2 b59), (17, i2 y_40), (18, pb2 b68), (19, i2 y_47)] rfl ⟨rfl, rfl, rfl, rfl, rfl, rfl, rfl, rfl, rfl, rfl, rfl, rfl, trivial⟩ ?_
            refine WO_end ?_
            refine WK_seq ?_
            refine WK_region ?_
            refine WO_loadB tbok 3 rfl rfl rfl rfl (fun _ h => h) rfl rfl ?_
            refine WO_pure tbok 1 [(3, pb2 b1), (6, .bool false), (12, pb2 b38), (13, i2 y_26), (14, pb2 b47), (15, i2 y_33), (16, pb2 b59), (17, i2 y_40), (18, pb2 b68), (19, i2 y_47), (105, .agg #[i2 s_10, i2 s_11, i2 s_12, i2 s_13, i2 s_14, .slice a10 ((l_4).length) c11]), (106, i2 (Int.tmod (w64 (p1)) 9))] rfl ⟨rfl, rfl, rfl, rfl, rfl, rfl, rfl, rfl, rfl, rfl, rfl, rfl, trivial⟩ ?_
            refine WO_freeze 4 rfl (fun m69 hle70 hmm71 => ?_)
            refine WO.cls (C' := St w0 m m69 [[B1], [B2], [], [B3], [], L33, [B5], L42, [B7], L54, [B9], L63, [B11]]) (fun _ h => h) ?_
            obtain ⟨⟨y_48, y_49, y_50, y_51, y_52, y_53, y_54⟩, hc72, hm⟩ := bind_some hm
            refine WO_call2 (terrain_Dilate_Q (y_48, y_49, y_50, y_51, y_52, y_53, y_54)) rfl rfl trivial rfl rfl rfl rfl ⟨25, #[], #[], rfl, callable_25, terrain_Dilate_walk (OwnE.rd (E := (I1 .i64)) (k := 1) (fun _ => rfl) hL20 hmm71) hc72⟩ (fun v76 m77 L75 hle78 hq => ?_)
            obtain ⟨a73, qa73, c74, rfl, h79⟩ := hq
            obtain rfl := SlR.qlen h79
            refine WO.cls (C' := St w0 m m77 [[B1], [B2], [], [B3], [], L33, [B5], L42, [B7], L54, [B9], L63, [B11], L75]) (fun _ h => h.sub (by simp +zetaDelta)) ?_
            refine WO_pure tbok 3 [(3, pb2 b1), (6, .bool false), (12, pb2 b38), (13, i2 y_26), (14, pb2 b47), (15, i2 y_33), (16, pb2 b59), (17, i2 y_40), (18, pb2 b68), (19, i2 y_47), (108, .agg #[i2 y_48, i2 y_49, i2 y_50, i2 y_51, i2 y_52, .slice a73 ((y_53).length) c74]), (109, i2 y_54)] rfl ⟨rfl, rfl, rfl, rfl, rfl, rfl, rfl, rfl, rfl, rfl, rfl, rfl, trivial⟩ ?_
            refine WO_alloc tbok [i2 0, i2 0, i2 0, i2 0, i2 0, .slice none 0 0] rfl rfl trivial rfl rfl rfl rfl (fun b80 => ?_)
            let B12 : Ent := ⟨b80, 25, [i2 0, i2 0, i2 0, i2 0, i2 0, .slice none 0 0]⟩
            refine WO.cls (C' := St w0 m m77 [[B1], [B2], [], [B3], [], L33, [B5], L42, [B7], L54, [B9], L63, [B11], L75, [B12]]) (fun _ h => h) ?_
            refine WO_storeB tbok 14 [i2 y_48, i2 y_49, i2 y_50, i2 y_51, i2 y_52, .slice a73 ((y_53).length) c74] rfl rfl rfl rfl rfl rfl rfl ?_
            let B13 : Ent := ⟨b80, 25, [i2 y_48, i2 y_49, i2 y_50, i2 y_51, i2 y_52, .slice a73 ((y_53).length) c74]⟩
            refine WO.cls (C' := St w0 m m77 [[B1], [B2], [], [B3], [], L33, [B5], L42, [B7], L54, [B9], L63, [B11], L75, [B13]]) (fun _ h => h) ?_
            refine WO_pure tbok 1 [(3, pb2 b1), (6, .bool false), (12, pb2 b38), (13, i2 y_26), (14, pb2 b47), (15, i2 y_33), (16, pb2 b59), (17, i2 y_40), (18, pb2 b68), (19, i2 y_47), (20, pb2 b80), (21, i2 y_54)] rfl ⟨rfl, rfl, rfl, rfl, rfl, rfl, rfl, rfl, rfl, rfl, rfl, rfl, trivial⟩ ?_
            refine WO_end ?_
            refine WK_seq ?_
            refine WK_seq ?_
            obtain ⟨s_55, hx81, hm⟩ := bind_some hm
            refine WK_meet [(3, pb2 b1), (6, .bool false), (12, pb2 b38), (16, pb2 b59), (18, pb2 b68), (20, pb2 b80), (161, .bool s_55)] (St w0 m m77 [[B1], [B2], [], [B3], [], L33, [B5], L42, [B7], L54, [B9], L63, [B11], L75, [B13]]) ?_ (fun hk82 => ?_)
            · refine WK_cond (b := s_55) rfl (fun hb83 => ?_) (fun hb83 => ?_)
              · have hm := ifT hb83 hm
                refine WK_seq ?_
                refine WK_region ?_
                refine WO_pure tbok 1 [(3, pb2 b1), (6, .bool false), (12, pb2 b38), (16, pb2 b59), (18, pb2 b68), (20, pb2 b80)] rfl ⟨rfl, rfl, rfl, rfl, rfl, rfl, trivial⟩ ?_
                refine WO_end ?_
                cases hm
                exact WK_ret (ret_out (L := []) (RLc_tmp rfl RLc_nil) (List.nil_sublist _) rfl)
              · have hm := ifF hb83 hm
                refine WK_skip ?_
                refine WK_seq ?_
                refine WK_seq ?_
                refine WK_region ?_
                refine WO_pure tbok 1 [(6, .bool false), (12, pb2 b38), (16, pb2 b59), (18, pb2 b68), (20, pb2 b80), (162, .pointer (some ⟨b1, 5, none⟩))] rfl ⟨rfl, rfl, rfl, rfl, rfl, rfl, trivial⟩ ?_
                refine WO_loadB tbok 0 rfl rfl rfl rfl (fun _ h => h) rfl rfl ?_
                refine WO_pure tbok 2 [(6, .bool false), (12, pb2 b38), (16, pb2 b59), (18, pb2 b68), (20, pb2 b80), (163, .slice a_p0_5 p0_5.length c_p0_5), (164, i2 (p0_5.length : Int)), (165, i2 0)] rfl ⟨rfl, rfl, rfl, rfl, rfl, rfl, rfl, rfl, trivial⟩ ?_
                refine WO_end ?_
                obtain ⟨x84, hx85, hm⟩ := bind_some hm
                refine WK_join (β := Unit × Unit) (fun p => Sum.inr p.1 = x84) (fun p => [(6, .bool false)]) (fun p => St w0 m m77 [[B1], [B2], [], [B3], [], L33, [B5], L42, [B7], L54, [B9], L63, [B11], L75, [B13]]) ?_ (fun hk86 => ?_)
                · rintro ⟨⟨⟩, ⟨⟩⟩ hq92
                  subst hq92
                  refine WK.sub (e' := [(6, .bool false)]) ⟨rfl, trivial⟩ (WK.cls (C' := St w0 m m77 [[B1], [B2], [], [B3], [], L33, [B5], L42, [B7], L54, [B9], L63, [B11], L75, [B13]]) (fun _ h => h) ?_)
                  refine WK_seq ?_
                  refine WK_region ?_
                  refine WO_pure tbok 1 [(6, .bool true)] rfl ⟨rfl, trivial⟩ ?_
                  refine WO_end ?_
                  cases hm
                  exact WK_ret (ret_out (L := []) (RLc_tmp rfl RLc_nil) (List.nil_sublist _) rfl)
                · refine WK_block ?_
                  refine WK_loop (S := Int) (G := Unit) (fun s => fiduciallaw48_TerrainOpens_s2 p0_5 y_25 y_39 y_46 y_53 s) (fun s g => [(6, .bool false), (12, pb2 b38), (16, pb2 b59), (18, pb2 b68), (20, pb2 b80), (163, .slice a_p0_5 p0_5.length c_p0_5), (164, i2 (p0_5.length : Int)), (165, i2 s)]) (fun s g => St w0 m m77 [[B1], [B2], [], [B3], [], L33, [B5], L42, [B7], L54, [B9], L63, [B11], L75, [B13]]) (fun s g => True) FUEL 0 () x84 hx85 trivial ⟨rfl, rfl, rfl, rfl, rfl, rfl, rfl, rfl, trivial⟩ (fun _ h => h) ?_
                  rintro s_56 ⟨⟩ o88 fl89 hm87 - hn90 hd91
                  have hm87 : fiduciallaw48_TerrainOpens_s2 p0_5 y_25 y_39 y_46 y_53 s_56 = some o88 := hm87
                  unfold fiduciallaw48_TerrainOpens_s2 at hm87
                  refine WK.sub (e' := [(6, .bool false), (12, pb2 b38), (16, pb2 b59), (18, pb2 b68), (20, pb2 b80), (163, .slice a_p0_5 p0_5.length c_p0_5), (164, i2 (p0_5.length : Int)), (165, i2 s_56)]) ⟨rfl, rfl, rfl, rfl, rfl, rfl, rfl, rfl, trivial⟩ (WK.cls (C' := St w0 m m77 [[B1], [B2], [], [B3], [], L33, [B5], L42, [B7], L54, [B9], L63, [B11], L75, [B13]]) (fun _ h => h) ?_)
                  refine WK_seq ?_
                  refine WK_region ?_
                  refine WO_pure tbok 1 [(6, .bool false), (12, pb2 b38), (16, pb2 b59), (18, pb2 b68), (20, pb2 b80), (163, .slice a_p0_5 p0_5.length c_p0_5), (164, i2 (p0_5.length : Int)), (165, i2 s_56), (166, .bool (decide (s_56 < (p0_5.length : Int))))] rfl ⟨rfl, rfl, rfl, rfl, rfl, rfl, rfl, rfl, rfl, trivial⟩ ?_
                  refine WO_end ?_
                  refine WK_seq ?_
                  refine WK_cond (b := decide (s_56 < (p0_5.length : Int))) rfl (fun hb93 => ?_) (fun hb93 => ?_)
                  · have hm87 := ifT hb93 hm87
                    refine WK_skip ?_
                    refine WK_seq ?_
                    refine WK_block ?_
                    refine WK_seq ?_
                    refine WK_region ?_
                    refine WO_pure tbok 1 [(6, .bool false), (12, pb2 b38), (16, pb2 b59), (18, pb2 b68), (20, pb2 b80), (163, .slice a_p0_5 p0_5.length c_p0_5), (164, i2 (p0_5.length : Int)), (165, i2 s_56), (167, i2 s_56)] rfl ⟨rfl, rfl, rfl, rfl, rfl, rfl, rfl, rfl, rfl, trivial⟩ ?_
                    obtain ⟨v_57, hy94, hm87⟩ := bind_some hm87
                    obtain ⟨hc95, hy94⟩ := ix_some hy94
                    refine WO_index tbok rfl rfl rfl rfl rfl rfl rfl rfl (SlR.addr (((((((h_p0_5.mono (mono_FE _) hle36).mono (mono_FE _) hle45).mono (mono_FE _) hle49).mono (mono_FE _) hle57).mono (mono_FE _) hle66).mono (mono_FE _) hle70).mono (mono_FE _) hle78)) hc95 ?_
                    refine WO_loadE tbok rfl rfl rfl rfl (fun _ h => St.sat h) (((((((h_p0_5.mono (mono_FE _) hle36).mono (mono_FE _) hle45).mono (mono_FE _) hle49).mono (mono_FE _) hle57).mono (mono_FE _) hle66).mono (mono_FE _) hle70).mono (mono_FE _) hle78) hy94 rfl ?_
                    refine WO_pure tbok 2 [(6, .bool false), (12, pb2 b38), (16, pb2 b59), (18, pb2 b68), (20, pb2 b80), (22, i2 s_56), (23, i2 v_57), (163, .slice a_p0_5 p0_5.length c_p0_5), (164, i2 (p0_5.length : Int)), (165, i2 s_56)] rfl ⟨rfl, rfl, rfl, rfl, rfl, rfl, rfl, rfl, rfl, rfl, trivial⟩ ?_
                    refine WO_end ?_
                    refine WK_seq ?_
                    refine WK_seq ?_
                    refine WK_region ?_
                    refine WO_pure tbok 2 [(6, .bool false), (12, pb2 b38), (16, pb2 b59), (18, pb2 b68), (20, pb2 b80), (22, i2 s_56), (23, i2 v_57), (163, .slice a_p0_5 p0_5.length c_p0_5), (164, i2 (p0_5.length : Int)), (165, i2 s_56), (171, .bool (v_57 == (-2147483648)))] rfl ⟨rfl, rfl, rfl, rfl, rfl, rfl, rfl, rfl, rfl, rfl, rfl, trivial⟩ ?_
                    refine WO_end ?_
                    refine WK_cond (b := v_57 == (-2147483648)) rfl (fun hb96 => ?_) (fun hb96 => ?_)
                    · have hm87 := ifT hb96 hm87
                      refine WK_seq ?_
                      refine WK_seq ?_
                      obtain ⟨s_58, hx97, hm87⟩ := bind_some hm87
                      refine WK_meet [(6, .bool false), (12, pb2 b38), (16, pb2 b59), (18, pb2 b68), (20, pb2 b80), (22, i2 s_56), (23, i2 v_57), (163, .slice a_p0_5 p0_5.length c_p0_5), (164, i2 (p0_5.length : Int)), (165, i2 s_56), (193, .bool s_58)] (St w0 m m77 [[B1], [B2], [], [B3], [], L33, [B5], L42, [B7], L54, [B9], L63, [B11], L75, [B13]]) ?_ (fun hk98 => ?_)
                      · refine WK_cond (b := s_58) rfl (fun hb99 => ?_) (fun hb99 => ?_)
                        · have hm87 := ifT hb99 hm87
                          refine WK_seq ?_
                          refine WK_region ?_
                          refine WO_pure tbok 1 [(6, .bool false), (12, pb2 b38), (16, pb2 b59), (18, pb2 b68), (20, pb2 b80), (22, i2 s_56), (23, i2 v_57), (163, .slice a_p0_5 p0_5.length c_p0_5), (164, i2 (p0_5.length : Int)), (165, i2 s_56)] rfl ⟨rfl, rfl, rfl, rfl, rfl, rfl, rfl, rfl, rfl, rfl, trivial⟩ ?_
                          refine WO_end ?_
                          cases hm87
                          have hq := hd91 _ rfl
                          subst hq
                          have hm : some _ = some _ := hm
                          cases hm
                          exact WK_ret (ret_out (L := []) (RLc_tmp rfl RLc_nil) (List.nil_sublist _) rfl)
                        · have hm87 := ifF hb99 hm87
                          refine WK_skip ?_
                          refine WK_exit rfl ?_
                          refine WK_region ?_
                          refine WO_pure tbok 2 [(6, .bool false), (12, pb2 b38), (16, pb2 b59), (18, pb2 b68), (20, pb2 b80), (163, .slice a_p0_5 p0_5.length c_p0_5), (164, i2 (p0_5.length : Int)), (165, i2 (w64 (s_56 + 1)))] rfl ⟨rfl, rfl, rfl, rfl, rfl, rfl, rfl, rfl, trivial⟩ ?_
                          refine WO_end ?_
                          cases hm87
                          refine WK.sub ?_ (WK.cls (fun _ h => h) (hn90 _ () rfl trivial))
                          exact ⟨rfl, rfl, rfl, rfl, rfl, rfl, rfl, rfl, trivial⟩
                      · refine WK_region ?_
                        refine WO_pure tbok 1 [(6, .bool false), (12, pb2 b38), (16, pb2 b59), (18, pb2 b68), (20, pb2 b80), (22, i2 s_56), (23, i2 v_57), (163, .slice a_p0_5 p0_5.length c_p0_5), (164, i2 (p0_5.length : Int)), (165, i2 s_56), (172, .pointer (some ⟨b38, 5, none⟩))] rfl ⟨rfl, rfl, rfl, rfl, rfl, rfl, rfl, rfl, rfl, rfl, rfl, trivial⟩ ?_
                        refine WO_loadB tbok 6 rfl rfl rfl rfl (fun _ h => h) rfl rfl ?_
                        refine WO_pure tbok 1 [(6, .bool false), (12, pb2 b38), (16, pb2 b59), (18, pb2 b68), (20, pb2 b80), (22, i2 s_56), (23, i2 v_57), (163, .slice a_p0_5 p0_5.length c_p0_5), (164, i2 (p0_5.length : Int)), (165, i2 s_56), (173, .slice a31 ((y_25).length) c32), (174, i2 s_56)] rfl ⟨rfl, rfl, rfl, rfl, rfl, rfl, rfl, rfl, rfl, rfl, rfl, rfl, trivial⟩ ?_
                        obtain ⟨v_59, hy100, hx97⟩ := bind_some hx97
                        obtain ⟨hc101, hy100⟩ := ix_some hy100
                        refine WO_index tbok rfl rfl rfl rfl rfl rfl rfl rfl (SlR.addr ((((((h37.mono (mono_FE _) hle45).mono (mono_FE _) hle49).mono (mono_FE _) hle57).mono (mono_FE _) hle66).mono (mono_FE _) hle70).mono (mono_FE _) hle78)) hc101 ?_
                        refine WO_loadE tbok rfl rfl rfl rfl (fun _ h => St.sat h) ((((((h37.mono (mono_FE _) hle45).mono (mono_FE _) hle49).mono (mono_FE _) hle57).mono (mono_FE _) hle66).mono (mono_FE _) hle70).mono (mono_FE _) hle78) hy100 rfl ?_
                        refine WO_pure tbok 2 [(6, .bool false), (12, pb2 b38), (16, pb2 b59), (18, pb2 b68), (20, pb2 b80), (22, i2 s_56), (23, i2 v_57), (163, .slice a_p0_5 p0_5.length c_p0_5), (164, i2 (p0_5.length : Int)), (165, i2 s_56), (178, .bool (v_59 != (-2147483648)))] rfl ⟨rfl, rfl, rfl, rfl, rfl, rfl, rfl, rfl, rfl, rfl, rfl, trivial⟩ ?_
                        refine WO_split (d := 178) (b := v_59 != (-2147483648)) rfl (fun hb102 => ?_) (fun hb102 => ?_)
                        · have hx97 := ifT hb102 hx97
                          refine WO_pure tbok 15 [(6, .bool false), (12, pb2 b38), (16, pb2 b59), (18, pb2 b68), (20, pb2 b80), (22, i2 s_56), (23, i2 v_57), (163, .slice a_p0_5 p0_5.length c_p0_5), (164, i2 (p0_5.length : Int)), (165, i2 s_56), (193, .bool true)] rfl ⟨rfl, rfl, rfl, rfl, rfl, rfl, rfl, rfl, rfl, rfl, rfl, trivial⟩ ?_
                          refine WO_end ?_
                          cases hx97
                          refine WK.sub ?_ (WK.cls (fun _ h => h) hk98)
                          exact ⟨rfl, rfl, rfl, rfl, rfl, rfl, rfl, rfl, rfl, rfl, rfl, trivial⟩
                        · have hx97 := ifF hb102 hx97
                          refine WO_pure tbok 1 [(6, .bool false), (12, pb2 b38), (16, pb2 b59), (18, pb2 b68), (20, pb2 b80), (22, i2 s_56), (23, i2 v_57), (163, .slice a_p0_5 p0_5.length c_p0_5), (164, i2 (p0_5.length : Int)), (165, i2 s_56), (178, .bool false), (179, .pointer (some ⟨b68, 5, none⟩))] rfl ⟨rfl, rfl, rfl, rfl, rfl, rfl, rfl, rfl, rfl, rfl, rfl, rfl, trivial⟩ ?_
                          refine WO_loadB tbok 12 rfl rfl rfl rfl (fun _ h => h) rfl rfl ?_
                          refine WO_pure tbok 1 [(6, .bool false), (12, pb2 b38), (16, pb2 b59), (18, pb2 b68), (20, pb2 b80), (22, i2 s_56), (23, i2 v_57), (163, .slice a_p0_5 p0_5.length c_p0_5), (164, i2 (p0_5.length : Int)), (165, i2 s_56), (178, .bool false), (180, .slice a61 ((y_46).length) c62), (181, i2 s_56)] rfl ⟨rfl, rfl, rfl, rfl, rfl, rfl, rfl, rfl, rfl, rfl, rfl, rfl, rfl, trivial⟩ ?_
                          obtain ⟨v_60, hy103, hx97⟩ := bind_some hx97
                          obtain ⟨hc104, hy103⟩ := ix_some hy103
                          refine WO_index tbok rfl rfl rfl rfl rfl rfl rfl rfl (SlR.addr ((h67.mono (mono_FE _) hle70).mono (mono_FE _) hle78)) hc104 ?_
                          refine WO_loadE tbok rfl rfl rfl rfl (fun _ h => St.sat h) ((h67.mono (mono_FE _) hle70).mono (mono_FE _) hle78) hy103 rfl ?_
                          refine WO_pure tbok 3 [(6, .bool false), (12, pb2 b38), (16, pb2 b59), (18, pb2 b68), (20, pb2 b80), (22, i2 s_56), (23, i2 v_57), (163, .slice a_p0_5 p0_5.length c_p0_5), (164, i2 (p0_5.length : Int)), (165, i2 s_56), (186, .bool (v_60 != (-2147483648)))] rfl ⟨rfl, rfl, rfl, rfl, rfl, rfl, rfl, rfl, rfl, rfl, rfl, trivial⟩ ?_
                          refine WO_split (d := 186) (b := v_60 != (-2147483648)) rfl (fun hb105 => ?_) (fun hb105 => ?_)
                          · have hx97 := ifT hb105 hx97
                            refine WO_pure tbok 7 [(6, .bool false), (12, pb2 b38), (16, pb2 b59), (18, pb2 b68), (20, pb2 b80), (22, i2 s_56), (23, i2 v_57), (163, .slice a_p0_5 p0_5.length c_p0_5), (164, i2 (p0_5.length : Int)), (165, i2 s_56), (193, .bool true)] rfl ⟨rfl, rfl, rfl, rfl, rfl, rfl, rfl, rfl, rfl, rfl, rfl, trivial⟩ ?_
                            refine WO_end ?_
                            cases hx97
                            refine WK.sub ?_ (WK.cls (fun _ h => h) hk98)
                            exact ⟨rfl, rfl, rfl, rfl, rfl, rfl, rfl, rfl, rfl, rfl, rfl, trivial⟩
                          · have hx97 := ifF hb105 hx97
                            refine WO_pure tbok 1 [(6, .bool false), (12, pb2 b38), (16, pb2 b59), (18, pb2 b68), (20, pb2 b80), (22, i2 s_56), (23, i2 v_57), (163, .slice a_p0_5 p0_5.length c_p0_5), (164, i2 (p0_5.length : Int)), (165, i2 s_56), (186, .bool false), (187, .pointer (some ⟨b80, 5, none⟩))] rfl ⟨rfl, rfl, rfl, rfl, rfl, rfl, rfl, rfl, rfl, rfl, rfl, rfl, trivial⟩ ?_
                            refine WO_loadB tbok 14 rfl rfl rfl rfl (fun _ h => h) rfl rfl ?_
                            refine WO_pure tbok 1 [(6, .bool false), (12, pb2 b38), (16, pb2 b59), (18, pb2 b68), (20, pb2 b80), (22, i2 s_56), (23, i2 v_57), (163, .slice a_p0_5 p0_5.length c_p0_5), (164, i2 (p0_5.length : Int)), (165, i2 s_56), (186, .bool false), (188, .slice a73 ((y_53).length) c74), (189, i2 s_56)] rfl ⟨rfl, rfl, rfl, rfl, rfl, rfl, rfl, rfl, rfl, rfl, rfl, rfl, rfl, trivial⟩ ?_
                            obtain ⟨v_61, hy106, hx97⟩ := bind_some hx97
                            obtain ⟨hc107, hy106⟩ := ix_some hy106
                            refine WO_index tbok rfl rfl rfl rfl rfl rfl rfl rfl (SlR.addr h79) hc107 ?_
                            refine WO_loadE tbok rfl rfl rfl rfl (fun _ h => St.sat h) h79 hy106 rfl ?_
                            refine WO_pure tbok 2 [(6, .bool false), (12, pb2 b38), (16, pb2 b59), (18, pb2 b68), (20, pb2 b80), (22, i2 s_56), (23, i2 v_57), (163, .slice a_p0_5 p0_5.length c_p0_5), (164, i2 (p0_5.length : Int)), (165, i2 s_56), (193, .bool (v_61 != (-2147483648)))] rfl ⟨rfl, rfl, rfl, rfl, rfl, rfl, rfl, rfl, rfl, rfl, rfl, trivial⟩ ?_
                            refine WO_end ?_
                            cases hx97
                            refine WK.sub ?_ (WK.cls (fun _ h => h) hk98)
                            exact ⟨rfl, rfl, rfl, rfl, rfl, rfl, rfl, rfl, rfl, rfl, rfl, trivial⟩
                    · have hm87 := ifF hb96 hm87
                      refine WK_skip ?_
                      refine WK_seq ?_
                      obtain ⟨s_62, hx108, hm87⟩ := bind_some hm87
                      refine WK_meet [(6, .bool false), (12, pb2 b38), (16, pb2 b59), (18, pb2 b68), (20, pb2 b80), (163, .slice a_p0_5 p0_5.length c_p0_5), (164, i2 (p0_5.length : Int)), (165, i2 s_56), (227, .bool s_62)] (St w0 m m77 [[B1], [B2], [], [B3], [], L33, [B5], L42, [B7], L54, [B9], L63, [B11], L75, [B13]]) ?_ (fun hk109 => ?_)
                      · refine WK_cond (b := s_62) rfl (fun hb110 => ?_) (fun hb110 => ?_)
                        · have hm87 := ifT hb110 hm87
                          refine WK_seq ?_
                          refine WK_region ?_
                          refine WO_pure tbok 1 [(6, .bool false), (12, pb2 b38), (16, pb2 b59), (18, pb2 b68), (20, pb2 b80), (163, .slice a_p0_5 p0_5.length c_p0_5), (164, i2 (p0_5.length : Int)), (165, i2 s_56)] rfl ⟨rfl, rfl, rfl, rfl, rfl, rfl, rfl, rfl, trivial⟩ ?_
                          refine WO_end ?_
                          cases hm87
                          have hq := hd91 _ rfl
                          subst hq
                          have hm : some _ = some _ := hm
                          cases hm
                          exact WK_ret (ret_out (L := []) (RLc_tmp rfl RLc_nil) (List.nil_sublist _) rfl)
                        · have hm87 := ifF hb110 hm87
                          refine WK_skip ?_
                          refine WK_blk ?_
                          refine WK_region ?_
                          refine WO_pure tbok 2 [(6, .bool false), (12, pb2 b38), (16, pb2 b59), (18, pb2 b68), (20, pb2 b80), (163, .slice a_p0_5 p0_5.length c_p0_5), (164, i2 (p0_5.length : Int)), (165, i2 (w64 (s_56 + 1)))] rfl ⟨rfl, rfl, rfl, rfl, rfl, rfl, rfl, rfl, trivial⟩ ?_
                          refine WO_end ?_
                          cases hm87
                          refine WK.sub ?_ (WK.cls (fun _ h => h) (hn90 _ () rfl trivial))
                          exact ⟨rfl, rfl, rfl, rfl, rfl, rfl, rfl, rfl, trivial⟩
                      · refine WK_draw 34 [0, 1, 2, 3, 4, 5, 6, 7, 8, 9, 10, 11, 12, 13, 14, 15, 16, 17, 18, 19, 20, 21, 22, 23, 24, 25, 26, 27, 28, 29, 30, 31, 32, 33] follows_ok (by kernel_rfl) St_closed ?_
                        refine WO_pure tbok 1 [(6, .bool false), (12, pb2 b38), (16, pb2 b59), (18, pb2 b68), (20, pb2 b80), (22, i2 s_56), (23, i2 v_57), (163, .slice a_p0_5 p0_5.length c_p0_5), (164, i2 (p0_5.length : Int)), (165, i2 s_56), (194, .pointer (some ⟨b38, 5, none⟩))] rfl ⟨rfl, rfl, rfl, rfl, rfl, rfl, rfl, rfl, rfl, rfl, rfl, trivial⟩ ?_
                        refine WO_loadB tbok 6 rfl rfl rfl rfl (fun _ h => h) rfl rfl ?_
                        refine WO_pure tbok 1 [(6, .bool false), (12, pb2 b38), (16, pb2 b59), (18, pb2 b68), (20, pb2 b80), (22, i2 s_56), (23, i2 v_57), (163, .slice a_p0_5 p0_5.length c_p0_5), (164, i2 (p0_5.length : Int)), (165, i2 s_56), (195, .slice a31 ((y_25).length) c32), (196, i2 s_56)] rfl ⟨rfl, rfl, rfl, rfl, rfl, rfl, rfl, rfl, rfl, rfl, rfl, rfl, trivial⟩ ?_
                        obtain ⟨v_63, hy111, hx108⟩ := bind_some hx108
                        obtain ⟨hc112, hy111⟩ := ix_some hy111
                        refine WO_index tbok rfl rfl rfl rfl rfl rfl rfl rfl (SlR.addr ((((((h37.mono (mono_FE _) hle45).mono (mono_FE _) hle49).mono (mono_FE _) hle57).mono (mono_FE _) hle66).mono (mono_FE _) hle70).mono (mono_FE _) hle78)) hc112 ?_
                        refine WO_loadE tbok rfl rfl rfl rfl (fun _ h => St.sat h) ((((((h37.mono (mono_FE _) hle45).mono (mono_FE _) hle49).mono (mono_FE _) hle57).mono (mono_FE _) hle66).mono (mono_FE _) hle70).mono (mono_FE _) hle78) hy111 rfl ?_
                        refine WO_pure tbok 3 [(6, .bool false), (12, pb2 b38), (16, pb2 b59), (18, pb2 b68), (20, pb2 b80), (22, i2 s_56), (163, .slice a_p0_5 p0_5.length c_p0_5), (164, i2 (p0_5.length : Int)), (165, i2 s_56), (201, .bool (decide (v_57 < v_63)))] rfl ⟨rfl, rfl, rfl, rfl, rfl, rfl, rfl, rfl, rfl, rfl, trivial⟩ ?_
                        refine WO_split (d := 201) (b := decide (v_57 < v_63)) rfl (fun hb113 => ?_) (fun hb113 => ?_)
                        · have hx108 := ifT hb113 hx108
                          refine WO_pure tbok 26 [(6, .bool false), (12, pb2 b38), (16, pb2 b59), (18, pb2 b68), (20, pb2 b80), (163, .slice a_p0_5 p0_5.length c_p0_5), (164, i2 (p0_5.length : Int)), (165, i2 s_56), (227, .bool true)] rfl ⟨rfl, rfl, rfl, rfl, rfl, rfl, rfl, rfl, rfl, trivial⟩ ?_
                          refine WO_tail ?_
                          refine WO_end ?_
                          cases hx108
                          refine WK.sub ?_ (WK.cls (fun _ h => h) hk109)
                          exact ⟨rfl, rfl, rfl, rfl, rfl, rfl, rfl, rfl, rfl, trivial⟩
                        · have hx108 := ifF hb113 hx108
                          refine WO_pure tbok 1 [(6, .bool false), (12, pb2 b38), (16, pb2 b59), (18, pb2 b68), (20, pb2 b80), (22, i2 s_56), (163, .slice a_p0_5 p0_5.length c_p0_5), (164, i2 (p0_5.length : Int)), (165, i2 s_56), (201, .bool false), (202, .pointer (some ⟨b59, 5, none⟩))] rfl ⟨rfl, rfl, rfl, rfl, rfl, rfl, rfl, rfl, rfl, rfl, rfl, trivial⟩ ?_
                          refine WO_loadB tbok 10 rfl rfl rfl rfl (fun _ h => h) rfl rfl ?_
                          refine WO_pure tbok 1 [(6, .bool false), (12, pb2 b38), (16, pb2 b59), (18, pb2 b68), (20, pb2 b80), (22, i2 s_56), (163, .slice a_p0_5 p0_5.length c_p0_5), (164, i2 (p0_5.length : Int)), (165, i2 s_56), (201, .bool false), (203, .slice a52 ((y_39).length) c53), (204, i2 s_56)] rfl ⟨rfl, rfl, rfl, rfl, rfl, rfl, rfl, rfl, rfl, rfl, rfl, rfl, trivial⟩ ?_
                          obtain ⟨v_64, hy114, hx108⟩ := bind_some hx108
                          obtain ⟨hc115, hy114⟩ := ix_some hy114
                          refine WO_index tbok rfl rfl rfl rfl rfl rfl rfl rfl (SlR.addr (((h58.mono (mono_FE _) hle66).mono (mono_FE _) hle70).mono (mono_FE _) hle78)) hc115 ?_
                          refine WO_loadE tbok rfl rfl rfl rfl (fun _ h => St.sat h) (((h58.mono (mono_FE _) hle66).mono (mono_FE _) hle70).mono (mono_FE _) hle78) hy114 rfl ?_
                          refine WO_pure tbok 1 [(6, .bool false), (12, pb2 b38), (16, pb2 b59), (18, pb2 b68), (20, pb2 b80), (22, i2 s_56), (163, .slice a_p0_5 p0_5.length c_p0_5), (164, i2 (p0_5.length : Int)), (165, i2 s_56), (201, .bool false), (206, i2 v_64), (207, .pointer (some ⟨b38, 5, none⟩))] rfl ⟨rfl, rfl, rfl, rfl, rfl, rfl, rfl, rfl, rfl, rfl, rfl, rfl, trivial⟩ ?_
                          refine WO_loadB tbok 6 rfl rfl rfl rfl (fun _ h => h) rfl rfl ?_
                          refine WO_pure tbok 1 [(6, .bool false), (12, pb2 b38), (16, pb2 b59), (18, pb2 b68), (20, pb2 b80), (22, i2 s_56), (163, .slice a_p0_5 p0_5.length c_p0_5), (164, i2 (p0_5.length : Int)), (165, i2 s_56), (201, .bool false), (206, i2 v_64), (208, .slice a31 ((y_25).length) c32), (209, i2 s_56)] rfl ⟨rfl, rfl, rfl, rfl, rfl, rfl, rfl, rfl, rfl, rfl, rfl, rfl, rfl, trivial⟩ ?_
                          obtain ⟨v_65, hy116, hx108⟩ := bind_some hx108
                          obtain ⟨hc117, hy116⟩ := ix_some hy116
                          refine WO_index tbok rfl rfl rfl rfl rfl rfl rfl rfl (SlR.addr ((((((h37.mono (mono_FE _) hle45).mono (mono_FE _) hle49).mono (mono_FE _) hle57).mono (mono_FE _) hle66).mono (mono_FE _) hle70).mono (mono_FE _) hle78)) hc117 ?_
                          refine WO_loadE tbok rfl rfl rfl rfl (fun _ h => St.sat h) ((((((h37.mono (mono_FE _) hle45).mono (mono_FE _) hle49).mono (mono_FE _) hle57).mono (mono_FE _) hle66).mono (mono_FE _) hle70).mono (mono_FE _) hle78) hy116 rfl ?_
                          refine WO_pure tbok 3 [(6, .bool false), (12, pb2 b38), (16, pb2 b59), (18, pb2 b68), (20, pb2 b80), (22, i2 s_56), (163, .slice a_p0_5 p0_5.length c_p0_5), (164, i2 (p0_5.length : Int)), (165, i2 s_56), (214, .bool (decide (v_64 < v_65)))] rfl ⟨rfl, rfl, rfl, rfl, rfl, rfl, rfl, rfl, rfl, rfl, trivial⟩ ?_
                          refine WO_split (d := 214) (b := decide (v_64 < v_65)) rfl (fun hb118 => ?_) (fun hb118 => ?_)
                          · have hx108 := ifT hb118 hx108
                            refine WO_pure tbok 13 [(6, .bool false), (12, pb2 b38), (16, pb2 b59), (18, pb2 b68), (20, pb2 b80), (163, .slice a_p0_5 p0_5.length c_p0_5), (164, i2 (p0_5.length : Int)), (165, i2 s_56), (227, .bool true)] rfl ⟨rfl, rfl, rfl, rfl, rfl, rfl, rfl, rfl, rfl, trivial⟩ ?_
                            refine WO_tail ?_
                            refine WO_end ?_
                            cases hx108
                            refine WK.sub ?_ (WK.cls (fun _ h => h) hk109)
                            exact ⟨rfl, rfl, rfl, rfl, rfl, rfl, rfl, rfl, rfl, trivial⟩
                          · have hx108 := ifF hb118 hx108
                            refine WO_pure tbok 1 [(6, .bool false), (12, pb2 b38), (16, pb2 b59), (18, pb2 b68), (20, pb2 b80), (22, i2 s_56), (163, .slice a_p0_5 p0_5.length c_p0_5), (164, i2 (p0_5.length : Int)), (165, i2 s_56), (214, .bool false), (215, .pointer (some ⟨b68, 5, none⟩))] rfl ⟨rfl, rfl, rfl, rfl, rfl, rfl, rfl, rfl, rfl, rfl, rfl, trivial⟩ ?_
                            refine WO_loadB tbok 12 rfl rfl rfl rfl (fun _ h => h) rfl rfl ?_
                            refine WO_pure tbok 1 [(6, .bool false), (12, pb2 b38), (16, pb2 b59), (18, pb2 b68), (20, pb2 b80), (22, i2 s_56), (163, .slice a_p0_5 p0_5.length c_p0_5), (164, i2 (p0_5.length : Int)), (165, i2 s_56), (214, .bool false), (216, .slice a61 ((y_46).length) c62), (217, i2 s_56)] rfl ⟨rfl, rfl, rfl, rfl, rfl, rfl, rfl, rfl, rfl, rfl, rfl, rfl, trivial⟩ ?_
                            obtain ⟨v_66, hy119, hx108⟩ := bind_some hx108
                            obtain ⟨hc120, hy119⟩ := ix_some hy119
                            refine WO_index tbok rfl rfl rfl rfl rfl rfl rfl rfl (SlR.addr ((h67.mono (mono_FE _) hle70).mono (mono_FE _) hle78)) hc120 ?_
                            refine WO_loadE tbok rfl rfl rfl rfl (fun _ h => St.sat h) ((h67.mono (mono_FE _) hle70).mono (mono_FE _) hle78) hy119 rfl ?_
                            refine WO_pure tbok 1 [(6, .bool false), (12, pb2 b38), (16, pb2 b59), (18, pb2 b68), (20, pb2 b80), (22, i2 s_56), (163, .slice a_p0_5 p0_5.length c_p0_5), (164, i2 (p0_5.length : Int)), (165, i2 s_56), (214, .bool false), (219, i2 v_66), (220, .pointer (some ⟨b80, 5, none⟩))] rfl ⟨rfl, rfl, rfl, rfl, rfl, rfl, rfl, rfl, rfl, rfl, rfl, rfl, trivial⟩ ?_
                            refine WO_loadB tbok 14 rfl rfl rfl rfl (fun _ h => h) rfl rfl ?_
                            refine WO_pure tbok 1 [(6, .bool false), (12, pb2 b38), (16, pb2 b59), (18, pb2 b68), (20, pb2 b80), (163, .slice a_p0_5 p0_5.length c_p0_5), (164, i2 (p0_5.length : Int)), (165, i2 s_56), (214, .bool false), (219, i2 v_66), (221, .slice a73 ((y_53).length) c74), (222, i2 s_56)] rfl ⟨rfl, rfl, rfl, rfl, rfl, rfl, rfl, rfl, rfl, rfl, rfl, rfl, trivial⟩ ?_
                            obtain ⟨v_67, hy121, hx108⟩ := bind_some hx108
                            obtain ⟨hc122, hy121⟩ := ix_some hy121
                            refine WO_index tbok rfl rfl rfl rfl rfl rfl rfl rfl (SlR.addr h79) hc122 ?_
                            refine WO_loadE tbok rfl rfl rfl rfl (fun _ h => St.sat h) h79 hy121 rfl ?_
                            refine WO_pure tbok 3 [(6, .bool false), (12, pb2 b38), (16, pb2 b59), (18, pb2 b68), (20, pb2 b80), (163, .slice a_p0_5 p0_5.length c_p0_5), (164, i2 (p0_5.length : Int)), (165, i2 s_56), (227, .bool (v_66 != (w64 (0 - v_67))))] rfl ⟨rfl, rfl, rfl, rfl, rfl, rfl, rfl, rfl, rfl, trivial⟩ ?_
                            refine WO_tail ?_
                            refine WO_end ?_
                            cases hx108
                            refine WK.sub ?_ (WK.cls (fun _ h => h) hk109)
                            exact ⟨rfl, rfl, rfl, rfl, rfl, rfl, rfl, rfl, rfl, trivial⟩
                  · have hm87 := ifF hb93 hm87
                    refine WK_exit rfl ?_
                    cases hm87
                    refine WK.sub ?_ (WK.cls (fun _ h => h) (hk86 ((), ()) (hd91 _ rfl)))
                    exact ⟨rfl, trivial⟩
            · refine WK_region ?_
              refine WO_pure tbok 11 [(3, pb2 b1), (6, .bool false), (12, pb2 b38), (14, pb2 b47), (16, pb2 b59), (18, pb2 b68), (20, pb2 b80), (120, .bool ((w64 ((w64 ((w64 ((w64 (y_26 + y_33)) + y_40)) + y_47)) + y_54)) != 0))] rfl ⟨rfl, rfl, rfl, rfl, rfl, rfl, rfl, rfl, trivial⟩ ?_
              refine WO_split (d := 120) (b := (w64 ((w64 ((w64 ((w64 (y_26 + y_33)) + y_40)) + y_47)) + y_54)) != 0) rfl (fun hb123 => ?_) (fun hb123 => ?_)
              · have hx81 := ifT hb123 hx81
                refine WO_pure tbok 2 [(3, pb2 b1), (6, .bool false), (12, pb2 b38), (16, pb2 b59), (18, pb2 b68), (20, pb2 b80), (120, .bool true)] rfl ⟨rfl, rfl, rfl, rfl, rfl, rfl, rfl, trivial⟩ ?_
                refine WO_skip rfl rfl ?_
                refine WO_pure tbok 38 [(3, pb2 b1), (6, .bool false), (12, pb2 b38), (16, pb2 b59), (18, pb2 b68), (20, pb2 b80), (161, .bool true)] rfl ⟨rfl, rfl, rfl, rfl, rfl, rfl, rfl, trivial⟩ ?_
                refine WO_end ?_
                cases hx81
                refine WK.sub ?_ (WK.cls (fun _ h => h) hk82)
                exact ⟨rfl, rfl, rfl, rfl, rfl, rfl, rfl, trivial⟩
              · have hx81 := ifF hb123 hx81
                refine WO_loadB tbok 6 rfl rfl rfl rfl (fun _ h => h) rfl rfl ?_
                refine WO_loadB tbok 8 rfl rfl rfl rfl (fun _ h => h) rfl rfl ?_
                obtain ⟨y_68, hc124, hx81⟩ := bind_some hx81
                refine WO_call0 (.bool y_68) rfl rfl trivial rfl rfl rfl rfl St_closed ⟨15, #[], #[], rfl, callable_15, fun w hw => ⟨_, hw.sat, fiduciallaw48_same_walk ((((((h37.mono (mono_FE _) hle45).mono (mono_FE _) hle49).mono (mono_FE _) hle57).mono (mono_FE _) hle66).mono (mono_FE _) hle70).mono (mono_FE _) hle78) (((((h46.mono (mono_FE _) hle49).mono (mono_FE _) hle57).mono (mono_FE _) hle66).mono (mono_FE _) hle70).mono (mono_FE _) hle78) hc124⟩⟩ ?_
                refine WO_pure tbok 3 [(3, pb2 b1), (6, .bool false), (12, pb2 b38), (16, pb2 b59), (18, pb2 b68), (20, pb2 b80), (126, .bool (!y_68))] rfl ⟨rfl, rfl, rfl, rfl, rfl, rfl, rfl, trivial⟩ ?_
                refine WO_split (d := 126) (b := !y_68) rfl (fun hb125 => ?_) (fun hb125 => ?_)
                · have hx81 := ifT hb125 hx81
                  refine WO_pure tbok 35 [(3, pb2 b1), (6, .bool false), (12, pb2 b38), (16, pb2 b59), (18, pb2 b68), (20, pb2 b80), (161, .bool true)] rfl ⟨rfl, rfl, rfl, rfl, rfl, rfl, rfl, trivial⟩ ?_
                  refine WO_end ?_
                  cases hx81
                  refine WK.sub ?_ (WK.cls (fun _ h => h) hk82)
                  exact ⟨rfl, rfl, rfl, rfl, rfl, rfl, rfl, trivial⟩
                · have hx81 := ifF hb125 hx81
                  refine WO_pure tbok 1 [(3, pb2 b1), (6, .bool false), (12, pb2 b38), (16, pb2 b59), (18, pb2 b68), (20, pb2 b80), (126, .bool false), (127, .pointer (some ⟨b38, 5, none⟩))] rfl ⟨rfl, rfl, rfl, rfl, rfl, rfl, rfl, rfl, trivial⟩ ?_
                  refine WO_loadB tbok 6 rfl rfl rfl rfl (fun _ h => h) rfl rfl ?_
                  refine WO_pure tbok 2 [(3, pb2 b1), (6, .bool false), (12, pb2 b38), (16, pb2 b59), (18, pb2 b68), (20, pb2 b80), (126, .bool false), (129, i2 ((y_25).length : Int)), (130, .pointer (some ⟨b1, 5, none⟩))] rfl ⟨rfl, rfl, rfl, rfl, rfl, rfl, rfl, rfl, rfl, trivial⟩ ?_
                  refine WO_loadB tbok 0 rfl rfl rfl rfl (fun _ h => h) rfl rfl ?_
                  refine WO_pure tbok 4 [(3, pb2 b1), (6, .bool false), (12, pb2 b38), (16, pb2 b59), (18, pb2 b68), (20, pb2 b80), (135, .bool (((y_25).length : Int) != (p0_5.length : Int)))] rfl ⟨rfl, rfl, rfl, rfl, rfl, rfl, rfl, trivial⟩ ?_
                  refine WO_split (d := 135) (b := ((y_25).length : Int) != (p0_5.length : Int)) rfl (fun hb126 => ?_) (fun hb126 => ?_)
                  · have hx81 := ifT hb126 hx81
                    refine WO_pure tbok 26 [(3, pb2 b1), (6, .bool false), (12, pb2 b38), (16, pb2 b59), (18, pb2 b68), (20, pb2 b80), (161, .bool true)] rfl ⟨rfl, rfl, rfl, rfl, rfl, rfl, rfl, trivial⟩ ?_
                    refine WO_end ?_
                    cases hx81
                    refine WK.sub ?_ (WK.cls (fun _ h => h) hk82)
                    exact ⟨rfl, rfl, rfl, rfl, rfl, rfl, rfl, trivial⟩
                  · have hx81 := ifF hb126 hx81
                    refine WO_pure tbok 1 [(3, pb2 b1), (6, .bool false), (12, pb2 b38), (16, pb2 b59), (18, pb2 b68), (20, pb2 b80), (135, .bool false), (136, .pointer (some ⟨b59, 5, none⟩))] rfl ⟨rfl, rfl, rfl, rfl, rfl, rfl, rfl, rfl, trivial⟩ ?_
                    refine WO_loadB tbok 10 rfl rfl rfl rfl (fun _ h => h) rfl rfl ?_
                    refine WO_pure tbok 2 [(3, pb2 b1), (6, .bool false), (12, pb2 b38), (16, pb2 b59), (18, pb2 b68), (20, pb2 b80), (135, .bool false), (138, i2 ((y_39).length : Int)), (139, .pointer (some ⟨b1, 5, none⟩))] rfl ⟨rfl, rfl, rfl, rfl, rfl, rfl, rfl, rfl, rfl, trivial⟩ ?_
                    refine WO_loadB tbok 0 rfl rfl rfl rfl (fun _ h => h) rfl rfl ?_
                    refine WO_pure tbok 4 [(3, pb2 b1), (6, .bool false), (12, pb2 b38), (16, pb2 b59), (18, pb2 b68), (20, pb2 b80), (144, .bool (((y_39).length : Int) != (p0_5.length : Int)))] rfl ⟨rfl, rfl, rfl, rfl, rfl, rfl, rfl, trivial⟩ ?_
                    refine WO_split (d := 144) (b := ((y_39).length : Int) != (p0_5.length : Int)) rfl (fun hb127 => ?_) (fun hb127 => ?_)
                    · have hx81 := ifT hb127 hx81
                      refine WO_pure tbok 17 [(3, pb2 b1), (6, .bool false), (12, pb2 b38), (16, pb2 b59), (18, pb2 b68), (20, pb2 b80), (161, .bool true)] rfl ⟨rfl, rfl, rfl, rfl, rfl, rfl, rfl, trivial⟩ ?_
                      refine WO_end ?_
                      cases hx81
                      refine WK.sub ?_ (WK.cls (fun _ h => h) hk82)
                      exact ⟨rfl, rfl, rfl, rfl, rfl, rfl, rfl, trivial⟩
                    · have hx81 := ifF hb127 hx81
                      refine WO_pure tbok 1 [(3, pb2 b1), (6, .bool false), (12, pb2 b38), (16, pb2 b59), (18, pb2 b68), (20, pb2 b80), (144, .bool false), (145, .pointer (some ⟨b68, 5, none⟩))] rfl ⟨rfl, rfl, rfl, rfl, rfl, rfl, rfl, rfl, trivial⟩ ?_
                      refine WO_loadB tbok 12 rfl rfl rfl rfl (fun _ h => h) rfl rfl ?_
                      refine WO_pure tbok 2 [(3, pb2 b1), (6, .bool false), (12, pb2 b38), (16, pb2 b59), (18, pb2 b68), (20, pb2 b80), (144, .bool false), (147, i2 ((y_46).length : Int)), (148, .pointer (some ⟨b1, 5, none⟩))] rfl ⟨rfl, rfl, rfl, rfl, rfl, rfl, rfl, rfl, rfl, trivial⟩ ?_
                      refine WO_loadB tbok 0 rfl rfl rfl rfl (fun _ h => h) rfl rfl ?_
                      refine WO_pure tbok 4 [(3, pb2 b1), (6, .bool false), (12, pb2 b38), (16, pb2 b59), (18, pb2 b68), (20, pb2 b80), (153, .bool (((y_46).length : Int) != (p0_5.length : Int)))] rfl ⟨rfl, rfl, rfl, rfl, rfl, rfl, rfl, trivial⟩ ?_
                      refine WO_split (d := 153) (b := ((y_46).length : Int) != (p0_5.length : Int)) rfl (fun hb128 => ?_) (fun hb128 => ?_)
                      · have hx81 := ifT hb128 hx81
                        refine WO_pure tbok 8 [(3, pb2 b1), (6, .bool false), (12, pb2 b38), (16, pb2 b59), (18, pb2 b68), (20, pb2 b80), (161, .bool true)] rfl ⟨rfl, rfl, rfl, rfl, rfl, rfl, rfl, trivial⟩ ?_
                        refine WO_end ?_
                        cases hx81
                        refine WK.sub ?_ (WK.cls (fun _ h => h) hk82)
                        exact ⟨rfl, rfl, rfl, rfl, rfl, rfl, rfl, trivial⟩
                      · have hx81 := ifF hb128 hx81
                        refine WO_pure tbok 1 [(3, pb2 b1), (6, .bool false), (12, pb2 b38), (16, pb2 b59), (18, pb2 b68), (20, pb2 b80), (153, .bool false), (154, .pointer (some ⟨b80, 5, none⟩))] rfl ⟨rfl, rfl, rfl, rfl, rfl, rfl, rfl, rfl, trivial⟩ ?_
                        refine WO_loadB tbok 14 rfl rfl rfl rfl (fun _ h => h) rfl rfl ?_
                        refine WO_pure tbok 2 [(3, pb2 b1), (6, .bool false), (12, pb2 b38), (16, pb2 b59), (18, pb2 b68), (20, pb2 b80), (153, .bool false), (156, i2 ((y_53).length : Int)), (157, .pointer (some ⟨b1, 5, none⟩))] rfl ⟨rfl, rfl, rfl, rfl, rfl, rfl, rfl, rfl, rfl, trivial⟩ ?_
                        refine WO_loadB tbok 0 rfl rfl rfl rfl (fun _ h => h) rfl rfl ?_
                        refine WO_pure tbok 3 [(3, pb2 b1), (6, .bool false), (12, pb2 b38), (16, pb2 b59), (18, pb2 b68), (20, pb2 b80), (161, .bool (((y_53).length : Int) != (p0_5.length : Int)))] rfl ⟨rfl, rfl, rfl, rfl, rfl, rfl, rfl, trivial⟩ ?_
                        refine WO_end ?_
                        cases hx81
                        refine WK.sub ?_ (WK.cls (fun _ h => h) hk82)
                        exact ⟨rfl, rfl, rfl, rfl, rfl, rfl, rfl, trivial⟩
          · refine WK_block ?_
            refine WK_loop (S := List Int × List Int × Int) (G := List Ent × List Ent) (fun s => fiduciallaw48_TerrainOpens_s1 p0_5 p2 s.1 s.2.1 s.2.2) (fun s g => [(2, .slice a_p2 p2.length c_p2), (3, pb2 b1), (6, .bool false), (7, i2 (Int.tmod (w64 (p1)) 9)), (8, pb2 b13), (9, pb2 b14), (48, .slice a_p0_5 p0_5.length c_p0_5), (49, i2 (p0_5.length : Int)), (50, i2 s.2.2)]) (fun s g => St w0 m m [[B1], [⟨b13, 25, [i2 s_5, i2 s_6, i2 s_7, i2 s_8, i2 s_9, .slice a7 ((l_3).length) c8]⟩], g.1, [⟨b14, 25, [i2 s_10, i2 s_11, i2 s_12, i2 s_13, i2 s_14, .slice a10 ((l_4).length) c11]⟩], g.2]) (fun s g => OwnE 3 1 (I1 .i64) (.slice a7 ((l_3).length) c8) s.1 g.1 ∧ OwnE 3 1 (I1 .i64) (.slice a10 ((l_4).length) c11) s.2.1 g.2) FUEL (l_3, l_4, 0) (L9, L12) x21 hx22 ⟨hL9, hL12⟩ ⟨rfl, rfl, rfl, rfl, rfl, rfl, rfl, rfl, rfl, trivial⟩ (fun _ h => h) ?_
            rintro ⟨l_15, l_16, s_17⟩ ⟨L17, L18⟩ o25 fl26 hm24 ⟨hL17, hL18⟩ hn27 hd28
            have hm24 : fiduciallaw48_TerrainOpens_s1 p0_5 p2 l_15 l_16 s_17 = some o25 := hm24
            unfold fiduciallaw48_TerrainOpens_s1 at hm24
            refine WK.sub (e' := [(2, .slice a_p2 p2.length c_p2), (3, pb2 b1), (6, .bool false), (7, i2 (Int.tmod (w64 (p1)) 9)), (8, pb2 b13), (9, pb2 b14), (48, .slice a_p0_5 p0_5.length c_p0_5), (49, i2 (p0_5.length : Int)), (50, i2 s_17)]) ⟨rfl, rfl, rfl, rfl, rfl, rfl, rfl, rfl, rfl, trivial⟩ (WK.cls (C' := St w0 m m [[B1], [⟨b13, 25, [i2 s_5, i2 s_6, i2 s_7, i2 s_8, i2 s_9, .slice a7 ((l_3).length) c8]⟩], L17, [⟨b14, 25, [i2 s_10, i2 s_11, i2 s_12, i2 s_13, i2 s_14, .slice a10 ((l_4).length) c11]⟩], L18]) (fun _ h => h) ?_)
            refine WK_seq ?_
            refine WK_region ?_
            refine WO_pure tbok 1 [(2, .slice a_p2 p2.length c_p2), (3, pb2 b1), (6, .bool false), (7, i2 (Int.tmod (w64 (p1)) 9)), (8, pb2 b13), (9, pb2 b14), (48, .slice a_p0_5 p0_5.length c_p0_5), (49, i2 (p0_5.length : Int)), (50, i2 s_17), (51, .bool (decide (s_17 < (p0_5.length : Int))))] rfl ⟨rfl, rfl, rfl, rfl, rfl, rfl, rfl, rfl, rfl, rfl, trivial⟩ ?_
            refine WO_end ?_
            refine WK_seq ?_
            refine WK_cond (b := decide (s_17 < (p0_5.length : Int))) rfl (fun hb129 => ?_) (fun hb129 => ?_)
            · have hm24 := ifT hb129 hm24
              refine WK_skip ?_
              refine WK_seq ?_
              refine WK_block ?_
              refine WK_seq ?_
              refine WK_region ?_
              refine WO_pure tbok 1 [(2, .slice a_p2 p2.length c_p2), (3, pb2 b1), (6, .bool false), (7, i2 (Int.tmod (w64 (p1)) 9)), (8, pb2 b13), (9, pb2 b14), (48, .slice a_p0_5 p0_5.length c_p0_5), (49, i2 (p0_5.length : Int)), (50, i2 s_17), (52, i2 s_17)] rfl ⟨rfl, rfl, rfl, rfl, rfl, rfl, rfl, rfl, rfl, rfl, trivial⟩ ?_
              obtain ⟨v_69, hy130, hm24⟩ := bind_some hm24
              obtain ⟨hc131, hy130⟩ := ix_some hy130
              refine WO_index tbok rfl rfl rfl rfl rfl rfl rfl rfl (SlR.addr h_p0_5) hc131 ?_
              refine WO_loadE tbok rfl rfl rfl rfl (fun _ h => St.sat h) h_p0_5 hy130 rfl ?_
              refine WO_pure tbok 2 [(2, .slice a_p2 p2.length c_p2), (3, pb2 b1), (6, .bool false), (7, i2 (Int.tmod (w64 (p1)) 9)), (8, pb2 b13), (9, pb2 b14), (10, i2 s_17), (11, i2 v_69), (48, .slice a_p0_5 p0_5.length c_p0_5), (49, i2 (p0_5.length : Int)), (50, i2 s_17)] rfl ⟨rfl, rfl, rfl, rfl, rfl, rfl, rfl, rfl, rfl, rfl, rfl, trivial⟩ ?_
              refine WO_end ?_
              refine WK_seq ?_
              refine WK_region ?_
              refine WO_pure tbok 2 [(2, .slice a_p2 p2.length c_p2), (3, pb2 b1), (6, .bool false), (7, i2 (Int.tmod (w64 (p1)) 9)), (8, pb2 b13), (9, pb2 b14), (10, i2 s_17), (11, i2 v_69), (48, .slice a_p0_5 p0_5.length c_p0_5), (49, i2 (p0_5.length : Int)), (50, i2 s_17), (56, .bool (v_69 != (-2147483648)))] rfl ⟨rfl, rfl, rfl, rfl, rfl, rfl, rfl, rfl, rfl, rfl, rfl, rfl, trivial⟩ ?_
              refine WO_end ?_
              obtain ⟨⟨l_70, l_71⟩, hx134, hm24⟩ := bind_some hm24
              refine WK_join (β := List Ent × List Ent) (fun p => OwnE 3 1 (I1 .i64) (.slice a7 ((l_3).length) c8) l_70 p.1 ∧ OwnE 3 1 (I1 .i64) (.slice a10 ((l_4).length) c11) l_71 p.2) (fun p => [(2, .slice a_p2 p2.length c_p2), (3, pb2 b1), (6, .bool false), (7, i2 (Int.tmod (w64 (p1)) 9)), (8, pb2 b13), (9, pb2 b14), (48, .slice a_p0_5 p0_5.length c_p0_5), (49, i2 (p0_5.length : Int)), (50, i2 s_17)]) (fun p => St w0 m m [[B1], [⟨b13, 25, [i2 s_5, i2 s_6, i2 s_7, i2 s_8, i2 s_9, .slice a7 ((l_3).length) c8]⟩], p.1, [⟨b14, 25, [i2 s_10, i2 s_11, i2 s_12, i2 s_13, i2 s_14, .slice a10 ((l_4).length) c11]⟩], p.2]) ?_ (fun hk135 => ?_)
              · rintro ⟨L132, L133⟩ ⟨hL132, hL133⟩
                refine WK.sub (e' := [(2, .slice a_p2 p2.length c_p2), (3, pb2 b1), (6, .bool false), (7, i2 (Int.tmod (w64 (p1)) 9)), (8, pb2 b13), (9, pb2 b14), (48, .slice a_p0_5 p0_5.length c_p0_5), (49, i2 (p0_5.length : Int)), (50, i2 s_17)]) ⟨rfl, rfl, rfl, rfl, rfl, rfl, rfl, rfl, rfl, trivial⟩ (WK.cls (C' := St w0 m m [[B1], [⟨b13, 25, [i2 s_5, i2 s_6, i2 s_7, i2 s_8, i2 s_9, .slice a7 ((l_3).length) c8]⟩], L132, [⟨b14, 25, [i2 s_10, i2 s_11, i2 s_12, i2 s_13, i2 s_14, .slice a10 ((l_4).length) c11]⟩], L133]) (fun _ h => h) ?_)
                refine WK_blk ?_
                refine WK_region ?_
                refine WO_pure tbok 2 [(2, .slice a_p2 p2.length c_p2), (3, pb2 b1), (6, .bool false), (7, i2 (Int.tmod (w64 (p1)) 9)), (8, pb2 b13), (9, pb2 b14), (48, .slice a_p0_5 p0_5.length c_p0_5), (49, i2 (p0_5.length : Int)), (50, i2 (w64 (s_17 + 1)))] rfl ⟨rfl, rfl, rfl, rfl, rfl, rfl, rfl, rfl, rfl, trivial⟩ ?_
                refine WO_end ?_
                cases hm24
                refine WK.sub ?_ (WK.cls (fun _ h => h) (hn27 _ (L132, L133) rfl ⟨hL132, hL133⟩))
                exact ⟨rfl, rfl, rfl, rfl, rfl, rfl, rfl, rfl, rfl, trivial⟩
              · refine WK_cond (b := v_69 != (-2147483648)) rfl (fun hb136 => ?_) (fun hb136 => ?_)
                · have hx134 := ifT hb136 hx134
                  refine WK_seq ?_
                  refine WK_region ?_
                  refine WO_pure tbok 1 [(2, .slice a_p2 p2.length c_p2), (3, pb2 b1), (6, .bool false), (7, i2 (Int.tmod (w64 (p1)) 9)), (8, pb2 b13), (9, pb2 b14), (10, i2 s_17), (11, i2 v_69), (48, .slice a_p0_5 p0_5.length c_p0_5), (49, i2 (p0_5.length : Int)), (50, i2 s_17), (57, .pointer (some ⟨b14, 5, none⟩))] rfl ⟨rfl, rfl, rfl, rfl, rfl, rfl, rfl, rfl, rfl, rfl, rfl, rfl, trivial⟩ ?_
                  refine WO_loadB tbok 3 rfl rfl rfl rfl (fun _ h => h) rfl rfl ?_
                  refine WO_pure tbok 3 [(2, .slice a_p2 p2.length c_p2), (3, pb2 b1), (6, .bool false), (7, i2 (Int.tmod (w64 (p1)) 9)), (8, pb2 b13), (9, pb2 b14), (10, i2 s_17), (11, i2 v_69), (48, .slice a_p0_5 p0_5.length c_p0_5), (49, i2 (p0_5.length : Int)), (50, i2 s_17), (58, .slice a10 ((l_4).length) c11), (59, i2 s_17), (61, i2 (w64 (0 - v_69)))] rfl ⟨rfl, rfl, rfl, rfl, rfl, rfl, rfl, rfl, rfl, rfl, rfl, rfl, rfl, rfl, trivial⟩ ?_
                  obtain ⟨hc137, hx134⟩ := chk_some hx134
                  refine WO_index tbok rfl rfl rfl rfl rfl rfl rfl rfl (OwnE.addr hL18) (by simpa using hc137) ?_
                  refine WO_storeO (E := (I1 .i64)) tbok (fun _ => rfl) 4 (w64 (0 - v_69)) rfl rfl rfl rfl rfl hL18 rfl (by simpa using idx_lt hc137) rfl rfl rfl rfl (fun L138 hL138 => ?_)
                  let B14 : Ent := ⟨b13, 25, [i2 s_5, i2 s_6, i2 s_7, i2 s_8, i2 s_9, .slice a7 ((l_3).length) c8]⟩
                  let B15 : Ent := ⟨b14, 25, [i2 s_10, i2 s_11, i2 s_12, i2 s_13, i2 s_14, .slice a10 ((l_4).length) c11]⟩
                  refine WO.cls (C' := St w0 m m [[B1], [B14], L17, [B15], L138]) (fun _ h => h) ?_
                  refine WO_end ?_
                  refine WK_seq ?_
                  refine WK_region ?_
                  refine WO_pure tbok 4 [(2, .slice a_p2 p2.length c_p2), (3, pb2 b1), (6, .bool false), (7, i2 (Int.tmod (w64 (p1)) 9)), (8, pb2 b13), (9, pb2 b14), (10, i2 s_17), (11, i2 v_69), (48, .slice a_p0_5 p0_5.length c_p0_5), (49, i2 (p0_5.length : Int)), (50, i2 s_17), (66, .bool (decide (s_17 < (p2.length : Int))))] rfl ⟨rfl, rfl, rfl, rfl, rfl, rfl, rfl, rfl, rfl, rfl, rfl, rfl, trivial⟩ ?_
                  refine WO_end ?_
                  refine WK_cond (b := decide (s_17 < (p2.length : Int))) rfl (fun hb139 => ?_) (fun hb139 => ?_)
                  · have hx134 := ifT hb139 hx134
                    refine WK_draw 12 [0, 1, 2, 3, 4, 5, 6, 7, 8, 9, 10, 11] follows_ok (by kernel_rfl) St_closed ?_
                    refine WO_pure tbok 1 [(2, .slice a_p2 p2.length c_p2), (3, pb2 b1), (6, .bool false), (7, i2 (Int.tmod (w64 (p1)) 9)), (8, pb2 b13), (9, pb2 b14), (10, i2 s_17), (11, i2 v_69), (48, .slice a_p0_5 p0_5.length c_p0_5), (49, i2 (p0_5.length : Int)), (50, i2 s_17), (67, .pointer (some ⟨b13, 5, none⟩))] rfl ⟨rfl, rfl, rfl, rfl, rfl, rfl, rfl, rfl, rfl, rfl, rfl, rfl, trivial⟩ ?_
                    refine WO_loadB tbok 1 rfl rfl rfl rfl (fun _ h => h) rfl rfl ?_
                    refine WO_pure tbok 4 [(2, .slice a_p2 p2.length c_p2), (3, pb2 b1), (6, .bool false), (7, i2 (Int.tmod (w64 (p1)) 9)), (8, pb2 b13), (9, pb2 b14), (48, .slice a_p0_5 p0_5.length c_p0_5), (49, i2 (p0_5.length : Int)), (50, i2 s_17), (68, .slice a7 ((l_3).length) c8), (69, i2 s_17), (70, i2 v_69), (71, .slice a_p2 p2.length c_p2), (72, i2 s_17)] rfl ⟨rfl, rfl, rfl, rfl, rfl, rfl, rfl, rfl, rfl, rfl, rfl, rfl, rfl, rfl, trivial⟩ ?_
                    obtain ⟨v_72, hy140, hx134⟩ := bind_some hx134
                    obtain ⟨hc141, hy140⟩ := ix_some hy140
                    refine WO_index tbok rfl rfl rfl rfl rfl rfl rfl rfl (SlR.addr h_p2) hc141 ?_
                    refine WO_loadE tbok rfl rfl rfl rfl (fun _ h => St.sat h) h_p2 hy140 rfl ?_
                    refine WO_pure tbok 3 [(2, .slice a_p2 p2.length c_p2), (3, pb2 b1), (6, .bool false), (7, i2 (Int.tmod (w64 (p1)) 9)), (8, pb2 b13), (9, pb2 b14), (48, .slice a_p0_5 p0_5.length c_p0_5), (49, i2 (p0_5.length : Int)), (50, i2 s_17), (68, .slice a7 ((l_3).length) c8), (69, i2 s_17), (77, i2 (if 1048576 < (w64 (v_69 + (w64 (v_72)))) then 1048576 else (w64 (v_69 + (w64 (v_72))))))] rfl ⟨rfl, rfl, rfl, rfl, rfl, rfl, rfl, rfl, rfl, rfl, rfl, rfl, trivial⟩ ?_
                    obtain ⟨hc142, hx134⟩ := chk_some hx134
                    refine WO_index tbok rfl rfl rfl rfl rfl rfl rfl rfl (OwnE.addr hL17) (by simpa using hc142) ?_
                    refine WO_tail ?_
                    refine WO_storeO (E := (I1 .i64)) tbok (fun _ => rfl) 2 (if 1048576 < (w64 (v_69 + (w64 (v_72)))) then 1048576 else (w64 (v_69 + (w64 (v_72))))) rfl rfl rfl rfl rfl hL17 rfl (by simpa using idx_lt hc142) rfl rfl rfl rfl (fun L143 hL143 => ?_)
                    refine WO.cls (C' := St w0 m m [[B1], [B14], L143, [B15], L138]) (fun _ h => h) ?_
                    refine WO_end ?_
                    cases hx134
                    refine WK.sub ?_ (WK.cls (fun _ h => h) (hk135 ⟨L143, L138⟩ ⟨hL143, hL138⟩))
                    exact ⟨rfl, rfl, rfl, rfl, rfl, rfl, rfl, rfl, rfl, trivial⟩
                  · have hx134 := ifF hb139 hx134
                    refine WK_skip ?_
                    cases hx134
                    refine WK.sub ?_ (WK.cls (fun _ h => h) (hk135 ⟨L17, L138⟩ ⟨hL17, hL138⟩))
                    exact ⟨rfl, rfl, rfl, rfl, rfl, rfl, rfl, rfl, rfl, trivial⟩
                · have hx134 := ifF hb136 hx134
                  refine WK_skip ?_
                  cases hx134
                  refine WK.sub ?_ (WK.cls (fun _ h => h) (hk135 ⟨L17, L18⟩ ⟨hL17, hL18⟩))
                  exact ⟨rfl, rfl, rfl, rfl, rfl, rfl, rfl, rfl, rfl, trivial⟩
            · have hm24 := ifF hb129 hm24
              refine WK_exit rfl ?_
              cases hm24
              refine WK.sub ?_ (WK.cls (fun _ h => h) (hk23 ((l_15, l_16), (L17, L18)) ⟨(hd28 _ rfl), hL17, hL18⟩))
              exact ⟨rfl, rfl, rfl, rfl, rfl, trivial⟩
        · refine WK_plan 12 [1, 6] (.run [0, 2, 5, 7] (.alt 3 (.alt 4 (.alt 8 (.alt 9 (.alt 10 (.run [11] .fin) (.alt 11 (.run [10] .fin) .none)) (.alt 10 (.alt 9 (.run [11] .fin) (.alt 11 (.run [9] .fin) .none)) (.alt 11 (.alt 9 (.run [10] .fin) (.alt 10 (.run [9] .fin) .none)) .none))) (.alt 10 (.alt 8 (.alt 9 (.run [11] .fin) (.alt 11 (.run [9] .fin) .none)) (.alt 11 (.run [8, 9] .fin) .none)) (.alt 11 (.alt 8 (.alt 9 (.run [10] .fin) (.alt 10 (.run [9] .fin) .none)) (.alt 10 (.run [8, 9] .fin) .none)) .none))) (.alt 10 (.alt 4 (.alt 8 (.alt 9 (.run [11] .fin) (.alt 11 (.run [9] .fin) .none)) (.alt 11 (.run [8, 9] .fin) .none)) (.alt 11 (.run [4, 8, 9] .fin) .none)) (.alt 11 (.alt 4 (.alt 8 (.alt 9 (.run [10] .fin) (.alt 10 (.run [9] .fin) .none)) (.alt 10 (.run [8, 9] .fin) .none)) (.alt 10 (.run [4, 8, 9] .fin) .none)) .none))) (.alt 10 (.alt 3 (.alt 4 (.alt 8 (.alt 9 (.run [11] .fin) (.alt 11 (.run [9] .fin) .none)) (.alt 11 (.run [8, 9] .fin) .none)) (.alt 11 (.run [4, 8, 9] .fin) .none)) (.alt 11 (.run [3, 4, 8, 9] .fin) .none)) (.alt 11 (.alt 3 (.alt 4 (.alt 8 (.alt 9 (.run [10] .fin) (.alt 10 (.run [9] .fin) .none)) (.alt 10 (.run [8, 9] .fin) .none)) (.alt 10 (.run [4, 8, 9] .fin) .none)) (.alt 10 (.run [3, 4, 8, 9] .fin) .none)) .none)))) follows_ok (by kernel_rfl) St_closed ?_
          refine WO_pure tbok 2 [(2, .slice a_p2 p2.length c_p2), (3, pb2 b1), (6, .bool false), (7, i2 (Int.tmod (w64 (p1)) 9)), (38, .pointer (some ⟨b1, 5, none⟩)), (43, .pointer (some ⟨b1, 5, none⟩))] rfl ⟨rfl, rfl, rfl, rfl, rfl, rfl, trivial⟩ ?_
          refine WO_plan ?_
          refine WT_run ?_
          refine WO_loadB tbok 0 rfl rfl rfl rfl (fun _ h => h) rfl rfl ?_
          refine WO_loadB tbok 0 rfl rfl rfl rfl (fun _ h => h) rfl rfl ?_
          refine WO_loadB tbok 0 rfl rfl rfl rfl (fun _ h => h) rfl rfl ?_
          refine WO_loadB tbok 0 rfl rfl rfl rfl (fun _ h => h) rfl rfl ?_
          refine WO_tree rfl ?_
          refine WT_alt rfl ?_ ?_
          · obtain ⟨y_73, hc144, hx15⟩ := bind_some hx15
            refine WO_call1 (slices_Clone_sint_Q y_73) rfl rfl St_closed rfl rfl rfl rfl ⟨23, #[], #[], rfl, callable_23, fun w hw => ⟨_, hw.sat, slices_Clone_sint_walk h_p0_5 hc144⟩⟩ (fun v148 L147 hq => ?_)
            obtain ⟨a145, qa145, c146, rfl, hL147⟩ := hq
            obtain rfl := OwnE.qlen hL147
            refine WO.cls (C' := St w0 m m [[B1], L147]) (fun _ h => h) ?_
            refine WO_tree rfl ?_
            refine WT_alt rfl ?_ ?_
            · refine WO_inline rfl rfl rfl rfl rfl rfl callable_22 Try.func22 rfl rfl rfl ?_
              refine WK.sub (e' := [(0, .agg #[i2 p0_0, i2 p0_1, i2 p0_2, i2 p0_3, i2 p0_4, .slice a_p0_5 p0_5.length c_p0_5]), (1, .slice a145 ((y_73).length) c146)]) ⟨rfl, rfl, trivial⟩ ?_
              refine WK_seq ?_
              refine WK_region ?_
              refine WO_box [i2 p0_0, i2 p0_1, i2 p0_2, i2 p0_3, i2 p0_4, .slice a_p0_5 p0_5.length c_p0_5] rfl rfl trivial rfl rfl rfl (fun b149 => ?_)
              let B16 : Ent := ⟨b149, 25, [i2 p0_0, i2 p0_1, i2 p0_2, i2 p0_3, i2 p0_4, .slice a_p0_5 p0_5.length c_p0_5]⟩
              refine WO.cls (C' := St w0 m m [[B1], L147, [B16]]) (fun _ h => h) ?_
              refine WO_alloc tbok [i2 0, i2 0, i2 0, i2 0, i2 0, .slice none 0 0] rfl rfl trivial rfl rfl rfl rfl (fun b150 => ?_)
              let B17 : Ent := ⟨b150, 25, [i2 0, i2 0, i2 0, i2 0, i2 0, .slice none 0 0]⟩
              refine WO.cls (C' := St w0 m m [[B1], L147, [B16], [B17]]) (fun _ h => h) ?_
              refine WO_end ?_
              refine WK_seq ?_
              refine WK_region ?_
              refine WO_pure tbok 1 [(1, .slice a145 ((y_73).length) c146), (2, pb2 b149), (4, pb2 b150), (5, pb2 b149)] rfl ⟨rfl, rfl, rfl, rfl, trivial⟩ ?_
              refine WO_loadB tbok 2 rfl rfl rfl rfl (fun _ h => h) rfl rfl ?_
              refine WO_pure tbok 1 [(1, .slice a145 ((y_73).length) c146), (2, pb2 b149), (4, pb2 b150), (6, i2 p0_0), (7, .pointer (some ⟨b149, 1, none⟩))] rfl ⟨rfl, rfl, rfl, rfl, rfl, trivial⟩ ?_
              refine WO_loadB tbok 2 rfl rfl rfl rfl (fun _ h => h) rfl rfl ?_
              refine WO_pure tbok 1 [(1, .slice a145 ((y_73).length) c146), (2, pb2 b149), (4, pb2 b150), (6, i2 p0_0), (8, i2 p0_1), (9, .pointer (some ⟨b149, 2, none⟩))] rfl ⟨rfl, rfl, rfl, rfl, rfl, rfl, trivial⟩ ?_
              refine WO_loadB tbok 2 rfl rfl rfl rfl (fun _ h => h) rfl rfl ?_
              refine WO_pure tbok 1 [(1, .slice a145 ((y_73).length) c146), (2, pb2 b149), (4, pb2 b150), (6, i2 p0_0), (8, i2 p0_1), (10, i2 p0_2), (11, .pointer (some ⟨b149, 3, none⟩))] rfl ⟨rfl, rfl, rfl, rfl, rfl, rfl, rfl, trivial⟩ ?_
              refine WO_loadB tbok 2 rfl rfl rfl rfl (fun _ h => h) rfl rfl ?_
              refine WO_pure tbok 1 [(1, .slice a145 ((y_73).length) c146), (4, pb2 b150), (6, i2 p0_0), (8, i2 p0_1), (10, i2 p0_2), (12, i2 p0_3), (13, .pointer (some ⟨b149, 4, none⟩))] rfl ⟨rfl, rfl, rfl, rfl, rfl, rfl, rfl, trivial⟩ ?_
              refine WO_loadB tbok 2 rfl rfl rfl rfl (fun _ h => h) rfl rfl ?_
              refine WO_pure tbok 2 [(4, pb2 b150), (16, .agg #[i2 p0_0, i2 p0_1, i2 p0_2, i2 p0_3, i2 p0_4, .slice a145 ((y_73).length) c146])] rfl ⟨rfl, rfl, trivial⟩ ?_
              refine WO_storeB tbok 3 [i2 p0_0, i2 p0_1, i2 p0_2, i2 p0_3, i2 p0_4, .slice a145 ((y_73).length) c146] rfl rfl rfl rfl rfl rfl rfl ?_
              let B18 : Ent := ⟨b150, 25, [i2 p0_0, i2 p0_1, i2 p0_2, i2 p0_3, i2 p0_4, .slice a145 ((y_73).length) c146]⟩
              refine WO.cls (C' := St w0 m m [[B1], L147, [B16], [B18]]) (fun _ h => h) ?_
              refine WO_end ?_
              refine WK_retI (RLc_cell tbok 3 rfl rfl rfl RLc_nil) (fun _ h => St.back (Ls := [[B1]]) (X := [L147, [B16], [B18]]) h (Le.refl _) (Le.refl _)) ?_
              refine WO.cls (C' := St w0 m m [[B1], L147]) (fun _ h => St.take 2 h) ?_
              refine WO_tree rfl ?_
              refine WT_alt rfl ?_ ?_
              · refine WO_call1 (slices_Clone_sint_Q y_73) rfl rfl St_closed rfl rfl rfl rfl ⟨23, #[], #[], rfl, callable_23, fun w hw => ⟨_, hw.sat, slices_Clone_sint_walk h_p0_5 hc144⟩⟩ (fun v154 L153 hq => ?_)
                obtain ⟨a151, qa151, c152, rfl, hL153⟩ := hq
                obtain rfl := OwnE.qlen hL153
                refine WO.cls (C' := St w0 m m [[B1], L147, L153]) (fun _ h => h) ?_
                refine WO_tree rfl ?_
                refine WT_alt rfl ?_ ?_
                · refine WO_inline rfl rfl rfl rfl rfl rfl callable_22 Try.func22 rfl rfl rfl ?_
                  refine WK.sub (e' := [(0, .agg #[i2 p0_0, i2 p0_1, i2 p0_2, i2 p0_3, i2 p0_4, .slice a_p0_5 p0_5.length c_p0_5]), (1, .slice a151 ((y_73).length) c152)]) ⟨rfl, rfl, trivial⟩ ?_
                  refine WK_seq ?_
                  refine WK_region ?_
                  refine WO_box [i2 p0_0, i2 p0_1, i2 p0_2, i2 p0_3, i2 p0_4, .slice a_p0_5 p0_5.length c_p0_5] rfl rfl trivial rfl rfl rfl (fun b155 => ?_)
                  let B19 : Ent := ⟨b155, 25, [i2 p0_0, i2 p0_1, i2 p0_2, i2 p0_3, i2 p0_4, .slice a_p0_5 p0_5.length c_p0_5]⟩
                  refine WO.cls (C' := St w0 m m [[B1], L147, L153, [B19]]) (fun _ h => h) ?_
                  refine WO_alloc tbok [i2 0, i2 0, i2 0, i2 0, i2 0, .slice none 0 0] rfl rfl trivial rfl rfl rfl rfl (fun b156 => ?_)
                  let B20 : Ent := ⟨b156, 25, [i2 0, i2 0, i2 0, i2 0, i2 0, .slice none 0 0]⟩
                  refine WO.cls (C' := St w0 m m [[B1], L147, L153, [B19], [B20]]) (fun _ h => h) ?_
                  refine WO_end ?_
                  refine WK_seq ?_
                  refine WK_region ?_
                  refine WO_pure tbok 1 [(1, .slice a151 ((y_73).length) c152), (2, pb2 b155), (4, pb2 b156), (5, pb2 b155)] rfl ⟨rfl, rfl, rfl, rfl, trivial⟩ ?_
                  refine WO_loadB tbok 3 rfl rfl rfl rfl (fun _ h => h) rfl rfl ?_
                  refine WO_pure tbok 1 [(1, .slice a151 ((y_73).length) c152), (2, pb2 b155), (4, pb2 b156), (6, i2 p0_0), (7, .pointer (some ⟨b155, 1, none⟩))] rfl ⟨rfl, rfl, rfl, rfl, rfl, trivial⟩ ?_
                  refine WO_loadB tbok 3 rfl rfl rfl rfl (fun _ h => h) rfl rfl ?_
                  refine WO_pure tbok 1 [(1, .slice a151 ((y_73).length) c152), (2, pb2 b155), (4, pb2 b156), (6, i2 p0_0), (8, i2 p0_1), (9, .pointer (some ⟨b155, 2, none⟩))] rfl ⟨rfl, rfl, rfl, rfl, rfl, rfl, trivial⟩ ?_
                  refine WO_loadB tbok 3 rfl rfl rfl rfl (fun _ h => h) rfl rfl ?_
                  refine WO_pure tbok 1 [(1, .slice a151 ((y_73).length) c152), (2, pb2 b155), (4, pb2 b156), (6, i2 p0_0), (8, i2 p0_1), (10, i2 p0_2), (11, .pointer (some ⟨b155, 3, none⟩))] rfl ⟨rfl, rfl, rfl, rfl, rfl, rfl, rfl, trivial⟩ ?_
                  refine WO_loadB tbok 3 rfl rfl rfl rfl (fun _ h => h) rfl rfl ?_
                  refine WO_pure tbok 1 [(1, .slice a151 ((y_73).length) c152), (4, pb2 b156), (6, i2 p0_0), (8, i2 p0_1), (10, i2 p0_2), (12, i2 p0_3), (13, .pointer (some ⟨b155, 4, none⟩))] rfl ⟨rfl, rfl, rfl, rfl, rfl, rfl, rfl, trivial⟩ ?_
                  refine WO_loadB tbok 3 rfl rfl rfl rfl (fun _ h => h) rfl rfl ?_
                  refine WO_pure tbok 2 [(4, pb2 b156), (16, .agg #[i2 p0_0, i2 p0_1, i2 p0_2, i2 p0_3, i2 p0_4, .slice a151 ((y_73).length) c152])] rfl ⟨rfl, rfl, trivial⟩ ?_
                  refine WO_storeB tbok 4 [i2 p0_0, i2 p0_1, i2 p0_2, i2 p0_3, i2 p0_4, .slice a151 ((y_73).length) c152] rfl rfl rfl rfl rfl rfl rfl ?_
                  let B21 : Ent := ⟨b156, 25, [i2 p0_0, i2 p0_1, i2 p0_2, i2 p0_3, i2 p0_4, .slice a151 ((y_73).length) c152]⟩
                  refine WO.cls (C' := St w0 m m [[B1], L147, L153, [B19], [B21]]) (fun _ h => h) ?_
                  refine WO_end ?_
                  refine WK_retI (RLc_cell tbok 4 rfl rfl rfl RLc_nil) (fun _ h => St.back (Ls := [[B1]]) (X := [L147, L153, [B19], [B21]]) h (Le.refl _) (Le.refl _)) ?_
                  refine WO.cls (C' := St w0 m m [[B1], L147, L153]) (fun _ h => St.take 3 h) ?_
                  refine WO_tree rfl ?_
                  refine WT_alt rfl ?_ ?_
                  · refine WO_alloc tbok [i2 0, i2 0, i2 0, i2 0, i2 0, .slice none 0 0] rfl rfl St_closed rfl rfl rfl rfl (fun b157 => ?_)
                    let B22 : Ent := ⟨b157, 25, [i2 0, i2 0, i2 0, i2 0, i2 0, .slice none 0 0]⟩
                    refine WO.cls (C' := St w0 m m [[B1], L147, L153, [B22]]) (fun _ h => h) ?_
                    refine WO_tree rfl ?_
                    refine WT_run ?_
                    refine WO_alloc tbok [i2 0, i2 0, i2 0, i2 0, i2 0, .slice none 0 0] rfl rfl St_closed rfl rfl rfl rfl (fun b158 => ?_)
                    let B23 : Ent := ⟨b158, 25, [i2 0, i2 0, i2 0, i2 0, i2 0, .slice none 0 0]⟩
                    refine WO.cls (C' := St w0 m m [[B1], L147, L153, [B22], [B23]]) (fun _ h => h) ?_
                    refine WO_tree rfl ?_
                    refine WT_fin ?_
                    refine WO_storeB tbok 3 [i2 p0_0, i2 p0_1, i2 p0_2, i2 p0_3, i2 p0_4, .slice a145 ((y_73).length) c146] rfl rfl rfl rfl rfl rfl rfl ?_
                    let B24 : Ent := ⟨b157, 25, [i2 p0_0, i2 p0_1, i2 p0_2, i2 p0_3, i2 p0_4, .slice a145 ((y_73).length) c146]⟩
                    refine WO.cls (C' := St w0 m m [[B1], L147, L153, [B24], [B23]]) (fun _ h => h) ?_
                    refine WO_storeB tbok 4 [i2 p0_0, i2 p0_1, i2 p0_2, i2 p0_3, i2 p0_4, .slice a151 ((y_73).length) c152] rfl rfl rfl rfl rfl rfl rfl ?_
                    let B25 : Ent := ⟨b158, 25, [i2 p0_0, i2 p0_1, i2 p0_2, i2 p0_3, i2 p0_4, .slice a151 ((y_73).length) c152]⟩
                    refine WO.cls (C' := St w0 m m [[B1], L147, L153, [B24], [B25]]) (fun _ h => h) ?_
                    refine WO_end ?_
                    refine WK.cls (fun _ h => h.perm (Ls' := [[B1], [B24], L147, [B25], L153]) (List.Perm.flatten (((List.Perm.cons _ (List.Perm.cons _ (List.Perm.swap _ _ _))).trans (List.Perm.cons _ (List.Perm.swap _ _ _))).trans (List.Perm.cons _ (List.Perm.cons _ (List.Perm.cons _ (List.Perm.swap _ _ _))))))) ?_
                    cases hx15
                    refine WK.sub ?_ (hk16 ⟨a145, c146, L147, a151, c152, L153, b157, b158⟩ ⟨hL147, hL153⟩)
                    exact ⟨rfl, rfl, rfl, rfl, rfl, rfl, trivial⟩
                  · refine WT_alt rfl ?_ ?_
                    · refine WO_alloc tbok [i2 0, i2 0, i2 0, i2 0, i2 0, .slice none 0 0] rfl rfl St_closed rfl rfl rfl rfl (fun b159 => ?_)
                      let B26 : Ent := ⟨b159, 25, [i2 0, i2 0, i2 0, i2 0, i2 0, .slice none 0 0]⟩
                      refine WO.cls (C' := St w0 m m [[B1], L147, L153, [B26]]) (fun _ h => h) ?_
                      refine WO_tree rfl ?_
                      refine WT_run ?_
                      refine WO_alloc tbok [i2 0, i2 0, i2 0, i2 0, i2 0, .slice none 0 0] rfl rfl St_closed rfl rfl rfl rfl (fun b160 => ?_)
                      let B27 : Ent := ⟨b160, 25, [i2 0, i2 0, i2 0, i2 0, i2 0, .slice none 0 0]⟩
                      refine WO.cls (C' := St w0 m m [[B1], L147, L153, [B26], [B27]]) (fun _ h => h) ?_
                      refine WO_tree rfl ?_
                      refine WT_fin ?_
                      refine WO_storeB tbok 4 [i2 p0_0, i2 p0_1, i2 p0_2, i2 p0_3, i2 p0_4, .slice a145 ((y_73).length) c146] rfl rfl rfl rfl rfl rfl rfl ?_
                      let B28 : Ent := ⟨b160, 25, [i2 p0_0, i2 p0_1, i2 p0_2, i2 p0_3, i2 p0_4, .slice a145 ((y_73).length) c146]⟩
                      refine WO.cls (C' := St w0 m m [[B1], L147, L153, [B26], [B28]]) (fun _ h => h) ?_
                      refine WO_storeB tbok 3 [i2 p0_0, i2 p0_1, i2 p0_2, i2 p0_3, i2 p0_4, .slice a151 ((y_73).length) c152] rfl rfl rfl rfl rfl rfl rfl ?_
                      let B29 : Ent := ⟨b159, 25, [i2 p0_0, i2 p0_1, i2 p0_2, i2 p0_3, i2 p0_4, .slice a151 ((y_73).length) c152]⟩
                      refine WO.cls (C' := St w0 m m [[B1], L147, L153, [B29], [B28]]) (fun _ h => h) ?_
                      refine WO_end ?_
                      refine WK.cls (fun _ h => h.perm (Ls' := [[B1], [B28], L147, [B29], L153]) (List.Perm.flatten ((((List.Perm.cons _ (List.Perm.cons _ (List.Perm.cons _ (List.Perm.swap _ _ _)))).trans (List.Perm.cons _ (List.Perm.cons _ (List.Perm.swap _ _ _)))).trans (List.Perm.cons _ (List.Perm.swap _ _ _))).trans (List.Perm.cons _ (List.Perm.cons _ (List.Perm.cons _ (List.Perm.swap _ _ _))))))) ?_
                      cases hx15
                      refine WK.sub ?_ (hk16 ⟨a145, c146, L147, a151, c152, L153, b160, b159⟩ ⟨hL147, hL153⟩)
                      exact ⟨rfl, rfl, rfl, rfl, rfl, rfl, trivial⟩
                    · exact WT_none
                · refine WT_alt rfl ?_ ?_
                  · refine WO_alloc tbok [i2 0, i2 0, i2 0, i2 0, i2 0, .slice none 0 0] rfl rfl St_closed rfl rfl rfl rfl (fun b161 => ?_)
                    let B30 : Ent := ⟨b161, 25, [i2 0, i2 0, i2 0, i2 0, i2 0, .slice none 0 0]⟩
                    refine WO.cls (C' := St w0 m m [[B1], L147, L153, [B30]]) (fun _ h => h) ?_
                    refine WO_tree rfl ?_
                    refine WT_alt rfl ?_ ?_
                    · refine WO_inline rfl rfl rfl rfl rfl rfl callable_22 Try.func22 rfl rfl rfl ?_
                      refine WK.sub (e' := [(0, .agg #[i2 p0_0, i2 p0_1, i2 p0_2, i2 p0_3, i2 p0_4, .slice a_p0_5 p0_5.length c_p0_5]), (1, .slice a151 ((y_73).length) c152)]) ⟨rfl, rfl, trivial⟩ ?_
                      refine WK_seq ?_
                      refine WK_region ?_
                      refine WO_box [i2 p0_0, i2 p0_1, i2 p0_2, i2 p0_3, i2 p0_4, .slice a_p0_5 p0_5.length c_p0_5] rfl rfl trivial rfl rfl rfl (fun b162 => ?_)
                      let B31 : Ent := ⟨b162, 25, [i2 p0_0, i2 p0_1, i2 p0_2, i2 p0_3, i2 p0_4, .slice a_p0_5 p0_5.length c_p0_5]⟩
                      refine WO.cls (C' := St w0 m m [[B1], L147, L153, [B30], [B31]]) (fun _ h => h) ?_
                      refine WO_alloc tbok [i2 0, i2 0, i2 0, i2 0, i2 0, .slice none 0 0] rfl rfl trivial rfl rfl rfl rfl (fun b163 => ?_)
                      let B32 : Ent := ⟨b163, 25, [i2 0, i2 0, i2 0, i2 0, i2 0, .slice none 0 0]⟩
                      refine WO.cls (C' := St w0 m m [[B1], L147, L153, [B30], [B31], [B32]]) (fun _ h => h) ?_
                      refine WO_end ?_
                      refine WK_seq ?_
                      refine WK_region ?_
                      refine WO_pure tbok 1 [(1, .slice a151 ((y_73).length) c152), (2, pb2 b162), (4, pb2 b163), (5, pb2 b162)] rfl ⟨rfl, rfl, rfl, rfl, trivial⟩ ?_
                      refine WO_loadB tbok 4 rfl rfl rfl rfl (fun _ h => h) rfl rfl ?_
                      refine WO_pure tbok 1 [(1, .slice a151 ((y_73).length) c152), (2, pb2 b162), (4, pb2 b163), (6, i2 p0_0), (7, .pointer (some ⟨b162, 1, none⟩))] rfl ⟨rfl, rfl, rfl, rfl, rfl, trivial⟩ ?_
                      refine WO_loadB tbok 4 rfl rfl rfl rfl (fun _ h => h) rfl rfl ?_
                      refine WO_pure tbok 1 [(1, .slice a151 ((y_73).length) c152), (2, pb2 b162), (4, pb2 b163), (6, i2 p0_0), (8, i2 p0_1), (9, .pointer (some ⟨b162, 2, none⟩))] rfl ⟨rfl, rfl, rfl, rfl, rfl, rfl, trivial⟩ ?_
                      refine WO_loadB tbok 4 rfl rfl rfl rfl (fun _ h => h) rfl rfl ?_
                      refine WO_pure tbok 1 [(1, .slice a151 ((y_73).length) c152), (2, pb2 b162), (4, pb2 b163), (6, i2 p0_0), (8, i2 p0_1), (10, i2 p0_2), (11, .pointer (some ⟨b162, 3, none⟩))] rfl ⟨rfl, rfl, rfl, rfl, rfl, rfl, rfl, trivial⟩ ?_
                      refine WO_loadB tbok 4 rfl rfl rfl rfl (fun _ h => h) rfl rfl ?_
                      refine WO_pure tbok 1 [(1, .slice a151 ((y_73).length) c152), (4, pb2 b163), (6, i2 p0_0), (8, i2 p0_1), (10, i2 p0_2), (12, i2 p0_3), (13, .pointer (some ⟨b162, 4, none⟩))] rfl ⟨rfl, rfl, rfl, rfl, rfl, rfl, rfl, trivial⟩ ?_
                      refine WO_loadB tbok 4 rfl rfl rfl rfl (fun _ h => h) rfl rfl ?_
                      refine WO_pure tbok 2 [(4, pb2 b163), (16, .agg #[i2 p0_0, i2 p0_1, i2 p0_2, i2 p0_3, i2 p0_4, .slice a151 ((y_73).length) c152])] rfl ⟨rfl, rfl, trivial⟩ ?_
                      refine WO_storeB tbok 5 [i2 p0_0, i2 p0_1, i2 p0_2, i2 p0_3, i2 p0_4, .slice a151 ((y_73).length) c152] rfl rfl rfl rfl rfl rfl rfl ?_
                      let B33 : Ent := ⟨b163, 25, [i2 p0_0, i2 p0_1, i2 p0_2, i2 p0_3, i2 p0_4, .slice a151 ((y_73).length) c152]⟩
                      refine WO.cls (C' := St w0 m m [[B1], L147, L153, [B30], [B31], [B33]]) (fun _ h => h) ?_
                      refine WO_end ?_
                      refine WK_retI (RLc_cell tbok 5 rfl rfl rfl RLc_nil) (fun _ h => St.back (Ls := [[B1]]) (X := [L147, L153, [B30], [B31], [B33]]) h (Le.refl _) (Le.refl _)) ?_
                      refine WO.cls (C' := St w0 m m [[B1], L147, L153, [B30]]) (fun _ h => St.take 4 h) ?_
                      refine WO_tree rfl ?_
                      refine WT_run ?_
                      refine WO_alloc tbok [i2 0, i2 0, i2 0, i2 0, i2 0, .slice none 0 0] rfl rfl St_closed rfl rfl rfl rfl (fun b164 => ?_)
                      let B34 : Ent := ⟨b164, 25, [i2 0, i2 0, i2 0, i2 0, i2 0, .slice none 0 0]⟩
                      refine WO.cls (C' := St w0 m m [[B1], L147, L153, [B30], [B34]]) (fun _ h => h) ?_
                      refine WO_tree rfl ?_
                      refine WT_fin ?_
                      refine WO_storeB tbok 3 [i2 p0_0, i2 p0_1, i2 p0_2, i2 p0_3, i2 p0_4, .slice a145 ((y_73).length) c146] rfl rfl rfl rfl rfl rfl rfl ?_
                      let B35 : Ent := ⟨b161, 25, [i2 p0_0, i2 p0_1, i2 p0_2, i2 p0_3, i2 p0_4, .slice a145 ((y_73).length) c146]⟩
                      refine WO.cls (C' := St w0 m m [[B1], L147, L153, [B35], [B34]]) (fun _ h => h) ?_
                      refine WO_storeB tbok 4 [i2 p0_0, i2 p0_1, i2 p0_2, i2 p0_3, i2 p0_4, .slice a151 ((y_73).length) c152] rfl rfl rfl rfl rfl rfl rfl ?_
                      let B36 : Ent := ⟨b164, 25, [i2 p0_0, i2 p0_1, i2 p0_2, i2 p0_3, i2 p0_4, .slice a151 ((y_73).length) c152]⟩
                      refine WO.cls (C' := St w0 m m [[B1], L147, L153, [B35], [B36]]) (fun _ h => h) ?_
                      refine WO_end ?_
                      refine WK.cls (fun _ h => h.perm (Ls' := [[B1], [B35], L147, [B36], L153]) (List.Perm.flatten (((List.Perm.cons _ (List.Perm.cons _ (List.Perm.swap _ _ _))).trans (List.Perm.cons _ (List.Perm.swap _ _ _))).trans (List.Perm.cons _ (List.Perm.cons _ (List.Perm.cons _ (List.Perm.swap _ _ _))))))) ?_
                      cases hx15
                      refine WK.sub ?_ (hk16 ⟨a145, c146, L147, a151, c152, L153, b161, b164⟩ ⟨hL147, hL153⟩)
                      exact ⟨rfl, rfl, rfl, rfl, rfl, rfl, trivial⟩
                    · refine WT_alt rfl ?_ ?_
                      · refine WO_alloc tbok [i2 0, i2 0, i2 0, i2 0, i2 0, .slice none 0 0] rfl rfl St_closed rfl rfl rfl rfl (fun b165 => ?_)
                        let B37 : Ent := ⟨b165, 25, [i2 0, i2 0, i2 0, i2 0, i2 0, .slice none 0 0]⟩
                        refine WO.cls (C' := St w0 m m [[B1], L147, L153, [B30], [B37]]) (fun _ h => h) ?_
                        refine WO_tree rfl ?_
                        refine WT_run ?_
                        refine WO_inline rfl rfl rfl rfl rfl rfl callable_22 Try.func22 rfl rfl rfl ?_
                        refine WK.sub (e' := [(0, .agg #[i2 p0_0, i2 p0_1, i2 p0_2, i2 p0_3, i2 p0_4, .slice a_p0_5 p0_5.length c_p0_5]), (1, .slice a151 ((y_73).length) c152)]) ⟨rfl, rfl, trivial⟩ ?_
                        refine WK_seq ?_
                        refine WK_region ?_
                        refine WO_box [i2 p0_0, i2 p0_1, i2 p0_2, i2 p0_3, i2 p0_4, .slice a_p0_5 p0_5.length c_p0_5] rfl rfl trivial rfl rfl rfl (fun b166 => ?_)
                        let B38 : Ent := ⟨b166, 25, [i2 p0_0, i2 p0_1, i2 p0_2, i2 p0_3, i2 p0_4, .slice a_p0_5 p0_5.length c_p0_5]⟩
                        refine WO.cls (C' := St w0 m m [[B1], L147, L153, [B30], [B37], [B38]]) (fun _ h => h) ?_
                        refine WO_alloc tbok [i2 0, i2 0, i2 0, i2 0, i2 0, .slice none 0 0] rfl rfl trivial rfl rfl rfl rfl (fun b167 => ?_)
                        let B39 : Ent := ⟨b167, 25, [i2 0, i2 0, i2 0, i2 0, i2 0, .slice none 0 0]⟩
                        refine WO.cls (C' := St w0 m m [[B1], L147, L153, [B30], [B37], [B38], [B39]]) (fun _ h => h) ?_
                        refine WO_end ?_
                        refine WK_seq ?_
                        refine WK_region ?_
                        refine WO_pure tbok 1 [(1, .slice a151 ((y_73).length) c152), (2, pb2 b166), (4, pb2 b167), (5, pb2 b166)] rfl ⟨rfl, rfl, rfl, rfl, trivial⟩ ?_
                        refine WO_loadB tbok 5 rfl rfl rfl rfl (fun _ h => h) rfl rfl ?_
                        refine WO_pure tbok 1 [(1, .slice a151 ((y_73).length) c152), (2, pb2 b166), (4, pb2 b167), (6, i2 p0_0), (7, .pointer (some ⟨b166, 1, none⟩))] rfl ⟨rfl, rfl, rfl, rfl, rfl, trivial⟩ ?_
                        refine WO_loadB tbok 5 rfl rfl rfl rfl (fun _ h => h) rfl rfl ?_
                        refine WO_pure tbok 1 [(1, .slice a151 ((y_73).length) c152), (2, pb2 b166), (4, pb2 b167), (6, i2 p0_0), (8, i2 p0_1), (9, .pointer (some ⟨b166, 2, none⟩))] rfl ⟨rfl, rfl, rfl, rfl, rfl, rfl, trivial⟩ ?_
                        refine WO_loadB tbok 5 rfl rfl rfl rfl (fun _ h => h) rfl rfl ?_
                        refine WO_pure tbok 1 [(1, .slice a151 ((y_73).length) c152), (2, pb2 b166), (4, pb2 b167), (6, i2 p0_0), (8, i2 p0_1), (10, i2 p0_2), (11, .pointer (some ⟨b166, 3, none⟩))] rfl ⟨rfl, rfl, rfl, rfl, rfl, rfl, rfl, trivial⟩ ?_
                        refine WO_loadB tbok 5 rfl rfl rfl rfl (fun _ h => h) rfl rfl ?_
                        refine WO_pure tbok 1 [(1, .slice a151 ((y_73).length) c152), (4, pb2 b167), (6, i2 p0_0), (8, i2 p0_1), (10, i2 p0_2), (12, i2 p0_3), (13, .pointer (some ⟨b166, 4, none⟩))] rfl ⟨rfl, rfl, rfl, rfl, rfl, rfl, rfl, trivial⟩ ?_
                        refine WO_loadB tbok 5 rfl rfl rfl rfl (fun _ h => h) rfl rfl ?_
                        refine WO_pure tbok 2 [(4, pb2 b167), (16, .agg #[i2 p0_0, i2 p0_1, i2 p0_2, i2 p0_3, i2 p0_4, .slice a151 ((y_73).length) c152])] rfl ⟨rfl, rfl, trivial⟩ ?_
                        refine WO_storeB tbok 6 [i2 p0_0, i2 p0_1, i2 p0_2, i2 p0_3, i2 p0_4, .slice a151 ((y_73).length) c152] rfl rfl rfl rfl rfl rfl rfl ?_
                        let B40 : Ent := ⟨b167, 25, [i2 p0_0, i2 p0_1, i2 p0_2, i2 p0_3, i2 p0_4, .slice a151 ((y_73).length) c152]⟩
                        refine WO.cls (C' := St w0 m m [[B1], L147, L153, [B30], [B37], [B38], [B40]]) (fun _ h => h) ?_
                        refine WO_end ?_
                        refine WK_retI (RLc_cell tbok 6 rfl rfl rfl RLc_nil) (fun _ h => St.back (Ls := [[B1]]) (X := [L147, L153, [B30], [B37], [B38], [B40]]) h (Le.refl _) (Le.refl _)) ?_
                        refine WO.cls (C' := St w0 m m [[B1], L147, L153, [B30], [B37]]) (fun _ h => St.take 5 h) ?_
                        refine WO_tree rfl ?_
                        refine WT_fin ?_
                        refine WO_storeB tbok 3 [i2 p0_0, i2 p0_1, i2 p0_2, i2 p0_3, i2 p0_4, .slice a145 ((y_73).length) c146] rfl rfl rfl rfl rfl rfl rfl ?_
                        let B41 : Ent := ⟨b161, 25, [i2 p0_0, i2 p0_1, i2 p0_2, i2 p0_3, i2 p0_4, .slice a145 ((y_73).length) c146]⟩
                        refine WO.cls (C' := St w0 m m [[B1], L147, L153, [B41], [B37]]) (fun _ h => h) ?_
                        refine WO_storeB tbok 4 [i2 p0_0, i2 p0_1, i2 p0_2, i2 p0_3, i2 p0_4, .slice a151 ((y_73).length) c152] rfl rfl rfl rfl rfl rfl rfl ?_
                        let B42 : Ent := ⟨b165, 25, [i2 p0_0, i2 p0_1, i2 p0_2, i2 p0_3, i2 p0_4, .slice a151 ((y_73).length) c152]⟩
                        refine WO.cls (C' := St w0 m m [[B1], L147, L153, [B41], [B42]]) (fun _ h => h) ?_
                        refine WO_end ?_
                        refine WK.cls (fun _ h => h.perm (Ls' := [[B1], [B41], L147, [B42], L153]) (List.Perm.flatten (((List.Perm.cons _ (List.Perm.cons _ (List.Perm.swap _ _ _))).trans (List.Perm.cons _ (List.Perm.swap _ _ _))).trans (List.Perm.cons _ (List.Perm.cons _ (List.Perm.cons _ (List.Perm.swap _ _ _))))))) ?_
                        cases hx15
                        refine WK.sub ?_ (hk16 ⟨a145, c146, L147, a151, c152, L153, b161, b165⟩ ⟨hL147, hL153⟩)
                        exact ⟨rfl, rfl, rfl, rfl, rfl, rfl, trivial⟩
                      · exact WT_none
                  · refine WT_alt rfl ?_ ?_
                    · refine WO_alloc tbok [i2 0, i2 0, i2 0, i2 0, i2 0, .slice none 0 0] rfl rfl St_closed rfl rfl rfl rfl (fun b168 => ?_)
                      let B43 : Ent := ⟨b168, 25, [i2 0, i2 0, i2 0, i2 0, i2 0, .slice none 0 0]⟩
                      refine WO.cls (C' := St w0 m m [[B1], L147, L153, [B43]]) (fun _ h => h) ?_
                      refine WO_tree rfl ?_
                      refine WT_alt rfl ?_ ?_
                      · refine WO_inline rfl rfl rfl rfl rfl rfl callable_22 Try.func22 rfl rfl rfl ?_
                        refine WK.sub (e' := [(0, .agg #[i2 p0_0, i2 p0_1, i2 p0_2, i2 p0_3, i2 p0_4, .slice a_p0_5 p0_5.length c_p0_5]), (1, .slice a151 ((y_73).length) c152)]) ⟨rfl, rfl, trivial⟩ ?_
                        refine WK_seq ?_
                        refine WK_region ?_
                        refine WO_box [i2 p0_0, i2 p0_1, i2 p0_2, i2 p0_3, i2 p0_4, .slice a_p0_5 p0_5.length c_p0_5] rfl rfl trivial rfl rfl rfl (fun b169 => ?_)
                        let B44 : Ent := ⟨b169, 25, [i2 p0_0, i2 p0_1, i2 p0_2, i2 p0_3, i2 p0_4, .slice a_p0_5 p0_5.length c_p0_5]⟩
                        refine WO.cls (C' := St w0 m m [[B1], L147, L153, [B43], [B44]]) (fun _ h => h) ?_
                        refine WO_alloc tbok [i2 0, i2 0, i2 0, i2 0, i2 0, .slice none 0 0] rfl rfl trivial rfl rfl rfl rfl (fun b170 => ?_)
                        let B45 : Ent := ⟨b170, 25, [i2 0, i2 0, i2 0, i2 0, i2 0, .slice none 0 0]⟩
                        refine WO.cls (C' := St w0 m m [[B1], L147, L153, [B43], [B44], [B45]]) (fun _ h => h) ?_
                        refine WO_end ?_
                        refine WK_seq ?_
                        refine WK_region ?_
                        refine WO_pure tbok 1 [(1, .slice a151 ((y_73).length) c152), (2, pb2 b169), (4, pb2 b170), (5, pb2 b169)] rfl ⟨rfl, rfl, rfl, rfl, trivial⟩ ?_
                        refine WO_loadB tbok 4 rfl rfl rfl rfl (fun _ h => h) rfl rfl ?_
                        refine WO_pure tbok 1 [(1, .slice a151 ((y_73).length) c152), (2, pb2 b169), (4, pb2 b170), (6, i2 p0_0), (7, .pointer (some ⟨b169, 1, none⟩))] rfl ⟨rfl, rfl, rfl, rfl, rfl, trivial⟩ ?_
                        refine WO_loadB tbok 4 rfl rfl rfl rfl (fun _ h => h) rfl rfl ?_
                        refine WO_pure tbok 1 [(1, .slice a151 ((y_73).length) c152), (2, pb2 b169), (4, pb2 b170), (6, i2 p0_0), (8, i2 p0_1), (9, .pointer (some ⟨b169, 2, none⟩))] rfl ⟨rfl, rfl, rfl, rfl, rfl, rfl, trivial⟩ ?_
                        refine WO_loadB tbok 4 rfl rfl rfl rfl (fun _ h => h) rfl rfl ?_
                        refine WO_pure tbok 1 [(1, .slice a151 ((y_73).length) c152), (2, pb2 b169), (4, pb2 b170), (6, i2 p0_0), (8, i2 p0_1), (10, i2 p0_2), (11, .pointer (some ⟨b169, 3, none⟩))] rfl ⟨rfl, rfl, rfl, rfl, rfl, rfl, rfl, trivial⟩ ?_
                        refine WO_loadB tbok 4 rfl rfl rfl rfl (fun _ h => h) rfl rfl ?_
                        refine WO_pure tbok 1 [(1, .slice a151 ((y_73).length) c152), (4, pb2 b170), (6, i2 p0_0), (8, i2 p0_1), (10, i2 p0_2), (12, i2 p0_3), (13, .pointer (some ⟨b169, 4, none⟩))] rfl ⟨rfl, rfl, rfl, rfl, rfl, rfl, rfl, trivial⟩ ?_
                        refine WO_loadB tbok 4 rfl rfl rfl rfl (fun _ h => h) rfl rfl ?_
                        refine WO_pure tbok 2 [(4, pb2 b170), (16, .agg #[i2 p0_0, i2 p0_1, i2 p0_2, i2 p0_3, i2 p0_4, .slice a151 ((y_73).length) c152])] rfl ⟨rfl, rfl, trivial⟩ ?_
                        refine WO_storeB tbok 5 [i2 p0_0, i2 p0_1, i2 p0_2, i2 p0_3, i2 p0_4, .slice a151 ((y_73).length) c152] rfl rfl rfl rfl rfl rfl rfl ?_
                        let B46 : Ent := ⟨b170, 25, [i2 p0_0, i2 p0_1, i2 p0_2, i2 p0_3, i2 p0_4, .slice a151 ((y_73).length) c152]⟩
                        refine WO.cls (C' := St w0 m m [[B1], L147, L153, [B43], [B44], [B46]]) (fun _ h => h) ?_
                        refine WO_end ?_
                        refine WK_retI (RLc_cell tbok 5 rfl rfl rfl RLc_nil) (fun _ h => St.back (Ls := [[B1]]) (X := [L147, L153, [B43], [B44], [B46]]) h (Le.refl _) (Le.refl _)) ?_
                        refine WO.cls (C' := St w0 m m [[B1], L147, L153, [B43]]) (fun _ h => St.take 4 h) ?_
                        refine WO_tree rfl ?_
                        refine WT_run ?_
                        refine WO_alloc tbok [i2 0, i2 0, i2 0, i2 0, i2 0, .slice none 0 0] rfl rfl St_closed rfl rfl rfl rfl (fun b171 => ?_)
                        let B47 : Ent := ⟨b171, 25, [i2 0, i2 0, i2 0, i2 0, i2 0, .slice none 0 0]⟩
                        refine WO.cls (C' := St w0 m m [[B1], L147, L153, [B43], [B47]]) (fun _ h => h) ?_
                        refine WO_tree rfl ?_
                        refine WT_fin ?_
                        refine WO_storeB tbok 4 [i2 p0_0, i2 p0_1, i2 p0_2, i2 p0_3, i2 p0_4, .slice a145 ((y_73).length) c146] rfl rfl rfl rfl rfl rfl rfl ?_
                        let B48 : Ent := ⟨b171, 25, [i2 p0_0, i2 p0_1, i2 p0_2, i2 p0_3, i2 p0_4, .slice a145 ((y_73).length) c146]⟩
                        refine WO.cls (C' := St w0 m m [[B1], L147, L153, [B43], [B48]]) (fun _ h => h) ?_
                        refine WO_storeB tbok 3 [i2 p0_0, i2 p0_1, i2 p0_2, i2 p0_3, i2 p0_4, .slice a151 ((y_73).length) c152] rfl rfl rfl rfl rfl rfl rfl ?_
                        let B49 : Ent := ⟨b168, 25, [i2 p0_0, i2 p0_1, i2 p0_2, i2 p0_3, i2 p0_4, .slice a151 ((y_73).length) c152]⟩
                        refine WO.cls (C' := St w0 m m [[B1], L147, L153, [B49], [B48]]) (fun _ h => h) ?_
                        refine WO_end ?_
                        refine WK.cls (fun _ h => h.perm (Ls' := [[B1], [B48], L147, [B49], L153]) (List.Perm.flatten ((((List.Perm.cons _ (List.Perm.cons _ (List.Perm.cons _ (List.Perm.swap _ _ _)))).trans (List.Perm.cons _ (List.Perm.cons _ (List.Perm.swap _ _ _)))).trans (List.Perm.cons _ (List.Perm.swap _ _ _))).trans (List.Perm.cons _ (List.Perm.cons _ (List.Perm.cons _ (List.Perm.swap _ _ _))))))) ?_
                        cases hx15
                        refine WK.sub ?_ (hk16 ⟨a145, c146, L147, a151, c152, L153, b171, b168⟩ ⟨hL147, hL153⟩)
                        exact ⟨rfl, rfl, rfl, rfl, rfl, rfl, trivial⟩
                      · refine WT_alt rfl ?_ ?_
                        · refine WO_alloc tbok [i2 0, i2 0, i2 0, i2 0, i2 0, .slice none 0 0] rfl rfl St_closed rfl rfl rfl rfl (fun b172 => ?_)
                          let B50 : Ent := ⟨b172, 25, [i2 0, i2 0, i2 0, i2 0, i2 0, .slice none 0 0]⟩
                          refine WO.cls (C' := St w0 m m [[B1], L147, L153, [B43], [B50]]) (fun _ h => h) ?_
                          refine WO_tree rfl ?_
                          refine WT_run ?_
                          refine WO_inline rfl rfl rfl rfl rfl rfl callable_22 Try.func22 rfl rfl rfl ?_
                          refine WK.sub (e' := [(0, .agg #[i2 p0_0, i2 p0_1, i2 p0_2, i2 p0_3, i2 p0_4, .slice a_p0_5 p0_5.length c_p0_5]), (1, .slice a151 ((y_73).length) c152)]) ⟨rfl, rfl, trivial⟩ ?_
                          refine WK_seq ?_
                          refine WK_region ?_
                          refine WO_box [i2 p0_0, i2 p0_1, i2 p0_2, i2 p0_3, i2 p0_4, .slice a_p0_5 p0_5.length c_p0_5] rfl rfl trivial rfl rfl rfl (fun b173 => ?_)
                          let B51 : Ent := ⟨b173, 25, [i2 p0_0, i2 p0_1, i2 p0_2, i2 p0_3, i2 p0_4, .slice a_p0_5 p0_5.length c_p0_5]⟩
                          refine WO.cls (C' := St w0 m m [[B1], L147, L153, [B43], [B50], [B51]]) (fun _ h => h) ?_
                          refine WO_alloc tbok [i2 0, i2 0, i2 0, i2 0, i2 0, .slice none 0 0] rfl rfl trivial rfl rfl rfl rfl (fun b174 => ?_)
                          let B52 : Ent := ⟨b174, 25, [i2 0, i2 0, i2 0, i2 0, i2 0, .slice none 0 0]⟩
                          refine WO.cls (C' := St w0 m m [[B1], L147, L153, [B43], [B50], [B51], [B52]]) (fun _ h => h) ?_
                          refine WO_end ?_
                          refine WK_seq ?_
                          refine WK_region ?_
                          refine WO_pure tbok 1 [(1, .slice a151 ((y_73).length) c152), (2, pb2 b173), (4, pb2 b174), (5, pb2 b173)] rfl ⟨rfl, rfl, rfl, rfl, trivial⟩ ?_
                          refine WO_loadB tbok 5 rfl rfl rfl rfl (fun _ h => h) rfl rfl ?_
                          refine WO_pure tbok 1 [(1, .slice a151 ((y_73).length) c152), (2, pb2 b173), (4, pb2 b174), (6, i2 p0_0), (7, .pointer (some ⟨b173, 1, none⟩))] rfl ⟨rfl, rfl, rfl, rfl, rfl, trivial⟩ ?_
                          refine WO_loadB tbok 5 rfl rfl rfl rfl (fun _ h => h) rfl rfl ?_
                          refine WO_pure tbok 1 [(1, .slice a151 ((y_73).length) c152), (2, pb2 b173), (4, pb2 b174), (6, i2 p0_0), (8, i2 p0_1), (9, .pointer (some ⟨b173, 2, none⟩))] rfl ⟨rfl, rfl, rfl, rfl, rfl, rfl, trivial⟩ ?_
                          refine WO_loadB tbok 5 rfl rfl rfl rfl (fun _ h => h) rfl rfl ?_
                          refine WO_pure tbok 1 [(1, .slice a151 ((y_73).length) c152), (2, pb2 b173), (4, pb2 b174), (6, i2 p0_0), (8, i2 p0_1), (10, i2 p0_2), (11, .pointer (some ⟨b173, 3, none⟩))] rfl ⟨rfl, rfl, rfl, rfl, rfl, rfl, rfl, trivial⟩ ?_
                          refine WO_loadB tbok 5 rfl rfl rfl rfl (fun _ h => h) rfl rfl ?_
                          refine WO_pure tbok 1 [(1, .slice a151 ((y_73).length) c152), (4, pb2 b174), (6, i2 p0_0), (8, i2 p0_1), (10, i2 p0_2), (12, i2 p0_3), (13, .pointer (some ⟨b173, 4, none⟩))] rfl ⟨rfl, rfl, rfl, rfl, rfl, rfl, rfl, trivial⟩ ?_
                          refine WO_loadB tbok 5 rfl rfl rfl rfl (fun _ h => h) rfl rfl ?_
                          refine WO_pure tbok 2 [(4, pb2 b174), (16, .agg #[i2 p0_0, i2 p0_1, i2 p0_2, i2 p0_3, i2 p0_4, .slice a151 ((y_73).length) c152])] rfl ⟨rfl, rfl, trivial⟩ ?_
                          refine WO_storeB tbok 6 [i2 p0_0, i2 p0_1, i2 p0_2, i2 p0_3, i2 p0_4, .slice a151 ((y_73).length) c152] rfl rfl rfl rfl rfl rfl rfl ?_
                          let B53 : Ent := ⟨b174, 25, [i2 p0_0, i2 p0_1, i2 p0_2, i2 p0_3, i2 p0_4, .slice a151 ((y_73).length) c152]⟩
                          refine WO.cls (C' := St w0 m m [[B1], L147, L153, [B43], [B50], [B51], [B53]]) (fun _ h => h) ?_
                          refine WO_end ?_
                          refine WK_retI (RLc_cell tbok 6 rfl rfl rfl RLc_nil) (fun _ h => St.back (Ls := [[B1]]) (X := [L147, L153, [B43], [B50], [B51], [B53]]) h (Le.refl _) (Le.refl _)) ?_
                          refine WO.cls (C' := St w0 m m [[B1], L147, L153, [B43], [B50]]) (fun _ h => St.take 5 h) ?_
                          refine WO_tree rfl ?_
                          refine WT_fin ?_
                          refine WO_storeB tbok 4 [i2 p0_0, i2 p0_1, i2 p0_2, i2 p0_3, i2 p0_4, .slice a145 ((y_73).length) c146] rfl rfl rfl rfl rfl rfl rfl ?_
                          let B54 : Ent := ⟨b172, 25, [i2 p0_0, i2 p0_1, i2 p0_2, i2 p0_3, i2 p0_4, .slice a145 ((y_73).length) c146]⟩
                          refine WO.cls (C' := St w0 m m [[B1], L147, L153, [B43], [B54]]) (fun _ h => h) ?_
                          refine WO_storeB tbok 3 [i2 p0_0, i2 p0_1, i2 p0_2, i2 p0_3, i2 p0_4, .slice a151 ((y_73).length) c152] rfl rfl rfl rfl rfl rfl rfl ?_
                          let B55 : Ent := ⟨b168, 25, [i2 p0_0, i2 p0_1, i2 p0_2, i2 p0_3, i2 p0_4, .slice a151 ((y_73).length) c152]⟩
                          refine WO.cls (C' := St w0 m m [[B1], L147, L153, [B55], [B54]]) (fun _ h => h) ?_
                          refine WO_end ?_
                          refine WK.cls (fun _ h => h.perm (Ls' := [[B1], [B54], L147, [B55], L153]) (List.Perm.flatten ((((List.Perm.cons _ (List.Perm.cons _ (List.Perm.cons _ (List.Perm.swap _ _ _)))).trans (List.Perm.cons _ (List.Perm.cons _ (List.Perm.swap _ _ _)))).trans (List.Perm.cons _ (List.Perm.swap _ _ _))).trans (List.Perm.cons _ (List.Perm.cons _ (List.Perm.cons _ (List.Perm.swap _ _ _))))))) ?_
                          cases hx15
                          refine WK.sub ?_ (hk16 ⟨a145, c146, L147, a151, c152, L153, b172, b168⟩ ⟨hL147, hL153⟩)
                          exact ⟨rfl, rfl, rfl, rfl, rfl, rfl, trivial⟩
                        · exact WT_none
                    · exact WT_none
              · refine WT_alt rfl ?_ ?_
                · refine WO_alloc tbok [i2 0, i2 0, i2 0, i2 0, i2 0, .slice none 0 0] rfl rfl St_closed rfl rfl rfl rfl (fun b175 => ?_)
                  let B56 : Ent := ⟨b175, 25, [i2 0, i2 0, i2 0, i2 0, i2 0, .slice none 0 0]⟩
                  refine WO.cls (C' := St w0 m m [[B1], L147, [B56]]) (fun _ h => h) ?_
                  refine WO_tree rfl ?_
                  refine WT_alt rfl ?_ ?_
                  · refine WO_call1 (slices_Clone_sint_Q y_73) rfl rfl St_closed rfl rfl rfl rfl ⟨23, #[], #[], rfl, callable_23, fun w hw => ⟨_, hw.sat, slices_Clone_sint_walk h_p0_5 hc144⟩⟩ (fun v179 L178 hq => ?_)
                    obtain ⟨a176, qa176, c177, rfl, hL178⟩ := hq
                    obtain rfl := OwnE.qlen hL178
                    refine WO.cls (C' := St w0 m m [[B1], L147, [B56], L178]) (fun _ h => h) ?_
                    refine WO_tree rfl ?_
                    refine WT_alt rfl ?_ ?_
                    · refine WO_inline rfl rfl rfl rfl rfl rfl callable_22 Try.func22 rfl rfl rfl ?_
                      refine WK.sub (e' := [(0, .agg #[i2 p0_0, i2 p0_1, i2 p0_2, i2 p0_3, i2 p0_4, .slice a_p0_5 p0_5.length c_p0_5]), (1, .slice a176 ((y_73).length) c177)]) ⟨rfl, rfl, trivial⟩ ?_
                      refine WK_seq ?_
                      refine WK_region ?_
                      refine WO_box [i2 p0_0, i2 p0_1, i2 p0_2, i2 p0_3, i2 p0_4, .slice a_p0_5 p0_5.length c_p0_5] rfl rfl trivial rfl rfl rfl (fun b180 => ?_)
                      let B57 : Ent := ⟨b180, 25, [i2 p0_0, i2 p0_1, i2 p0_2, i2 p0_3, i2 p0_4, .slice a_p0_5 p0_5.length c_p0_5]⟩
                      refine WO.cls (C' := St w0 m m [[B1], L147, [B56], L178, [B57]]) (fun _ h => h) ?_
                      refine WO_alloc tbok [i2 0, i2 0, i2 0, i2 0, i2 0, .slice none 0 0] rfl rfl trivial rfl rfl rfl rfl (fun b181 => ?_)
                      let B58 : Ent := ⟨b181, 25, [i2 0, i2 0, i2 0, i2 0, i2 0, .slice none 0 0]⟩
                      refine WO.cls (C' := St w0 m m [[B1], L147, [B56], L178, [B57], [B58]]) (fun _ h => h) ?_
                      refine WO_end ?_
                      refine WK_seq ?_
                      refine WK_region ?_
                      refine WO_pure tbok 1 [(1, .slice a176 ((y_73).length) c177), (2, pb2 b180), (4, pb2 b181), (5, pb2 b180)] rfl ⟨rfl, rfl, rfl, rfl, trivial⟩ ?_
                      refine WO_loadB tbok 4 rfl rfl rfl rfl (fun _ h => h) rfl rfl ?_
                      refine WO_pure tbok 1 [(1, .slice a176 ((y_73).length) c177), (2, pb2 b180), (4, pb2 b181), (6, i2 p0_0), (7, .pointer (some ⟨b180, 1, none⟩))] rfl ⟨rfl, rfl, rfl, rfl, rfl, trivial⟩ ?_
                      refine WO_loadB tbok 4 rfl rfl rfl rfl (fun _ h => h) rfl rfl ?_
                      refine WO_pure tbok 1 [(1, .slice a176 ((y_73).length) c177), (2, pb2 b180), (4, pb2 b181), (6, i2 p0_0), (8, i2 p0_1), (9, .pointer (some ⟨b180, 2, none⟩))] rfl ⟨rfl, rfl, rfl, rfl, rfl, rfl, trivial⟩ ?_
                      refine WO_loadB tbok 4 rfl rfl rfl rfl (fun _ h => h) rfl rfl ?_
                      refine WO_pure tbok 1 [(1, .slice a176 ((y_73).length) c177), (2, pb2 b180), (4, pb2 b181), (6, i2 p0_0), (8, i2 p0_1), (10, i2 p0_2), (11, .pointer (some ⟨b180, 3, none⟩))] rfl ⟨rfl, rfl, rfl, rfl, rfl, rfl, rfl, trivial⟩ ?_
                      refine WO_loadB tbok 4 rfl rfl rfl rfl (fun _ h => h) rfl rfl ?_
                      refine WO_pure tbok 1 [(1, .slice a176 ((y_73).length) c177), (4, pb2 b181), (6, i2 p0_0), (8, i2 p0_1), (10, i2 p0_2), (12, i2 p0_3), (13, .pointer (some ⟨b180, 4, none⟩))] rfl ⟨rfl, rfl, rfl, rfl, rfl, rfl, rfl, trivial⟩ ?_
                      refine WO_loadB tbok 4 rfl rfl rfl rfl (fun _ h => h) rfl rfl ?_
                      refine WO_pure tbok 2 [(4, pb2 b181), (16, .agg #[i2 p0_0, i2 p0_1, i2 p0_2, i2 p0_3, i2 p0_4, .slice a176 ((y_73).length) c177])] rfl ⟨rfl, rfl, trivial⟩ ?_
                      refine WO_storeB tbok 5 [i2 p0_0, i2 p0_1, i2 p0_2, i2 p0_3, i2 p0_4, .slice a176 ((y_73).length) c177] rfl rfl rfl rfl rfl rfl rfl ?_
                      let B59 : Ent := ⟨b181, 25, [i2 p0_0, i2 p0_1, i2 p0_2, i2 p0_3, i2 p0_4, .slice a176 ((y_73).length) c177]⟩
                      refine WO.cls (C' := St w0 m m [[B1], L147, [B56], L178, [B57], [B59]]) (fun _ h => h) ?_
                      refine WO_end ?_
                      refine WK_retI (RLc_cell tbok 5 rfl rfl rfl RLc_nil) (fun _ h => St.back (Ls := [[B1]]) (X := [L147, [B56], L178, [B57], [B59]]) h (Le.refl _) (Le.refl _)) ?_
                      refine WO.cls (C' := St w0 m m [[B1], L147, [B56], L178]) (fun _ h => St.take 4 h) ?_
                      refine WO_tree rfl ?_
                      refine WT_run ?_
                      refine WO_alloc tbok [i2 0, i2 0, i2 0, i2 0, i2 0, .slice none 0 0] rfl rfl St_closed rfl rfl rfl rfl (fun b182 => ?_)
                      let B60 : Ent := ⟨b182, 25, [i2 0, i2 0, i2 0, i2 0, i2 0, .slice none 0 0]⟩
                      refine WO.cls (C' := St w0 m m [[B1], L147, [B56], L178, [B60]]) (fun _ h => h) ?_
                      refine WO_tree rfl ?_
                      refine WT_fin ?_
                      refine WO_storeB tbok 2 [i2 p0_0, i2 p0_1, i2 p0_2, i2 p0_3, i2 p0_4, .slice a145 ((y_73).length) c146] rfl rfl rfl rfl rfl rfl rfl ?_
                      let B61 : Ent := ⟨b175, 25, [i2 p0_0, i2 p0_1, i2 p0_2, i2 p0_3, i2 p0_4, .slice a145 ((y_73).length) c146]⟩
                      refine WO.cls (C' := St w0 m m [[B1], L147, [B61], L178, [B60]]) (fun _ h => h) ?_
                      refine WO_storeB tbok 4 [i2 p0_0, i2 p0_1, i2 p0_2, i2 p0_3, i2 p0_4, .slice a176 ((y_73).length) c177] rfl rfl rfl rfl rfl rfl rfl ?_
                      let B62 : Ent := ⟨b182, 25, [i2 p0_0, i2 p0_1, i2 p0_2, i2 p0_3, i2 p0_4, .slice a176 ((y_73).length) c177]⟩
                      refine WO.cls (C' := St w0 m m [[B1], L147, [B61], L178, [B62]]) (fun _ h => h) ?_
                      refine WO_end ?_
                      refine WK.cls (fun _ h => h.perm (Ls' := [[B1], [B61], L147, [B62], L178]) (List.Perm.flatten ((List.Perm.cons _ (List.Perm.swap _ _ _)).trans (List.Perm.cons _ (List.Perm.cons _ (List.Perm.cons _ (List.Perm.swap _ _ _))))))) ?_
                      cases hx15
                      refine WK.sub ?_ (hk16 ⟨a145, c146, L147, a176, c177, L178, b175, b182⟩ ⟨hL147, hL178⟩)
                      exact ⟨rfl, rfl, rfl, rfl, rfl, rfl, trivial⟩
                    · refine WT_alt rfl ?_ ?_
                      · refine WO_alloc tbok [i2 0, i2 0, i2 0, i2 0, i2 0, .slice none 0 0] rfl rfl St_closed rfl rfl rfl rfl (fun b183 => ?_)
                        let B63 : Ent := ⟨b183, 25, [i2 0, i2 0, i2 0, i2 0, i2 0, .slice none 0 0]⟩
                        refine WO.cls (C' := St w0 m m [[B1], L147, [B56], L178, [B63]]) (fun _ h => h) ?_
                        refine WO_tree rfl ?_
                        refine WT_run ?_
                        refine WO_inline rfl rfl rfl rfl rfl rfl callable_22 Try.func22 rfl rfl rfl ?_
                        refine WK.sub (e' := [(0, .agg #[i2 p0_0, i2 p0_1, i2 p0_2, i2 p0_3, i2 p0_4, .slice a_p0_5 p0_5.length c_p0_5]), (1, .slice a176 ((y_73).length) c177)]) ⟨rfl, rfl, trivial⟩ ?_
                        refine WK_seq ?_
                        refine WK_region ?_
                        refine WO_box [i2 p0_0, i2 p0_1, i2 p0_2, i2 p0_3, i2 p0_4, .slice a_p0_5 p0_5.length c_p0_5] rfl rfl trivial rfl rfl rfl (fun b184 => ?_)
                        let B64 : Ent := ⟨b184, 25, [i2 p0_0, i2 p0_1, i2 p0_2, i2 p0_3, i2 p0_4, .slice a_p0_5 p0_5.length c_p0_5]⟩
                        refine WO.cls (C' := St w0 m m [[B1], L147, [B56], L178, [B63], [B64]]) (fun _ h => h) ?_
                        refine WO_alloc tbok [i2 0, i2 0, i2 0, i2 0, i2 0, .slice none 0 0] rfl rfl trivial rfl rfl rfl rfl (fun b185 => ?_)
                        let B65 : Ent := ⟨b185, 25, [i2 0, i2 0, i2 0, i2 0, i2 0, .slice none 0 0]⟩
                        refine WO.cls (C' := St w0 m m [[B1], L147, [B56], L178, [B63], [B64], [B65]]) (fun _ h => h) ?_
                        refine WO_end ?_
                        refine WK_seq ?_
                        refine WK_region ?_
                        refine WO_pure tbok 1 [(1, .slice a176 ((y_73).length) c177), (2, pb2 b184), (4, pb2 b185), (5, pb2 b184)] rfl ⟨rfl, rfl, rfl, rfl, trivial⟩ ?_
                        refine WO_loadB tbok 5 rfl rfl rfl rfl (fun _ h => h) rfl rfl ?_
                        refine WO_pure tbok 1 [(1, .slice a176 ((y_73).length) c177), (2, pb2 b184), (4, pb2 b185), (6, i2 p0_0), (7, .pointer (some ⟨b184, 1, none⟩))] rfl ⟨rfl, rfl, rfl, rfl, rfl, trivial⟩ ?_
                        refine WO_loadB tbok 5 rfl rfl rfl rfl (fun _ h => h) rfl rfl ?_
                        refine WO_pure tbok 1 [(1, .slice a176 ((y_73).length) c177), (2, pb2 b184), (4, pb2 b185), (6, i2 p0_0), (8, i2 p0_1), (9, .pointer (some ⟨b184, 2, none⟩))] rfl ⟨rfl, rfl, rfl, rfl, rfl, rfl, trivial⟩ ?_
                        refine WO_loadB tbok 5 rfl rfl rfl rfl (fun _ h => h) rfl rfl ?_
                        refine WO_pure tbok 1 [(1, .slice a176 ((y_73).length) c177), (2, pb2 b184), (4, pb2 b185), (6, i2 p0_0), (8, i2 p0_1), (10, i2 p0_2), (11, .pointer (some ⟨b184, 3, none⟩))] rfl ⟨rfl, rfl, rfl, rfl, rfl, rfl, rfl, trivial⟩ ?_
                        refine WO_loadB tbok 5 rfl rfl rfl rfl (fun _ h => h) rfl rfl ?_
                        refine WO_pure tbok 1 [(1, .slice a176 ((y_73).length) c177), (4, pb2 b185), (6, i2 p0_0), (8, i2 p0_1), (10, i2 p0_2), (12, i2 p0_3), (13, .pointer (some ⟨b184, 4, none⟩))] rfl ⟨rfl, rfl, rfl, rfl, rfl, rfl, rfl, trivial⟩ ?_
                        refine WO_loadB tbok 5 rfl rfl rfl rfl (fun _ h => h) rfl rfl ?_
                        refine WO_pure tbok 2 [(4, pb2 b185), (16, .agg #[i2 p0_0, i2 p0_1, i2 p0_2, i2 p0_3, i2 p0_4, .slice a176 ((y_73).length) c177])] rfl ⟨rfl, rfl, trivial⟩ ?_
                        refine WO_storeB tbok 6 [i2 p0_0, i2 p0_1, i2 p0_2, i2 p0_3, i2 p0_4, .slice a176 ((y_73).length) c177] rfl rfl rfl rfl rfl rfl rfl ?_
                        let B66 : Ent := ⟨b185, 25, [i2 p0_0, i2 p0_1, i2 p0_2, i2 p0_3, i2 p0_4, .slice a176 ((y_73).length) c177]⟩
                        refine WO.cls (C' := St w0 m m [[B1], L147, [B56], L178, [B63], [B64], [B66]]) (fun _ h => h) ?_
                        refine WO_end ?_
                        refine WK_retI (RLc_cell tbok 6 rfl rfl rfl RLc_nil) (fun _ h => St.back (Ls := [[B1]]) (X := [L147, [B56], L178, [B63], [B64], [B66]]) h (Le.refl _) (Le.refl _)) ?_
                        refine WO.cls (C' := St w0 m m [[B1], L147, [B56], L178, [B63]]) (fun _ h => St.take 5 h) ?_
                        refine WO_tree rfl ?_
                        refine WT_fin ?_
                        refine WO_storeB tbok 2 [i2 p0_0, i2 p0_1, i2 p0_2, i2 p0_3, i2 p0_4, .slice a145 ((y_73).length) c146] rfl rfl rfl rfl rfl rfl rfl ?_
                        let B67 : Ent := ⟨b175, 25, [i2 p0_0, i2 p0_1, i2 p0_2, i2 p0_3, i2 p0_4, .slice a145 ((y_73).length) c146]⟩
                        refine WO.cls (C' := St w0 m m [[B1], L147, [B67], L178, [B63]]) (fun _ h => h) ?_
                        refine WO_storeB tbok 4 [i2 p0_0, i2 p0_1, i2 p0_2, i2 p0_3, i2 p0_4, .slice a176 ((y_73).length) c177] rfl rfl rfl rfl rfl rfl rfl ?_
                        let B68 : Ent := ⟨b183, 25, [i2 p0_0, i2 p0_1, i2 p0_2, i2 p0_3, i2 p0_4, .slice a176 ((y_73).length) c177]⟩
                        refine WO.cls (C' := St w0 m m [[B1], L147, [B67], L178, [B68]]) (fun _ h => h) ?_
                        refine WO_end ?_
                        refine WK.cls (fun _ h => h.perm (Ls' := [[B1], [B67], L147, [B68], L178]) (List.Perm.flatten ((List.Perm.cons _ (List.Perm.swap _ _ _)).trans (List.Perm.cons _ (List.Perm.cons _ (List.Perm.cons _ (List.Perm.swap _ _ _))))))) ?_
                        cases hx15
                        refine WK.sub ?_ (hk16 ⟨a145, c146, L147, a176, c177, L178, b175, b183⟩ ⟨hL147, hL178⟩)
                        exact ⟨rfl, rfl, rfl, rfl, rfl, rfl, trivial⟩
                      · exact WT_none
                  · refine WT_alt rfl ?_ ?_
                    · refine WO_alloc tbok [i2 0, i2 0, i2 0, i2 0, i2 0, .slice none 0 0] rfl rfl St_closed rfl rfl rfl rfl (fun b186 => ?_)
                      let B69 : Ent := ⟨b186, 25, [i2 0, i2 0, i2 0, i2 0, i2 0, .slice none 0 0]⟩
                      refine WO.cls (C' := St w0 m m [[B1], L147, [B56], [B69]]) (fun _ h => h) ?_
                      refine WO_tree rfl ?_
                      refine WT_run ?_
                      refine WO_call1 (slices_Clone_sint_Q y_73) rfl rfl St_closed rfl rfl rfl rfl ⟨23, #[], #[], rfl, callable_23, fun w hw => ⟨_, hw.sat, slices_Clone_sint_walk h_p0_5 hc144⟩⟩ (fun v190 L189 hq => ?_)
                      obtain ⟨a187, qa187, c188, rfl, hL189⟩ := hq
                      obtain rfl := OwnE.qlen hL189
                      refine WO.cls (C' := St w0 m m [[B1], L147, [B56], [B69], L189]) (fun _ h => h) ?_
                      refine WO_inline rfl rfl rfl rfl rfl rfl callable_22 Try.func22 rfl rfl rfl ?_
                      refine WK.sub (e' := [(0, .agg #[i2 p0_0, i2 p0_1, i2 p0_2, i2 p0_3, i2 p0_4, .slice a_p0_5 p0_5.length c_p0_5]), (1, .slice a187 ((y_73).length) c188)]) ⟨rfl, rfl, trivial⟩ ?_
                      refine WK_seq ?_
                      refine WK_region ?_
                      refine WO_box [i2 p0_0, i2 p0_1, i2 p0_2, i2 p0_3, i2 p0_4, .slice a_p0_5 p0_5.length c_p0_5] rfl rfl trivial rfl rfl rfl (fun b191 => ?_)
                      let B70 : Ent := ⟨b191, 25, [i2 p0_0, i2 p0_1, i2 p0_2, i2 p0_3, i2 p0_4, .slice a_p0_5 p0_5.length c_p0_5]⟩
                      refine WO.cls (C' := St w0 m m [[B1], L147, [B56], [B69], L189, [B70]]) (fun _ h => h) ?_
                      refine WO_alloc tbok [i2 0, i2 0, i2 0, i2 0, i2 0, .slice none 0 0] rfl rfl trivial rfl rfl rfl rfl (fun b192 => ?_)
                      let B71 : Ent := ⟨b192, 25, [i2 0, i2 0, i2 0, i2 0, i2 0, .slice none 0 0]⟩
                      refine WO.cls (C' := St w0 m m [[B1], L147, [B56], [B69], L189, [B70], [B71]]) (fun _ h => h) ?_
                      refine WO_end ?_
                      refine WK_seq ?_
                      refine WK_region ?_
                      refine WO_pure tbok 1 [(1, .slice a187 ((y_73).length) c188), (2, pb2 b191), (4, pb2 b192), (5, pb2 b191)] rfl ⟨rfl, rfl, rfl, rfl, trivial⟩ ?_
                      refine WO_loadB tbok 5 rfl rfl rfl rfl (fun _ h => h) rfl rfl ?_
                      refine WO_pure tbok 1 [(1, .slice a187 ((y_73).length) c188), (2, pb2 b191), (4, pb2 b192), (6, i2 p0_0), (7, .pointer (some ⟨b191, 1, none⟩))] rfl ⟨rfl, rfl, rfl, rfl, rfl, trivial⟩ ?_
                      refine WO_loadB tbok 5 rfl rfl rfl rfl (fun _ h => h) rfl rfl ?_
                      refine WO_pure tbok 1 [(1, .slice a187 ((y_73).length) c188), (2, pb2 b191), (4, pb2 b192), (6, i2 p0_0), (8, i2 p0_1), (9, .pointer (some ⟨b191, 2, none⟩))] rfl ⟨rfl, rfl, rfl, rfl, rfl, rfl, trivial⟩ ?_
                      refine WO_loadB tbok 5 rfl rfl rfl rfl (fun _ h => h) rfl rfl ?_
                      refine WO_pure tbok 1 [(1, .slice a187 ((y_73).length) c188), (2, pb2 b191), (4, pb2 b192), (6, i2 p0_0), (8, i2 p0_1), (10, i2 p0_2), (11, .pointer (some ⟨b191, 3, none⟩))] rfl ⟨rfl, rfl, rfl, rfl, rfl, rfl, rfl, trivial⟩ ?_
                      refine WO_loadB tbok 5 rfl rfl rfl rfl (fun _ h => h) rfl rfl ?_
                      refine WO_pure tbok 1 [(1, .slice a187 ((y_73).length) c188), (4, pb2 b192), (6, i2 p0_0), (8, i2 p0_1), (10, i2 p0_2), (12, i2 p0_3), (13, .pointer (some ⟨b191, 4, none⟩))] rfl ⟨rfl, rfl, rfl, rfl, rfl, rfl, rfl, trivial⟩ ?_
                      refine WO_loadB tbok 5 rfl rfl rfl rfl (fun _ h => h) rfl rfl ?_
                      refine WO_pure tbok 2 [(4, pb2 b192), (16, .agg #[i2 p0_0, i2 p0_1, i2 p0_2, i2 p0_3, i2 p0_4, .slice a187 ((y_73).length) c188])] rfl ⟨rfl, rfl, trivial⟩ ?_
                      refine WO_storeB tbok 6 [i2 p0_0, i2 p0_1, i2 p0_2, i2 p0_3, i2 p0_4, .slice a187 ((y_73).length) c188] rfl rfl rfl rfl rfl rfl rfl ?_
                      let B72 : Ent := ⟨b192, 25, [i2 p0_0, i2 p0_1, i2 p0_2, i2 p0_3, i2 p0_4, .slice a187 ((y_73).length) c188]⟩
                      refine WO.cls (C' := St w0 m m [[B1], L147, [B56], [B69], L189, [B70], [B72]]) (fun _ h => h) ?_
                      refine WO_end ?_
                      refine WK_retI (RLc_cell tbok 6 rfl rfl rfl RLc_nil) (fun _ h => St.back (Ls := [[B1]]) (X := [L147, [B56], [B69], L189, [B70], [B72]]) h (Le.refl _) (Le.refl _)) ?_
                      refine WO.cls (C' := St w0 m m [[B1], L147, [B56], [B69], L189]) (fun _ h => St.take 5 h) ?_
                      refine WO_tree rfl ?_
                      refine WT_fin ?_
                      refine WO_storeB tbok 2 [i2 p0_0, i2 p0_1, i2 p0_2, i2 p0_3, i2 p0_4, .slice a145 ((y_73).length) c146] rfl rfl rfl rfl rfl rfl rfl ?_
                      let B73 : Ent := ⟨b175, 25, [i2 p0_0, i2 p0_1, i2 p0_2, i2 p0_3, i2 p0_4, .slice a145 ((y_73).length) c146]⟩
                      refine WO.cls (C' := St w0 m m [[B1], L147, [B73], [B69], L189]) (fun _ h => h) ?_
                      refine WO_storeB tbok 3 [i2 p0_0, i2 p0_1, i2 p0_2, i2 p0_3, i2 p0_4, .slice a187 ((y_73).length) c188] rfl rfl rfl rfl rfl rfl rfl ?_
                      let B74 : Ent := ⟨b186, 25, [i2 p0_0, i2 p0_1, i2 p0_2, i2 p0_3, i2 p0_4, .slice a187 ((y_73).length) c188]⟩
                      refine WO.cls (C' := St w0 m m [[B1], L147, [B73], [B74], L189]) (fun _ h => h) ?_
                      refine WO_end ?_
                      refine WK.cls (fun _ h => h.perm (Ls' := [[B1], [B73], L147, [B74], L189]) (List.Perm.flatten (List.Perm.cons _ (List.Perm.swap _ _ _)))) ?_
                      cases hx15
                      refine WK.sub ?_ (hk16 ⟨a145, c146, L147, a187, c188, L189, b175, b186⟩ ⟨hL147, hL189⟩)
                      exact ⟨rfl, rfl, rfl, rfl, rfl, rfl, trivial⟩
                    · exact WT_none
                · refine WT_alt rfl ?_ ?_
                  · refine WO_alloc tbok [i2 0, i2 0, i2 0, i2 0, i2 0, .slice none 0 0] rfl rfl St_closed rfl rfl rfl rfl (fun b193 => ?_)
                    let B75 : Ent := ⟨b193, 25, [i2 0, i2 0, i2 0, i2 0, i2 0, .slice none 0 0]⟩
                    refine WO.cls (C' := St w0 m m [[B1], L147, [B75]]) (fun _ h => h) ?_
                    refine WO_tree rfl ?_
                    refine WT_alt rfl ?_ ?_
                    · refine WO_call1 (slices_Clone_sint_Q y_73) rfl rfl St_closed rfl rfl rfl rfl ⟨23, #[], #[], rfl, callable_23, fun w hw => ⟨_, hw.sat, slices_Clone_sint_walk h_p0_5 hc144⟩⟩ (fun v197 L196 hq => ?_)
                      obtain ⟨a194, qa194, c195, rfl, hL196⟩ := hq
                      obtain rfl := OwnE.qlen hL196
                      refine WO.cls (C' := St w0 m m [[B1], L147, [B75], L196]) (fun _ h => h) ?_
                      refine WO_tree rfl ?_
                      refine WT_alt rfl ?_ ?_
                      · refine WO_inline rfl rfl rfl rfl rfl rfl callable_22 Try.func22 rfl rfl rfl ?_
                        refine WK.sub (e' := [(0, .agg #[i2 p0_0, i2 p0_1, i2 p0_2, i2 p0_3, i2 p0_4, .slice a_p0_5 p0_5.length c_p0_5]), (1, .slice a194 ((y_73).length) c195)]) ⟨rfl, rfl, trivial⟩ ?_
                        refine WK_seq ?_
                        refine WK_region ?_
                        refine WO_box [i2 p0_0, i2 p0_1, i2 p0_2, i2 p0_3, i2 p0_4, .slice a_p0_5 p0_5.length c_p0_5] rfl rfl trivial rfl rfl rfl (fun b198 => ?_)
                        let B76 : Ent := ⟨b198, 25, [i2 p0_0, i2 p0_1, i2 p0_2, i2 p0_3, i2 p0_4, .slice a_p0_5 p0_5.length c_p0_5]⟩
                        refine WO.cls (C' := St w0 m m [[B1], L147, [B75], L196, [B76]]) (fun _ h => h) ?_
                        refine WO_alloc tbok [i2 0, i2 0, i2 0, i2 0, i2 0, .slice none 0 0] rfl rfl trivial rfl rfl rfl rfl (fun b199 => ?_)
                        let B77 : Ent := ⟨b199, 25, [i2 0, i2 0, i2 0, i2 0, i2 0, .slice none 0 0]⟩
                        refine WO.cls (C' := St w0 m m [[B1], L147, [B75], L196, [B76], [B77]]) (fun _ h => h) ?_
                        refine WO_end ?_
                        refine WK_seq ?_
                        refine WK_region ?_
                        refine WO_pure tbok 1 [(1, .slice a194 ((y_73).length) c195), (2, pb2 b198), (4, pb2 b199), (5, pb2 b198)] rfl ⟨rfl, rfl, rfl, rfl, trivial⟩ ?_
                        refine WO_loadB tbok 4 rfl rfl rfl rfl (fun _ h => h) rfl rfl ?_
                        refine WO_pure tbok 1 [(1, .slice a194 ((y_73).length) c195), (2, pb2 b198), (4, pb2 b199), (6, i2 p0_0), (7, .pointer (some ⟨b198, 1, none⟩))] rfl ⟨rfl, rfl, rfl, rfl, rfl, trivial⟩ ?_
                        refine WO_loadB tbok 4 rfl rfl rfl rfl (fun _ h => h) rfl rfl ?_
                        refine WO_pure tbok 1 [(1, .slice a194 ((y_73).length) c195), (2, pb2 b198), (4, pb2 b199), (6, i2 p0_0), (8, i2 p0_1), (9, .pointer (some ⟨b198, 2, none⟩))] rfl ⟨rfl, rfl, rfl, rfl, rfl, rfl, trivial⟩ ?_
                        refine WO_loadB tbok 4 rfl rfl rfl rfl (fun _ h => h) rfl rfl ?_
                        refine WO_pure tbok 1 [(1, .slice a194 ((y_73).length) c195), (2, pb2 b198), (4, pb2 b199), (6, i2 p0_0), (8, i2 p0_1), (10, i2 p0_2), (11, .pointer (some ⟨b198, 3, none⟩))] rfl ⟨rfl, rfl, rfl, rfl, rfl, rfl, rfl, trivial⟩ ?_
                        refine WO_loadB tbok 4 rfl rfl rfl rfl (fun _ h => h) rfl rfl ?_
                        refine WO_pure tbok 1 [(1, .slice a194 ((y_73).length) c195), (4, pb2 b199), (6, i2 p0_0), (8, i2 p0_1), (10, i2 p0_2), (12, i2 p0_3), (13, .pointer (some ⟨b198, 4, none⟩))] rfl ⟨rfl, rfl, rfl, rfl, rfl, rfl, rfl, trivial⟩ ?_
                        refine WO_loadB tbok 4 rfl rfl rfl rfl (fun _ h => h) rfl rfl ?_
                        refine WO_pure tbok 2 [(4, pb2 b199), (16, .agg #[i2 p0_0, i2 p0_1, i2 p0_2, i2 p0_3, i2 p0_4, .slice a194 ((y_73).length) c195])] rfl ⟨rfl, rfl, trivial⟩ ?_
                        refine WO_storeB tbok 5 [i2 p0_0, i2 p0_1, i2 p0_2, i2 p0_3, i2 p0_4, .slice a194 ((y_73).length) c195] rfl rfl rfl rfl rfl rfl rfl ?_
                        let B78 : Ent := ⟨b199, 25, [i2 p0_0, i2 p0_1, i2 p0_2, i2 p0_3, i2 p0_4, .slice a194 ((y_73).length) c195]⟩
                        refine WO.cls (C' := St w0 m m [[B1], L147, [B75], L196, [B76], [B78]]) (fun _ h => h) ?_
                        refine WO_end ?_
                        refine WK_retI (RLc_cell tbok 5 rfl rfl rfl RLc_nil) (fun _ h => St.back (Ls := [[B1]]) (X := [L147, [B75], L196, [B76], [B78]]) h (Le.refl _) (Le.refl _)) ?_
                        refine WO.cls (C' := St w0 m m [[B1], L147, [B75], L196]) (fun _ h => St.take 4 h) ?_
                        refine WO_tree rfl ?_
                        refine WT_run ?_
                        refine WO_alloc tbok [i2 0, i2 0, i2 0, i2 0, i2 0, .slice none 0 0] rfl rfl St_closed rfl rfl rfl rfl (fun b200 => ?_)
                        let B79 : Ent := ⟨b200, 25, [i2 0, i2 0, i2 0, i2 0, i2 0, .slice none 0 0]⟩
                        refine WO.cls (C' := St w0 m m [[B1], L147, [B75], L196, [B79]]) (fun _ h => h) ?_
                        refine WO_tree rfl ?_
                        refine WT_fin ?_
                        refine WO_storeB tbok 4 [i2 p0_0, i2 p0_1, i2 p0_2, i2 p0_3, i2 p0_4, .slice a145 ((y_73).length) c146] rfl rfl rfl rfl rfl rfl rfl ?_
                        let B80 : Ent := ⟨b200, 25, [i2 p0_0, i2 p0_1, i2 p0_2, i2 p0_3, i2 p0_4, .slice a145 ((y_73).length) c146]⟩
                        refine WO.cls (C' := St w0 m m [[B1], L147, [B75], L196, [B80]]) (fun _ h => h) ?_
                        refine WO_storeB tbok 2 [i2 p0_0, i2 p0_1, i2 p0_2, i2 p0_3, i2 p0_4, .slice a194 ((y_73).length) c195] rfl rfl rfl rfl rfl rfl rfl ?_
                        let B81 : Ent := ⟨b193, 25, [i2 p0_0, i2 p0_1, i2 p0_2, i2 p0_3, i2 p0_4, .slice a194 ((y_73).length) c195]⟩
                        refine WO.cls (C' := St w0 m m [[B1], L147, [B81], L196, [B80]]) (fun _ h => h) ?_
                        refine WO_end ?_
                        refine WK.cls (fun _ h => h.perm (Ls' := [[B1], [B80], L147, [B81], L196]) (List.Perm.flatten (((List.Perm.cons _ (List.Perm.cons _ (List.Perm.cons _ (List.Perm.swap _ _ _)))).trans (List.Perm.cons _ (List.Perm.cons _ (List.Perm.swap _ _ _)))).trans (List.Perm.cons _ (List.Perm.swap _ _ _))))) ?_
                        cases hx15
                        refine WK.sub ?_ (hk16 ⟨a145, c146, L147, a194, c195, L196, b200, b193⟩ ⟨hL147, hL196⟩)
                        exact ⟨rfl, rfl, rfl, rfl, rfl, rfl, trivial⟩
                      · refine WT_alt rfl ?_ ?_
                        · refine WO_alloc tbok [i2 0, i2 0, i2 0, i2 0, i2 0, .slice none 0 0] rfl rfl St_closed rfl rfl rfl rfl (fun b201 => ?_)
                          let B82 : Ent := ⟨b201, 25, [i2 0, i2 0, i2 0, i2 0, i2 0, .slice none 0 0]⟩
                          refine WO.cls (C' := St w0 m m [[B1], L147, [B75], L196, [B82]]) (fun _ h => h) ?_
                          refine WO_tree rfl ?_
                          refine WT_run ?_
                          refine WO_inline rfl rfl rfl rfl rfl rfl callable_22 Try.func22 rfl rfl rfl ?_
                          refine WK.sub (e' := [(0, .agg #[i2 p0_0, i2 p0_1, i2 p0_2, i2 p0_3, i2 p0_4, .slice a_p0_5 p0_5.length c_p0_5]), (1, .slice a194 ((y_73).length) c195)]) ⟨rfl, rfl, trivial⟩ ?_
                          refine WK_seq ?_
                          refine WK_region ?_
                          refine WO_box [i2 p0_0, i2 p0_1, i2 p0_2, i2 p0_3, i2 p0_4, .slice a_p0_5 p0_5.length c_p0_5] rfl rfl trivial rfl rfl rfl (fun b202 => ?_)
                          let B83 : Ent := ⟨b202, 25, [i2 p0_0, i2 p0_1, i2 p0_2, i2 p0_3, i2 p0_4, .slice a_p0_5 p0_5.length c_p0_5]⟩
                          refine WO.cls (C' := St w0 m m [[B1], L147, [B75], L196, [B82], [B83]]) (fun _ h => h) ?_
                          refine WO_alloc tbok [i2 0, i2 0, i2 0, i2 0, i2 0, .slice none 0 0] rfl rfl trivial rfl rfl rfl rfl (fun b203 => ?_)
                          let B84 : Ent := ⟨b203, 25, [i2 0, i2 0, i2 0, i2 0, i2 0, .slice none 0 0]⟩
                          refine WO.cls (C' := St w0 m m [[B1], L147, [B75], L196, [B82], [B83], [B84]]) (fun _ h => h) ?_
                          refine WO_end ?_
                          refine WK_seq ?_
                          refine WK_region ?_
                          refine WO_pure tbok 1 [(1, .slice a194 ((y_73).length) c195), (2, pb2 b202), (4, pb2 b203), (5, pb2 b202)] rfl ⟨rfl, rfl, rfl, rfl, trivial⟩ ?_
                          refine WO_loadB tbok 5 rfl rfl rfl rfl (fun _ h => h) rfl rfl ?_
                          refine WO_pure tbok 1 [(1, .slice a194 ((y_73).length) c195), (2, pb2 b202), (4, pb2 b203), (6, i2 p0_0), (7, .pointer (some ⟨b202, 1, none⟩))] rfl ⟨rfl, rfl, rfl, rfl, rfl, trivial⟩ ?_
                          refine WO_loadB tbok 5 rfl rfl rfl rfl (fun _ h => h) rfl rfl ?_
                          refine WO_pure tbok 1 [(1, .slice a194 ((y_73).length) c195), (2, pb2 b202), (4, pb2 b203), (6, i2 p0_0), (8, i2 p0_1), (9, .pointer (some ⟨b202, 2, none⟩))] rfl ⟨rfl, rfl, rfl, rfl, rfl, rfl, trivial⟩ ?_
                          refine WO_loadB tbok 5 rfl rfl rfl rfl (fun _ h => h) rfl rfl ?_
                          refine WO_pure tbok 1 [(1, .slice a194 ((y_73).length) c195), (2, pb2 b202), (4, pb2 b203), (6, i2 p0_0), (8, i2 p0_1), (10, i2 p0_2), (11, .pointer (some ⟨b202, 3, none⟩))] rfl ⟨rfl, rfl, rfl, rfl, rfl, rfl, rfl, trivial⟩ ?_
                          refine WO_loadB tbok 5 rfl rfl rfl rfl (fun _ h => h) rfl rfl ?_
                          refine WO_pure tbok 1 [(1, .slice a194 ((y_73).length) c195), (4, pb2 b203), (6, i2 p0_0), (8, i2 p0_1), (10, i2 p0_2), (12, i2 p0_3), (13, .pointer (some ⟨b202, 4, none⟩))] rfl ⟨rfl, rfl, rfl, rfl, rfl, rfl, rfl, trivial⟩ ?_
                          refine WO_loadB tbok 5 rfl rfl rfl rfl (fun _ h => h) rfl rfl ?_
                          refine WO_pure tbok 2 [(4, pb2 b203), (16, .agg #[i2 p0_0, i2 p0_1, i2 p0_2, i2 p0_3, i2 p0_4, .slice a194 ((y_73).length) c195])] rfl ⟨rfl, rfl, trivial⟩ ?_
                          refine WO_storeB tbok 6 [i2 p0_0, i2 p0_1, i2 p0_2, i2 p0_3, i2 p0_4, .slice a194 ((y_73).length) c195] rfl rfl rfl rfl rfl rfl rfl ?_
                          let B85 : Ent := ⟨b203, 25, [i2 p0_0, i2 p0_1, i2 p0_2, i2 p0_3, i2 p0_4, .slice a194 ((y_73).length) c195]⟩
                          refine WO.cls (C' := St w0 m m [[B1], L147, [B75], L196, [B82], [B83], [B85]]) (fun _ h => h) ?_
                          refine WO_end ?_
                          refine WK_retI (RLc_cell tbok 6 rfl rfl rfl RLc_nil) (fun _ h => St.back (Ls := [[B1]]) (X := [L147, [B75], L196, [B82], [B83], [B85]]) h (Le.refl _) (Le.refl _)) ?_
                          refine WO.cls (C' := St w0 m m [[B1], L147, [B75], L196, [B82]]) (fun _ h => St.take 5 h) ?_
                          refine WO_tree rfl ?_
                          refine WT_fin ?_
                          refine WO_storeB tbok 4 [i2 p0_0, i2 p0_1, i2 p0_2, i2 p0_3, i2 p0_4, .slice a145 ((y_73).length) c146] rfl rfl rfl rfl rfl rfl rfl ?_
                          let B86 : Ent := ⟨b201, 25, [i2 p0_0, i2 p0_1, i2 p0_2, i2 p0_3, i2 p0_4, .slice a145 ((y_73).length) c146]⟩
                          refine WO.cls (C' := St w0 m m [[B1], L147, [B75], L196, [B86]]) (fun _ h => h) ?_
                          refine WO_storeB tbok 2 [i2 p0_0, i2 p0_1, i2 p0_2, i2 p0_3, i2 p0_4, .slice a194 ((y_73).length) c195] rfl rfl rfl rfl rfl rfl rfl ?_
                          let B87 : Ent := ⟨b193, 25, [i2 p0_0, i2 p0_1, i2 p0_2, i2 p0_3, i2 p0_4, .slice a194 ((y_73).length) c195]⟩
                          refine WO.cls (C' := St w0 m m [[B1], L147, [B87], L196, [B86]]) (fun _ h => h) ?_
                          refine WO_end ?_
                          refine WK.cls (fun _ h => h.perm (Ls' := [[B1], [B86], L147, [B87], L196]) (List.Perm.flatten (((List.Perm.cons _ (List.Perm.cons _ (List.Perm.cons _ (List.Perm.swap _ _ _)))).trans (List.Perm.cons _ (List.Perm.cons _ (List.Perm.swap _ _ _)))).trans (List.Perm.cons _ (List.Perm.swap _ _ _))))) ?_
                          cases hx15
                          refine WK.sub ?_ (hk16 ⟨a145, c146, L147, a194, c195, L196, b201, b193⟩ ⟨hL147, hL196⟩)
                          exact ⟨rfl, rfl, rfl, rfl, rfl, rfl, trivial⟩
                        · exact WT_none
                    · refine WT_alt rfl ?_ ?_
                      · refine WO_alloc tbok [i2 0, i2 0, i2 0, i2 0, i2 0, .slice none 0 0] rfl rfl St_closed rfl rfl rfl rfl (fun b204 => ?_)
                        let B88 : Ent := ⟨b204, 25, [i2 0, i2 0, i2 0, i2 0, i2 0, .slice none 0 0]⟩
                        refine WO.cls (C' := St w0 m m [[B1], L147, [B75], [B88]]) (fun _ h => h) ?_
                        refine WO_tree rfl ?_
                        refine WT_run ?_
                        refine WO_call1 (slices_Clone_sint_Q y_73) rfl rfl St_closed rfl rfl rfl rfl ⟨23, #[], #[], rfl, callable_23, fun w hw => ⟨_, hw.sat, slices_Clone_sint_walk h_p0_5 hc144⟩⟩ (fun v208 L207 hq => ?_)
                        obtain ⟨a205, qa205, c206, rfl, hL207⟩ := hq
                        obtain rfl := OwnE.qlen hL207
                        refine WO.cls (C' := St w0 m m [[B1], L147, [B75], [B88], L207]) (fun _ h => h) ?_
                        refine WO_inline rfl rfl rfl rfl rfl rfl callable_22 Try.func22 rfl rfl rfl ?_
                        refine WK.sub (e' := [(0, .agg #[i2 p0_0, i2 p0_1, i2 p0_2, i2 p0_3, i2 p0_4, .slice a_p0_5 p0_5.length c_p0_5]), (1, .slice a205 ((y_73).length) c206)]) ⟨rfl, rfl, trivial⟩ ?_
                        refine WK_seq ?_
                        refine WK_region ?_
                        refine WO_box [i2 p0_0, i2 p0_1, i2 p0_2, i2 p0_3, i2 p0_4, .slice a_p0_5 p0_5.length c_p0_5] rfl rfl trivial rfl rfl rfl (fun b209 => ?_)
                        let B89 : Ent := ⟨b209, 25, [i2 p0_0, i2 p0_1, i2 p0_2, i2 p0_3, i2 p0_4, .slice a_p0_5 p0_5.length c_p0_5]⟩
                        refine WO.cls (C' := St w0 m m [[B1], L147, [B75], [B88], L207, [B89]]) (fun _ h => h) ?_
                        refine WO_alloc tbok [i2 0, i2 0, i2 0, i2 0, i2 0, .slice none 0 0] rfl rfl trivial rfl rfl rfl rfl (fun b210 => ?_)
                        let B90 : Ent := ⟨b210, 25, [i2 0, i2 0, i2 0, i2 0, i2 0, .slice none 0 0]⟩
                        refine WO.cls (C' := St w0 m m [[B1], L147, [B75], [B88], L207, [B89], [B90]]) (fun _ h => h) ?_
                        refine WO_end ?_
                        refine WK_seq ?_
                        refine WK_region ?_
                        refine WO_pure tbok 1 [(1, .slice a205 ((y_73).length) c206), (2, pb2 b209), (4, pb2 b210), (5, pb2 b209)] rfl ⟨rfl, rfl, rfl, rfl, trivial⟩ ?_
                        refine WO_loadB tbok 5 rfl rfl rfl rfl (fun _ h => h) rfl rfl ?_
                        refine WO_pure tbok 1 [(1, .slice a205 ((y_73).length) c206), (2, pb2 b209), (4, pb2 b210), (6, i2 p0_0), (7, .pointer (some ⟨b209, 1, none⟩))] rfl ⟨rfl, rfl, rfl, rfl, rfl, trivial⟩ ?_
                        refine WO_loadB tbok 5 rfl rfl rfl rfl (fun _ h => h) rfl rfl ?_
                        refine WO_pure tbok 1 [(1, .slice a205 ((y_73).length) c206), (2, pb2 b209), (4, pb2 b210), (6, i2 p0_0), (8, i2 p0_1), (9, .pointer (some ⟨b209, 2, none⟩))] rfl ⟨rfl, rfl, rfl, rfl, rfl, rfl, trivial⟩ ?_
                        refine WO_loadB tbok 5 rfl rfl rfl rfl (fun _ h => h) rfl rfl ?_
                        refine WO_pure tbok 1 [(1, .slice a205 ((y_73).length) c206), (2, pb2 b209), (4, pb2 b210), (6, i2 p0_0), (8, i2 p0_1), (10, i2 p0_2), (11, .pointer (some ⟨b209, 3, none⟩))] rfl ⟨rfl, rfl, rfl, rfl, rfl, rfl, rfl, trivial⟩ ?_
                        refine WO_loadB tbok 5 rfl rfl rfl rfl (fun _ h => h) rfl rfl ?_
                        refine WO_pure tbok 1 [(1, .slice a205 ((y_73).length) c206), (4, pb2 b210), (6, i2 p0_0), (8, i2 p0_1), (10, i2 p0_2), (12, i2 p0_3), (13, .pointer (some ⟨b209, 4, none⟩))] rfl ⟨rfl, rfl, rfl, rfl, rfl, rfl, rfl, trivial⟩ ?_
                        refine WO_loadB tbok 5 rfl rfl rfl rfl (fun _ h => h) rfl rfl ?_
                        refine WO_pure tbok 2 [(4, pb2 b210), (16, .agg #[i2 p0_0, i2 p0_1, i2 p0_2, i2 p0_3, i2 p0_4, .slice a205 ((y_73).length) c206])] rfl ⟨rfl, rfl, trivial⟩ ?_
                        refine WO_storeB tbok 6 [i2 p0_0, i2 p0_1, i2 p0_2, i2 p0_3, i2 p0_4, .slice a205 ((y_73).length) c206] rfl rfl rfl rfl rfl rfl rfl ?_
                        let B91 : Ent := ⟨b210, 25, [i2 p0_0, i2 p0_1, i2 p0_2, i2 p0_3, i2 p0_4, .slice a205 ((y_73).length) c206]⟩
                        refine WO.cls (C' := St w0 m m [[B1], L147, [B75], [B88], L207, [B89], [B91]]) (fun _ h => h) ?_
                        refine WO_end ?_
                        refine WK_retI (RLc_cell tbok 6 rfl rfl rfl RLc_nil) (fun _ h => St.back (Ls := [[B1]]) (X := [L147, [B75], [B88], L207, [B89], [B91]]) h (Le.refl _) (Le.refl _)) ?_
                        refine WO.cls (C' := St w0 m m [[B1], L147, [B75], [B88], L207]) (fun _ h => St.take 5 h) ?_
                        refine WO_tree rfl ?_
                        refine WT_fin ?_
                        refine WO_storeB tbok 3 [i2 p0_0, i2 p0_1, i2 p0_2, i2 p0_3, i2 p0_4, .slice a145 ((y_73).length) c146] rfl rfl rfl rfl rfl rfl rfl ?_
                        let B92 : Ent := ⟨b204, 25, [i2 p0_0, i2 p0_1, i2 p0_2, i2 p0_3, i2 p0_4, .slice a145 ((y_73).length) c146]⟩
                        refine WO.cls (C' := St w0 m m [[B1], L147, [B75], [B92], L207]) (fun _ h => h) ?_
                        refine WO_storeB tbok 2 [i2 p0_0, i2 p0_1, i2 p0_2, i2 p0_3, i2 p0_4, .slice a205 ((y_73).length) c206] rfl rfl rfl rfl rfl rfl rfl ?_
                        let B93 : Ent := ⟨b193, 25, [i2 p0_0, i2 p0_1, i2 p0_2, i2 p0_3, i2 p0_4, .slice a205 ((y_73).length) c206]⟩
                        refine WO.cls (C' := St w0 m m [[B1], L147, [B93], [B92], L207]) (fun _ h => h) ?_
                        refine WO_end ?_
                        refine WK.cls (fun _ h => h.perm (Ls' := [[B1], [B92], L147, [B93], L207]) (List.Perm.flatten ((List.Perm.cons _ (List.Perm.cons _ (List.Perm.swap _ _ _))).trans (List.Perm.cons _ (List.Perm.swap _ _ _))))) ?_
                        cases hx15
                        refine WK.sub ?_ (hk16 ⟨a145, c146, L147, a205, c206, L207, b204, b193⟩ ⟨hL147, hL207⟩)
                        exact ⟨rfl, rfl, rfl, rfl, rfl, rfl, trivial⟩
                      · exact WT_none
                  · exact WT_none
            · refine WT_alt rfl ?_ ?_
              · refine WO_alloc tbok [i2 0, i2 0, i2 0, i2 0, i2 0, .slice none 0 0] rfl rfl St_closed rfl rfl rfl rfl (fun b211 => ?_)
                let B94 : Ent := ⟨b211, 25, [i2 0, i2 0, i2 0, i2 0, i2 0, .slice none 0 0]⟩
                refine WO.cls (C' := St w0 m m [[B1], L147, [B94]]) (fun _ h => h) ?_
                refine WO_tree rfl ?_
                refine WT_alt rfl ?_ ?_
                · refine WO_inline rfl rfl rfl rfl rfl rfl callable_22 Try.func22 rfl rfl rfl ?_
                  refine WK.sub (e' := [(0, .agg #[i2 p0_0, i2 p0_1, i2 p0_2, i2 p0_3, i2 p0_4, .slice a_p0_5 p0_5.length c_p0_5]), (1, .slice a145 ((y_73).length) c146)]) ⟨rfl, rfl, trivial⟩ ?_
                  refine WK_seq ?_
                  refine WK_region ?_
                  refine WO_box [i2 p0_0, i2 p0_1, i2 p0_2, i2 p0_3, i2 p0_4, .slice a_p0_5 p0_5.length c_p0_5] rfl rfl trivial rfl rfl rfl (fun b212 => ?_)
                  let B95 : Ent := ⟨b212, 25, [i2 p0_0, i2 p0_1, i2 p0_2, i2 p0_3, i2 p0_4, .slice a_p0_5 p0_5.length c_p0_5]⟩
                  refine WO.cls (C' := St w0 m m [[B1], L147, [B94], [B95]]) (fun _ h => h) ?_
                  refine WO_alloc tbok [i2 0, i2 0, i2 0, i2 0, i2 0, .slice none 0 0] rfl rfl trivial rfl rfl rfl rfl (fun b213 => ?_)
                  let B96 : Ent := ⟨b213, 25, [i2 0, i2 0, i2 0, i2 0, i2 0, .slice none 0 0]⟩
                  refine WO.cls (C' := St w0 m m [[B1], L147, [B94], [B95], [B96]]) (fun _ h => h) ?_
                  refine WO_end ?_
                  refine WK_seq ?_
                  refine WK_region ?_
                  refine WO_pure tbok 1 [(1, .slice a145 ((y_73).length) c146), (2, pb2 b212), (4, pb2 b213), (5, pb2 b212)] rfl ⟨rfl, rfl, rfl, rfl, trivial⟩ ?_
                  refine WO_loadB tbok 3 rfl rfl rfl rfl (fun _ h => h) rfl rfl ?_
                  refine WO_pure tbok 1 [(1, .slice a145 ((y_73).length) c146), (2, pb2 b212), (4, pb2 b213), (6, i2 p0_0), (7, .pointer (some ⟨b212, 1, none⟩))] rfl ⟨rfl, rfl, rfl, rfl, rfl, trivial⟩ ?_
                  refine WO_loadB tbok 3 rfl rfl rfl rfl (fun _ h => h) rfl rfl ?_
                  refine WO_pure tbok 1 [(1, .slice a145 ((y_73).length) c146), (2, pb2 b212), (4, pb2 b213), (6, i2 p0_0), (8, i2 p0_1), (9, .pointer (some ⟨b212, 2, none⟩))] rfl ⟨rfl, rfl, rfl, rfl, rfl, rfl, trivial⟩ ?_
                  refine WO_loadB tbok 3 rfl rfl rfl rfl (fun _ h => h) rfl rfl ?_
                  refine WO_pure tbok 1 [(1, .slice a145 ((y_73).length) c146), (2, pb2 b212), (4, pb2 b213), (6, i2 p0_0), (8, i2 p0_1), (10, i2 p0_2), (11, .pointer (some ⟨b212, 3, none⟩))] rfl ⟨rfl, rfl, rfl, rfl, rfl, rfl, rfl, trivial⟩ ?_
                  refine WO_loadB tbok 3 rfl rfl rfl rfl (fun _ h => h) rfl rfl ?_
                  refine WO_pure tbok 1 [(1, .slice a145 ((y_73).length) c146), (4, pb2 b213), (6, i2 p0_0), (8, i2 p0_1), (10, i2 p0_2), (12, i2 p0_3), (13, .pointer (some ⟨b212, 4, none⟩))] rfl ⟨rfl, rfl, rfl, rfl, rfl, rfl, rfl, trivial⟩ ?_
                  refine WO_loadB tbok 3 rfl rfl rfl rfl (fun _ h => h) rfl rfl ?_
                  refine WO_pure tbok 2 [(4, pb2 b213), (16, .agg #[i2 p0_0, i2 p0_1, i2 p0_2, i2 p0_3, i2 p0_4, .slice a145 ((y_73).length) c146])] rfl ⟨rfl, rfl, trivial⟩ ?_
                  refine WO_storeB tbok 4 [i2 p0_0, i2 p0_1, i2 p0_2, i2 p0_3, i2 p0_4, .slice a145 ((y_73).length) c146] rfl rfl rfl rfl rfl rfl rfl ?_
                  let B97 : Ent := ⟨b213, 25, [i2 p0_0, i2 p0_1, i2 p0_2, i2 p0_3, i2 p0_4, .slice a145 ((y_73).length) c146]⟩
                  refine WO.cls (C' := St w0 m m [[B1], L147, [B94], [B95], [B97]]) (fun _ h => h) ?_
                  refine WO_end ?_
                  refine WK_retI (RLc_cell tbok 4 rfl rfl rfl RLc_nil) (fun _ h => St.back (Ls := [[B1]]) (X := [L147, [B94], [B95], [B97]]) h (Le.refl _) (Le.refl _)) ?_
                  refine WO.cls (C' := St w0 m m [[B1], L147, [B94]]) (fun _ h => St.take 3 h) ?_
                  refine WO_tree rfl ?_
                  refine WT_alt rfl ?_ ?_
                  · refine WO_call1 (slices_Clone_sint_Q y_73) rfl rfl St_closed rfl rfl rfl rfl ⟨23, #[], #[], rfl, callable_23, fun w hw => ⟨_, hw.sat, slices_Clone_sint_walk h_p0_5 hc144⟩⟩ (fun v217 L216 hq => ?_)
                    obtain ⟨a214, qa214, c215, rfl, hL216⟩ := hq
                    obtain rfl := OwnE.qlen hL216
                    refine WO.cls (C' := St w0 m m [[B1], L147, [B94], L216]) (fun _ h => h) ?_
                    refine WO_tree rfl ?_
                    refine WT_alt rfl ?_ ?_
                    · refine WO_inline rfl rfl rfl rfl rfl rfl callable_22 Try.func22 rfl rfl rfl ?_
                      refine WK.sub (e' := [(0, .agg #[i2 p0_0, i2 p0_1, i2 p0_2, i2 p0_3, i2 p0_4, .slice a_p0_5 p0_5.length c_p0_5]), (1, .slice a214 ((y_73).length) c215)]) ⟨rfl, rfl, trivial⟩ ?_
                      refine WK_seq ?_
                      refine WK_region ?_
                      refine WO_box [i2 p0_0, i2 p0_1, i2 p0_2, i2 p0_3, i2 p0_4, .slice a_p0_5 p0_5.length c_p0_5] rfl rfl trivial rfl rfl rfl (fun b218 => ?_)
                      let B98 : Ent := ⟨b218, 25, [i2 p0_0, i2 p0_1, i2 p0_2, i2 p0_3, i2 p0_4, .slice a_p0_5 p0_5.length c_p0_5]⟩
                      refine WO.cls (C' := St w0 m m [[B1], L147, [B94], L216, [B98]]) (fun _ h => h) ?_
                      refine WO_alloc tbok [i2 0, i2 0, i2 0, i2 0, i2 0, .slice none 0 0] rfl rfl trivial rfl rfl rfl rfl (fun b219 => ?_)
                      let B99 : Ent := ⟨b219, 25, [i2 0, i2 0, i2 0, i2 0, i2 0, .slice none 0 0]⟩
                      refine WO.cls (C' := St w0 m m [[B1], L147, [B94], L216, [B98], [B99]]) (fun _ h => h) ?_
                      refine WO_end ?_
                      refine WK_seq ?_
                      refine WK_region ?_
                      refine WO_pure tbok 1 [(1, .slice a214 ((y_73).length) c215), (2, pb2 b218), (4, pb2 b219), (5, pb2 b218)] rfl ⟨rfl, rfl, rfl, rfl, trivial⟩ ?_
                      refine WO_loadB tbok 4 rfl rfl rfl rfl (fun _ h => h) rfl rfl ?_
                      refine WO_pure tbok 1 [(1, .slice a214 ((y_73).length) c215), (2, pb2 b218), (4, pb2 b219), (6, i2 p0_0), (7, .pointer (some ⟨b218, 1, none⟩))] rfl ⟨rfl, rfl, rfl, rfl, rfl, trivial⟩ ?_
                      refine WO_loadB tbok 4 rfl rfl rfl rfl (fun _ h => h) rfl rfl ?_
                      refine WO_pure tbok 1 [(1, .slice a214 ((y_73).length) c215), (2, pb2 b218), (4, pb2 b219), (6, i2 p0_0), (8, i2 p0_1), (9, .pointer (some ⟨b218, 2, none⟩))] rfl ⟨rfl, rfl, rfl, rfl, rfl, rfl, trivial⟩ ?_
                      refine WO_loadB tbok 4 rfl rfl rfl rfl (fun _ h => h) rfl rfl ?_
                      refine WO_pure tbok 1 [(1, .slice a214 ((y_73).length) c215), (2, pb2 b218), (4, pb2 b219), (6, i2 p0_0), (8, i2 p0_1), (10, i2 p0_2), (11, .pointer (some ⟨b218, 3, none⟩))] rfl ⟨rfl, rfl, rfl, rfl, rfl, rfl, rfl, trivial⟩ ?_
                      refine WO_loadB tbok 4 rfl rfl rfl rfl (fun _ h => h) rfl rfl ?_
                      refine WO_pure tbok 1 [(1, .slice a214 ((y_73).length) c215), (4, pb2 b219), (6, i2 p0_0), (8, i2 p0_1), (10, i2 p0_2), (12, i2 p0_3), (13, .pointer (some ⟨b218, 4, none⟩))] rfl ⟨rfl, rfl, rfl, rfl, rfl, rfl, rfl, trivial⟩ ?_
                      refine WO_loadB tbok 4 rfl rfl rfl rfl (fun _ h => h) rfl rfl ?_
                      refine WO_pure tbok 2 [(4, pb2 b219), (16, .agg #[i2 p0_0, i2 p0_1, i2 p0_2, i2 p0_3, i2 p0_4, .slice a214 ((y_73).length) c215])] rfl ⟨rfl, rfl, trivial⟩ ?_
                      refine WO_storeB tbok 5 [i2 p0_0, i2 p0_1, i2 p0_2, i2 p0_3, i2 p0_4, .slice a214 ((y_73).length) c215] rfl rfl rfl rfl rfl rfl rfl ?_
                      let B100 : Ent := ⟨b219, 25, [i2 p0_0, i2 p0_1, i2 p0_2, i2 p0_3, i2 p0_4, .slice a214 ((y_73).length) c215]⟩
                      refine WO.cls (C' := St w0 m m [[B1], L147, [B94], L216, [B98], [B100]]) (fun _ h => h) ?_
                      refine WO_end ?_
                      refine WK_retI (RLc_cell tbok 5 rfl rfl rfl RLc_nil) (fun _ h => St.back (Ls := [[B1]]) (X := [L147, [B94], L216, [B98], [B100]]) h (Le.refl _) (Le.refl _)) ?_
                      refine WO.cls (C' := St w0 m m [[B1], L147, [B94], L216]) (fun _ h => St.take 4 h) ?_
                      refine WO_tree rfl ?_
                      refine WT_run ?_
                      refine WO_alloc tbok [i2 0, i2 0, i2 0, i2 0, i2 0, .slice none 0 0] rfl rfl St_closed rfl rfl rfl rfl (fun b220 => ?_)
                      let B101 : Ent := ⟨b220, 25, [i2 0, i2 0, i2 0, i2 0, i2 0, .slice none 0 0]⟩
                      refine WO.cls (C' := St w0 m m [[B1], L147, [B94], L216, [B101]]) (fun _ h => h) ?_
                      refine WO_tree rfl ?_
                      refine WT_fin ?_
                      refine WO_storeB tbok 2 [i2 p0_0, i2 p0_1, i2 p0_2, i2 p0_3, i2 p0_4, .slice a145 ((y_73).length) c146] rfl rfl rfl rfl rfl rfl rfl ?_
                      let B102 : Ent := ⟨b211, 25, [i2 p0_0, i2 p0_1, i2 p0_2, i2 p0_3, i2 p0_4, .slice a145 ((y_73).length) c146]⟩
                      refine WO.cls (C' := St w0 m m [[B1], L147, [B102], L216, [B101]]) (fun _ h => h) ?_
                      refine WO_storeB tbok 4 [i2 p0_0, i2 p0_1, i2 p0_2, i2 p0_3, i2 p0_4, .slice a214 ((y_73).length) c215] rfl rfl rfl rfl rfl rfl rfl ?_
                      let B103 : Ent := ⟨b220, 25, [i2 p0_0, i2 p0_1, i2 p0_2, i2 p0_3, i2 p0_4, .slice a214 ((y_73).length) c215]⟩
                      refine WO.cls (C' := St w0 m m [[B1], L147, [B102], L216, [B103]]) (fun _ h => h) ?_
                      refine WO_end ?_
                      refine WK.cls (fun _ h => h.perm (Ls' := [[B1], [B102], L147, [B103], L216]) (List.Perm.flatten ((List.Perm.cons _ (List.Perm.swap _ _ _)).trans (List.Perm.cons _ (List.Perm.cons _ (List.Perm.cons _ (List.Perm.swap _ _ _))))))) ?_
                      cases hx15
                      refine WK.sub ?_ (hk16 ⟨a145, c146, L147, a214, c215, L216, b211, b220⟩ ⟨hL147, hL216⟩)
                      exact ⟨rfl, rfl, rfl, rfl, rfl, rfl, trivial⟩
                    · refine WT_alt rfl ?_ ?_
                      · refine WO_alloc tbok [i2 0, i2 0, i2 0, i2 0, i2 0, .slice none 0 0] rfl rfl St_closed rfl rfl rfl rfl (fun b221 => ?_)
                        let B104 : Ent := ⟨b221, 25, [i2 0, i2 0, i2 0, i2 0, i2 0, .slice none 0 0]⟩
                        refine WO.cls (C' := St w0 m m [[B1], L147, [B94], L216, [B104]]) (fun _ h => h) ?_
                        refine WO_tree rfl ?_
                        refine WT_run ?_
                        refine WO_inline rfl rfl rfl rfl rfl rfl callable_22 Try.func22 rfl rfl rfl ?_
                        refine WK.sub (e' := [(0, .agg #[i2 p0_0, i2 p0_1, i2 p0_2, i2 p0_3, i2 p0_4, .slice a_p0_5 p0_5.length c_p0_5]), (1, .slice a214 ((y_73).length) c215)]) ⟨rfl, rfl, trivial⟩ ?_
                        refine WK_seq ?_
                        refine WK_region ?_
                        refine WO_box [i2 p0_0, i2 p0_1, i2 p0_2, i2 p0_3, i2 p0_4, .slice a_p0_5 p0_5.length c_p0_5] rfl rfl trivial rfl rfl rfl (fun b222 => ?_)
                        let B105 : Ent := ⟨b222, 25, [i2 p0_0, i2 p0_1, i2 p0_2, i2 p0_3, i2 p0_4, .slice a_p0_5 p0_5.length c_p0_5]⟩
                        refine WO.cls (C' := St w0 m m [[B1], L147, [B94], L216, [B104], [B105]]) (fun _ h => h) ?_
                        refine WO_alloc tbok [i2 0, i2 0, i2 0, i2 0, i2 0, .slice none 0 0] rfl rfl trivial rfl rfl rfl rfl (fun b223 => ?_)
                        let B106 : Ent := ⟨b223, 25, [i2 0, i2 0, i2 0, i2 0, i2 0, .slice none 0 0]⟩
                        refine WO.cls (C' := St w0 m m [[B1], L147, [B94], L216, [B104], [B105], [B106]]) (fun _ h => h) ?_
                        refine WO_end ?_
                        refine WK_seq ?_
                        refine WK_region ?_
                        refine WO_pure tbok 1 [(1, .slice a214 ((y_73).length) c215), (2, pb2 b222), (4, pb2 b223), (5, pb2 b222)] rfl ⟨rfl, rfl, rfl, rfl, trivial⟩ ?_
                        refine WO_loadB tbok 5 rfl rfl rfl rfl (fun _ h => h) rfl rfl ?_
                        refine WO_pure tbok 1 [(1, .slice a214 ((y_73).length) c215), (2, pb2 b222), (4, pb2 b223), (6, i2 p0_0), (7, .pointer (some ⟨b222, 1, none⟩))] rfl ⟨rfl, rfl, rfl, rfl, rfl, trivial⟩ ?_
                        refine WO_loadB tbok 5 rfl rfl rfl rfl (fun _ h => h) rfl rfl ?_
                        refine WO_pure tbok 1 [(1, .slice a214 ((y_73).length) c215), (2, pb2 b222), (4, pb2 b223), (6, i2 p0_0), (8, i2 p0_1), (9, .pointer (some ⟨b222, 2, none⟩))] rfl ⟨rfl, rfl, rfl, rfl, rfl, rfl, trivial⟩ ?_
                        refine WO_loadB tbok 5 rfl rfl rfl rfl (fun _ h => h) rfl rfl ?_
                        refine WO_pure tbok 1 [(1, .slice a214 ((y_73).length) c215), (2, pb2 b222), (4, pb2 b223), (6, i2 p0_0), (8, i2 p0_1), (10, i2 p0_2), (11, .pointer (some ⟨b222, 3, none⟩))] rfl ⟨rfl, rfl, rfl, rfl, rfl, rfl, rfl, trivial⟩ ?_
                        refine WO_loadB tbok 5 rfl rfl rfl rfl (fun _ h => h) rfl rfl ?_
                        refine WO_pure tbok 1 [(1, .slice a214 ((y_73).length) c215), (4, pb2 b223), (6, i2 p0_0), (8, i2 p0_1), (10, i2 p0_2), (12, i2 p0_3), (13, .pointer (some ⟨b222, 4, none⟩))] rfl ⟨rfl, rfl, rfl, rfl, rfl, rfl, rfl, trivial⟩ ?_
                        refine WO_loadB tbok 5 rfl rfl rfl rfl (fun _ h => h) rfl rfl ?_
                        refine WO_pure tbok 2 [(4, pb2 b223), (16, .agg #[i2 p0_0, i2 p0_1, i2 p0_2, i2 p0_3, i2 p0_4, .slice a214 ((y_73).length) c215])] rfl ⟨rfl, rfl, trivial⟩ ?_
                        refine WO_storeB tbok 6 [i2 p0_0, i2 p0_1, i2 p0_2, i2 p0_3, i2 p0_4, .slice a214 ((y_73).length) c215] rfl rfl rfl rfl rfl rfl rfl ?_
                        let B107 : Ent := ⟨b223, 25, [i2 p0_0, i2 p0_1, i2 p0_2, i2 p0_3, i2 p0_4, .slice a214 ((y_73).length) c215]⟩
                        refine WO.cls (C' := St w0 m m [[B1], L147, [B94], L216, [B104], [B105], [B107]]) (fun _ h => h) ?_
                        refine WO_end ?_
                        refine WK_retI (RLc_cell tbok 6 rfl rfl rfl RLc_nil) (fun _ h => St.back (Ls := [[B1]]) (X := [L147, [B94], L216, [B104], [B105], [B107]]) h (Le.refl _) (Le.refl _)) ?_
                        refine WO.cls (C' := St w0 m m [[B1], L147, [B94], L216, [B104]]) (fun _ h => St.take 5 h) ?_
                        refine WO_tree rfl ?_
                        refine WT_fin ?_
                        refine WO_storeB tbok 2 [i2 p0_0, i2 p0_1, i2 p0_2, i2 p0_3, i2 p0_4, .slice a145 ((y_73).length) c146] rfl rfl rfl rfl rfl rfl rfl ?_
                        let B108 : Ent := ⟨b211, 25, [i2 p0_0, i2 p0_1, i2 p0_2, i2 p0_3, i2 p0_4, .slice a145 ((y_73).length) c146]⟩
                        refine WO.cls (C' := St w0 m m [[B1], L147, [B108], L216, [B104]]) (fun _ h => h) ?_
                        refine WO_storeB tbok 4 [i2 p0_0, i2 p0_1, i2 p0_2, i2 p0_3, i2 p0_4, .slice a214 ((y_73).length) c215] rfl rfl rfl rfl rfl rfl rfl ?_
                        let B109 : Ent := ⟨b221, 25, [i2 p0_0, i2 p0_1, i2 p0_2, i2 p0_3, i2 p0_4, .slice a214 ((y_73).length) c215]⟩
                        refine WO.cls (C' := St w0 m m [[B1], L147, [B108], L216, [B109]]) (fun _ h => h) ?_
                        refine WO_end ?_
                        refine WK.cls (fun _ h => h.perm (Ls' := [[B1], [B108], L147, [B109], L216]) (List.Perm.flatten ((List.Perm.cons _ (List.Perm.swap _ _ _)).trans (List.Perm.cons _ (List.Perm.cons _ (List.Perm.cons _ (List.Perm.swap _ _ _))))))) ?_
                        cases hx15
                        refine WK.sub ?_ (hk16 ⟨a145, c146, L147, a214, c215, L216, b211, b221⟩ ⟨hL147, hL216⟩)
                        exact ⟨rfl, rfl, rfl, rfl, rfl, rfl, trivial⟩
                      · exact WT_none
                  · refine WT_alt rfl ?_ ?_
                    · refine WO_alloc tbok [i2 0, i2 0, i2 0, i2 0, i2 0, .slice none 0 0] rfl rfl St_closed rfl rfl rfl rfl (fun b224 => ?_)
                      let B110 : Ent := ⟨b224, 25, [i2 0, i2 0, i2 0, i2 0, i2 0, .slice none 0 0]⟩
                      refine WO.cls (C' := St w0 m m [[B1], L147, [B94], [B110]]) (fun _ h => h) ?_
                      refine WO_tree rfl ?_
                      refine WT_run ?_
                      refine WO_call1 (slices_Clone_sint_Q y_73) rfl rfl St_closed rfl rfl rfl rfl ⟨23, #[], #[], rfl, callable_23, fun w hw => ⟨_, hw.sat, slices_Clone_sint_walk h_p0_5 hc144⟩⟩ (fun v228 L227 hq => ?_)
                      obtain ⟨a225, qa225, c226, rfl, hL227⟩ := hq
                      obtain rfl := OwnE.qlen hL227
                      refine WO.cls (C' := St w0 m m [[B1], L147, [B94], [B110], L227]) (fun _ h => h) ?_
                      refine WO_inline rfl rfl rfl rfl rfl rfl callable_22 Try.func22 rfl rfl rfl ?_
                      refine WK.sub (e' := [(0, .agg #[i2 p0_0, i2 p0_1, i2 p0_2, i2 p0_3, i2 p0_4, .slice a_p0_5 p0_5.length c_p0_5]), (1, .slice a225 ((y_73).length) c226)]) ⟨rfl, rfl, trivial⟩ ?_
                      refine WK_seq ?_
                      refine WK_region ?_
                      refine WO_box [i2 p0_0, i2 p0_1, i2 p0_2, i2 p0_3, i2 p0_4, .slice a_p0_5 p0_5.length c_p0_5] rfl rfl trivial rfl rfl rfl (fun b229 => ?_)
                      let B111 : Ent := ⟨b229, 25, [i2 p0_0, i2 p0_1, i2 p0_2, i2 p0_3, i2 p0_4, .slice a_p0_5 p0_5.length c_p0_5]⟩
                      refine WO.cls (C' := St w0 m m [[B1], L147, [B94], [B110], L227, [B111]]) (fun _ h => h) ?_
                      refine WO_alloc tbok [i2 0, i2 0, i2 0, i2 0, i2 0, .slice none 0 0] rfl rfl trivial rfl rfl rfl rfl (fun b230 => ?_)
                      let B112 : Ent := ⟨b230, 25, [i2 0, i2 0, i2 0, i2 0, i2 0, .slice none 0 0]⟩
                      refine WO.cls (C' := St w0 m m [[B1], L147, [B94], [B110], L227, [B111], [B112]]) (fun _ h => h) ?_
                      refine WO_end ?_
                      refine WK_seq ?_
                      refine WK_region ?_
                      refine WO_pure tbok 1 [(1, .slice a225 ((y_73).length) c226), (2, pb2 b229), (4, pb2 b230), (5, pb2 b229)] rfl ⟨rfl, rfl, rfl, rfl, trivial⟩ ?_
                      refine WO_loadB tbok 5 rfl rfl rfl rfl (fun _ h => h) rfl rfl ?_
                      refine WO_pure tbok 1 [(1, .slice a225 ((y_73).length) c226), (2, pb2 b229), (4, pb2 b230), (6, i2 p0_0), (7, .pointer (some ⟨b229, 1, none⟩))] rfl ⟨rfl, rfl, rfl, rfl, rfl, trivial⟩ ?_
                      refine WO_loadB tbok 5 rfl rfl rfl rfl (fun _ h => h) rfl rfl ?_
                      refine WO_pure tbok 1 [(1, .slice a225 ((y_73).length) c226), (2, pb2 b229), (4, pb2 b230), (6, i2 p0_0), (8, i2 p0_1), (9, .pointer (some ⟨b229, 2, none⟩))] rfl ⟨rfl, rfl, rfl, rfl, rfl, rfl, trivial⟩ ?_
                      refine WO_loadB tbok 5 rfl rfl rfl rfl (fun _ h => h) rfl rfl ?_
                      refine WO_pure tbok 1 [(1, .slice a225 ((y_73).length) c226), (2, pb2 b229), (4, pb2 b230), (6, i2 p0_0), (8, i2 p0_1), (10, i2 p0_2), (11, .pointer (some ⟨b229, 3, none⟩))] rfl ⟨rfl, rfl, rfl, rfl, rfl, rfl, rfl, trivial⟩ ?_
                      refine WO_loadB tbok 5 rfl rfl rfl rfl (fun _ h => h) rfl rfl ?_
                      refine WO_pure tbok 1 [(1, .slice a225 ((y_73).length) c226), (4, pb2 b230), (6, i2 p0_0), (8, i2 p0_1), (10, i2 p0_2), (12, i2 p0_3), (13, .pointer (some ⟨b229, 4, none⟩))] rfl ⟨rfl, rfl, rfl, rfl, rfl, rfl, rfl, trivial⟩ ?_
                      refine WO_loadB tbok 5 rfl rfl rfl rfl (fun _ h => h) rfl rfl ?_
                      refine WO_pure tbok 2 [(4, pb2 b230), (16, .agg #[i2 p0_0, i2 p0_1, i2 p0_2, i2 p0_3, i2 p0_4, .slice a225 ((y_73).length) c226])] rfl ⟨rfl, rfl, trivial⟩ ?_
                      refine WO_storeB tbok 6 [i2 p0_0, i2 p0_1, i2 p0_2, i2 p0_3, i2 p0_4, .slice a225 ((y_73).length) c226] rfl rfl rfl rfl rfl rfl rfl ?_
                      let B113 : Ent := ⟨b230, 25, [i2 p0_0, i2 p0_1, i2 p0_2, i2 p0_3, i2 p0_4, .slice a225 ((y_73).length) c226]⟩
                      refine WO.cls (C' := St w0 m m [[B1], L147, [B94], [B110], L227, [B111], [B113]]) (fun _ h => h) ?_
                      refine WO_end ?_
                      refine WK_retI (RLc_cell tbok 6 rfl rfl rfl RLc_nil) (fun _ h => St.back (Ls := [[B1]]) (X := [L147, [B94], [B110], L227, [B111], [B113]]) h (Le.refl _) (Le.refl _)) ?_
                      refine WO.cls (C' := St w0 m m [[B1], L147, [B94], [B110], L227]) (fun _ h => St.take 5 h) ?_
                      refine WO_tree rfl ?_
                      refine WT_fin ?_
                      refine WO_storeB tbok 2 [i2 p0_0, i2 p0_1, i2 p0_2, i2 p0_3, i2 p0_4, .slice a145 ((y_73).length) c146] rfl rfl rfl rfl rfl rfl rfl ?_
                      let B114 : Ent := ⟨b211, 25, [i2 p0_0, i2 p0_1, i2 p0_2, i2 p0_3, i2 p0_4, .slice a145 ((y_73).length) c146]⟩
                      refine WO.cls (C' := St w0 m m [[B1], L147, [B114], [B110], L227]) (fun _ h => h) ?_
                      refine WO_storeB tbok 3 [i2 p0_0, i2 p0_1, i2 p0_2, i2 p0_3, i2 p0_4, .slice a225 ((y_73).length) c226] rfl rfl rfl rfl rfl rfl rfl ?_
                      let B115 : Ent := ⟨b224, 25, [i2 p0_0, i2 p0_1, i2 p0_2, i2 p0_3, i2 p0_4, .slice a225 ((y_73).length) c226]⟩
                      refine WO.cls (C' := St w0 m m [[B1], L147, [B114], [B115], L227]) (fun _ h => h) ?_
                      refine WO_end ?_
                      refine WK.cls (fun _ h => h.perm (Ls' := [[B1], [B114], L147, [B115], L227]) (List.Perm.flatten (List.Perm.cons _ (List.Perm.swap _ _ _)))) ?_
                      cases hx15
                      refine WK.sub ?_ (hk16 ⟨a145, c146, L147, a225, c226, L227, b211, b224⟩ ⟨hL147, hL227⟩)
                      exact ⟨rfl, rfl, rfl, rfl, rfl, rfl, trivial⟩
                    · exact WT_none
                · refine WT_alt rfl ?_ ?_
                  · refine WO_alloc tbok [i2 0, i2 0, i2 0, i2 0, i2 0, .slice none 0 0] rfl rfl St_closed rfl rfl rfl rfl (fun b231 => ?_)
                    let B116 : Ent := ⟨b231, 25, [i2 0, i2 0, i2 0, i2 0, i2 0, .slice none 0 0]⟩
                    refine WO.cls (C' := St w0 m m [[B1], L147, [B94], [B116]]) (fun _ h => h) ?_
                    refine WO_tree rfl ?_
                    refine WT_run ?_
                    refine WO_inline rfl rfl rfl rfl rfl rfl callable_22 Try.func22 rfl rfl rfl ?_
                    refine WK.sub (e' := [(0, .agg #[i2 p0_0, i2 p0_1, i2 p0_2, i2 p0_3, i2 p0_4, .slice a_p0_5 p0_5.length c_p0_5]), (1, .slice a145 ((y_73).length) c146)]) ⟨rfl, rfl, trivial⟩ ?_
                    refine WK_seq ?_
                    refine WK_region ?_
                    refine WO_box [i2 p0_0, i2 p0_1, i2 p0_2, i2 p0_3, i2 p0_4, .slice a_p0_5 p0_5.length c_p0_5] rfl rfl trivial rfl rfl rfl (fun b232 => ?_)
                    let B117 : Ent := ⟨b232, 25, [i2 p0_0, i2 p0_1, i2 p0_2, i2 p0_3, i2 p0_4, .slice a_p0_5 p0_5.length c_p0_5]⟩
                    refine WO.cls (C' := St w0 m m [[B1], L147, [B94], [B116], [B117]]) (fun _ h => h) ?_
                    refine WO_alloc tbok [i2 0, i2 0, i2 0, i2 0, i2 0, .slice none 0 0] rfl rfl trivial rfl rfl rfl rfl (fun b233 => ?_)
                    let B118 : Ent := ⟨b233, 25, [i2 0, i2 0, i2 0, i2 0, i2 0, .slice none 0 0]⟩
                    refine WO.cls (C' := St w0 m m [[B1], L147, [B94], [B116], [B117], [B118]]) (fun _ h => h) ?_
                    refine WO_end ?_
                    refine WK_seq ?_
                    refine WK_region ?_
                    refine WO_pure tbok 1 [(1, .slice a145 ((y_73).length) c146), (2, pb2 b232), (4, pb2 b233), (5, pb2 b232)] rfl ⟨rfl, rfl, rfl, rfl, trivial⟩ ?_
                    refine WO_loadB tbok 4 rfl rfl rfl rfl (fun _ h => h) rfl rfl ?_
                    refine WO_pure tbok 1 [(1, .slice a145 ((y_73).length) c146), (2, pb2 b232), (4, pb2 b233), (6, i2 p0_0), (7, .pointer (some ⟨b232, 1, none⟩))] rfl ⟨rfl, rfl, rfl, rfl, rfl, trivial⟩ ?_
                    refine WO_loadB tbok 4 rfl rfl rfl rfl (fun _ h => h) rfl rfl ?_
                    refine WO_pure tbok 1 [(1, .slice a145 ((y_73).length) c146), (2, pb2 b232), (4, pb2 b233), (6, i2 p0_0), (8, i2 p0_1), (9, .pointer (some ⟨b232, 2, none⟩))] rfl ⟨rfl, rfl, rfl, rfl, rfl, rfl, trivial⟩ ?_
                    refine WO_loadB tbok 4 rfl rfl rfl rfl (fun _ h => h) rfl rfl ?_
                    refine WO_pure tbok 1 [(1, .slice a145 ((y_73).length) c146), (2, pb2 b232), (4, pb2 b233), (6, i2 p0_0), (8, i2 p0_1), (10, i2 p0_2), (11, .pointer (some ⟨b232, 3, none⟩))] rfl ⟨rfl, rfl, rfl, rfl, rfl, rfl, rfl, trivial⟩ ?_
                    refine WO_loadB tbok 4 rfl rfl rfl rfl (fun _ h => h) rfl rfl ?_
                    refine WO_pure tbok 1 [(1, .slice a145 ((y_73).length) c146), (4, pb2 b233), (6, i2 p0_0), (8, i2 p0_1), (10, i2 p0_2), (12, i2 p0_3), (13, .pointer (some ⟨b232, 4, none⟩))] rfl ⟨rfl, rfl, rfl, rfl, rfl, rfl, rfl, trivial⟩ ?_
                    refine WO_loadB tbok 4 rfl rfl rfl rfl (fun _ h => h) rfl rfl ?_
                    refine WO_pure tbok 2 [(4, pb2 b233), (16, .agg #[i2 p0_0, i2 p0_1, i2 p0_2, i2 p0_3, i2 p0_4, .slice a145 ((y_73).length) c146])] rfl ⟨rfl, rfl, trivial⟩ ?_
                    refine WO_storeB tbok 5 [i2 p0_0, i2 p0_1, i2 p0_2, i2 p0_3, i2 p0_4, .slice a145 ((y_73).length) c146] rfl rfl rfl rfl rfl rfl rfl ?_
                    let B119 : Ent := ⟨b233, 25, [i2 p0_0, i2 p0_1, i2 p0_2, i2 p0_3, i2 p0_4, .slice a145 ((y_73).length) c146]⟩
                    refine WO.cls (C' := St w0 m m [[B1], L147, [B94], [B116], [B117], [B119]]) (fun _ h => h) ?_
                    refine WO_end ?_
                    refine WK_retI (RLc_cell tbok 5 rfl rfl rfl RLc_nil) (fun _ h => St.back (Ls := [[B1]]) (X := [L147, [B94], [B116], [B117], [B119]]) h (Le.refl _) (Le.refl _)) ?_
                    refine WO.cls (C' := St w0 m m [[B1], L147, [B94], [B116]]) (fun _ h => St.take 4 h) ?_
                    refine WO_call1 (slices_Clone_sint_Q y_73) rfl rfl St_closed rfl rfl rfl rfl ⟨23, #[], #[], rfl, callable_23, fun w hw => ⟨_, hw.sat, slices_Clone_sint_walk h_p0_5 hc144⟩⟩ (fun v237 L236 hq => ?_)
                    obtain ⟨a234, qa234, c235, rfl, hL236⟩ := hq
                    obtain rfl := OwnE.qlen hL236
                    refine WO.cls (C' := St w0 m m [[B1], L147, [B94], [B116], L236]) (fun _ h => h) ?_
                    refine WO_inline rfl rfl rfl rfl rfl rfl callable_22 Try.func22 rfl rfl rfl ?_
                    refine WK.sub (e' := [(0, .agg #[i2 p0_0, i2 p0_1, i2 p0_2, i2 p0_3, i2 p0_4, .slice a_p0_5 p0_5.length c_p0_5]), (1, .slice a234 ((y_73).length) c235)]) ⟨rfl, rfl, trivial⟩ ?_
                    refine WK_seq ?_
                    refine WK_region ?_
                    refine WO_box [i2 p0_0, i2 p0_1, i2 p0_2, i2 p0_3, i2 p0_4, .slice a_p0_5 p0_5.length c_p0_5] rfl rfl trivial rfl rfl rfl (fun b238 => ?_)
                    let B120 : Ent := ⟨b238, 25, [i2 p0_0, i2 p0_1, i2 p0_2, i2 p0_3, i2 p0_4, .slice a_p0_5 p0_5.length c_p0_5]⟩
                    refine WO.cls (C' := St w0 m m [[B1], L147, [B94], [B116], L236, [B120]]) (fun _ h => h) ?_
                    refine WO_alloc tbok [i2 0, i2 0, i2 0, i2 0, i2 0, .slice none 0 0] rfl rfl trivial rfl rfl rfl rfl (fun b239 => ?_)
                    let B121 : Ent := ⟨b239, 25, [i2 0, i2 0, i2 0, i2 0, i2 0, .slice none 0 0]⟩
                    refine WO.cls (C' := St w0 m m [[B1], L147, [B94], [B116], L236, [B120], [B121]]) (fun _ h => h) ?_
                    refine WO_end ?_
                    refine WK_seq ?_
                    refine WK_region ?_
                    refine WO_pure tbok 1 [(1, .slice a234 ((y_73).length) c235), (2, pb2 b238), (4, pb2 b239), (5, pb2 b238)] rfl ⟨rfl, rfl, rfl, rfl, trivial⟩ ?_
                    refine WO_loadB tbok 5 rfl rfl rfl rfl (fun _ h => h) rfl rfl ?_
                    refine WO_pure tbok 1 [(1, .slice a234 ((y_73).length) c235), (2, pb2 b238), (4, pb2 b239), (6, i2 p0_0), (7, .pointer (some ⟨b238, 1, none⟩))] rfl ⟨rfl, rfl, rfl, rfl, rfl, trivial⟩ ?_
                    refine WO_loadB tbok 5 rfl rfl rfl rfl (fun _ h => h) rfl rfl ?_
                    refine WO_pure tbok 1 [(1, .slice a234 ((y_73).length) c235), (2, pb2 b238), (4, pb2 b239), (6, i2 p0_0), (8, i2 p0_1), (9, .pointer (some ⟨b238, 2, none⟩))] rfl ⟨rfl, rfl, rfl, rfl, rfl, rfl, trivial⟩ ?_
                    refine WO_loadB tbok 5 rfl rfl rfl rfl (fun _ h => h) rfl rfl ?_
                    refine WO_pure tbok 1 [(1, .slice a234 ((y_73).length) c235), (2, pb2 b238), (4, pb2 b239), (6, i2 p0_0), (8, i2 p0_1), (10, i2 p0_2), (11, .pointer (some ⟨b238, 3, none⟩))] rfl ⟨rfl, rfl, rfl, rfl, rfl, rfl, rfl, trivial⟩ ?_
                    refine WO_loadB tbok 5 rfl rfl rfl rfl (fun _ h => h) rfl rfl ?_
                    refine WO_pure tbok 1 [(1, .slice a234 ((y_73).length) c235), (4, pb2 b239), (6, i2 p0_0), (8, i2 p0_1), (10, i2 p0_2), (12, i2 p0_3), (13, .pointer (some ⟨b238, 4, none⟩))] rfl ⟨rfl, rfl, rfl, rfl, rfl, rfl, rfl, trivial⟩ ?_
                    refine WO_loadB tbok 5 rfl rfl rfl rfl (fun _ h => h) rfl rfl ?_
                    refine WO_pure tbok 2 [(4, pb2 b239), (16, .agg #[i2 p0_0, i2 p0_1, i2 p0_2, i2 p0_3, i2 p0_4, .slice a234 ((y_73).length) c235])] rfl ⟨rfl, rfl, trivial⟩ ?_
                    refine WO_storeB tbok 6 [i2 p0_0, i2 p0_1, i2 p0_2, i2 p0_3, i2 p0_4, .slice a234 ((y_73).length) c235] rfl rfl rfl rfl rfl rfl rfl ?_
                    let B122 : Ent := ⟨b239, 25, [i2 p0_0, i2 p0_1, i2 p0_2, i2 p0_3, i2 p0_4, .slice a234 ((y_73).length) c235]⟩
                    refine WO.cls (C' := St w0 m m [[B1], L147, [B94], [B116], L236, [B120], [B122]]) (fun _ h => h) ?_
                    refine WO_end ?_
                    refine WK_retI (RLc_cell tbok 6 rfl rfl rfl RLc_nil) (fun _ h => St.back (Ls := [[B1]]) (X := [L147, [B94], [B116], L236, [B120], [B122]]) h (Le.refl _) (Le.refl _)) ?_
                    refine WO.cls (C' := St w0 m m [[B1], L147, [B94], [B116], L236]) (fun _ h => St.take 5 h) ?_
                    refine WO_tree rfl ?_
                    refine WT_fin ?_
                    refine WO_storeB tbok 2 [i2 p0_0, i2 p0_1, i2 p0_2, i2 p0_3, i2 p0_4, .slice a145 ((y_73).length) c146] rfl rfl rfl rfl rfl rfl rfl ?_
                    let B123 : Ent := ⟨b211, 25, [i2 p0_0, i2 p0_1, i2 p0_2, i2 p0_3, i2 p0_4, .slice a145 ((y_73).length) c146]⟩
                    refine WO.cls (C' := St w0 m m [[B1], L147, [B123], [B116], L236]) (fun _ h => h) ?_
                    refine WO_storeB tbok 3 [i2 p0_0, i2 p0_1, i2 p0_2, i2 p0_3, i2 p0_4, .slice a234 ((y_73).length) c235] rfl rfl rfl rfl rfl rfl rfl ?_
                    let B124 : Ent := ⟨b231, 25, [i2 p0_0, i2 p0_1, i2 p0_2, i2 p0_3, i2 p0_4, .slice a234 ((y_73).length) c235]⟩
                    refine WO.cls (C' := St w0 m m [[B1], L147, [B123], [B124], L236]) (fun _ h => h) ?_
                    refine WO_end ?_
                    refine WK.cls (fun _ h => h.perm (Ls' := [[B1], [B123], L147, [B124], L236]) (List.Perm.flatten (List.Perm.cons _ (List.Perm.swap _ _ _)))) ?_
                    cases hx15
                    refine WK.sub ?_ (hk16 ⟨a145, c146, L147, a234, c235, L236, b211, b231⟩ ⟨hL147, hL236⟩)
                    exact ⟨rfl, rfl, rfl, rfl, rfl, rfl, trivial⟩
                  · exact WT_none
              · refine WT_alt rfl ?_ ?_
                · refine WO_alloc tbok [i2 0, i2 0, i2 0, i2 0, i2 0, .slice none 0 0] rfl rfl St_closed rfl rfl rfl rfl (fun b240 => ?_)
                  let B125 : Ent := ⟨b240, 25, [i2 0, i2 0, i2 0, i2 0, i2 0, .slice none 0 0]⟩
                  refine WO.cls (C' := St w0 m m [[B1], L147, [B125]]) (fun _ h => h) ?_
                  refine WO_tree rfl ?_
                  refine WT_alt rfl ?_ ?_
                  · refine WO_inline rfl rfl rfl rfl rfl rfl callable_22 Try.func22 rfl rfl rfl ?_
                    refine WK.sub (e' := [(0, .agg #[i2 p0_0, i2 p0_1, i2 p0_2, i2 p0_3, i2 p0_4, .slice a_p0_5 p0_5.length c_p0_5]), (1, .slice a145 ((y_73).length) c146)]) ⟨rfl, rfl, trivial⟩ ?_
                    refine WK_seq ?_
                    refine WK_region ?_
                    refine WO_box [i2 p0_0, i2 p0_1, i2 p0_2, i2 p0_3, i2 p0_4, .slice a_p0_5 p0_5.length c_p0_5] rfl rfl trivial rfl rfl rfl (fun b241 => ?_)
                    let B126 : Ent := ⟨b241, 25, [i2 p0_0, i2 p0_1, i2 p0_2, i2 p0_3, i2 p0_4, .slice a_p0_5 p0_5.length c_p0_5]⟩
                    refine WO.cls (C' := St w0 m m [[B1], L147, [B125], [B126]]) (fun _ h => h) ?_
                    refine WO_alloc tbok [i2 0, i2 0, i2 0, i2 0, i2 0, .slice none 0 0] rfl rfl trivial rfl rfl rfl rfl (fun b242 => ?_)
                    let B127 : Ent := ⟨b242, 25, [i2 0, i2 0, i2 0, i2 0, i2 0, .slice none 0 0]⟩
                    refine WO.cls (C' := St w0 m m [[B1], L147, [B125], [B126], [B127]]) (fun _ h => h) ?_
                    refine WO_end ?_
                    refine WK_seq ?_
                    refine WK_region ?_
                    refine WO_pure tbok 1 [(1, .slice a145 ((y_73).length) c146), (2, pb2 b241), (4, pb2 b242), (5, pb2 b241)] rfl ⟨rfl, rfl, rfl, rfl, trivial⟩ ?_
                    refine WO_loadB tbok 3 rfl rfl rfl rfl (fun _ h => h) rfl rfl ?_
                    refine WO_pure tbok 1 [(1, .slice a145 ((y_73).length) c146), (2, pb2 b241), (4, pb2 b242), (6, i2 p0_0), (7, .pointer (some ⟨b241, 1, none⟩))] rfl ⟨rfl, rfl, rfl, rfl, rfl, trivial⟩ ?_
                    refine WO_loadB tbok 3 rfl rfl rfl rfl (fun _ h => h) rfl rfl ?_
                    refine WO_pure tbok 1 [(1, .slice a145 ((y_73).length) c146), (2, pb2 b241), (4, pb2 b242), (6, i2 p0_0), (8, i2 p0_1), (9, .pointer (some ⟨b241, 2, none⟩))] rfl ⟨rfl, rfl, rfl, rfl, rfl, rfl, trivial⟩ ?_
                    refine WO_loadB tbok 3 rfl rfl rfl rfl (fun _ h => h) rfl rfl ?_
                    refine WO_pure tbok 1 [(1, .slice a145 ((y_73).length) c146), (2, pb2 b241), (4, pb2 b242), (6, i2 p0_0), (8, i2 p0_1), (10, i2 p0_2), (11, .pointer (some ⟨b241, 3, none⟩))] rfl ⟨rfl, rfl, rfl, rfl, rfl, rfl, rfl, trivial⟩ ?_
                    refine WO_loadB tbok 3 rfl rfl rfl rfl (fun _ h => h) rfl rfl ?_
                    refine WO_pure tbok 1 [(1, .slice a145 ((y_73).length) c146), (4, pb2 b242), (6, i2 p0_0), (8, i2 p0_1), (10, i2 p0_2), (12, i2 p0_3), (13, .pointer (some ⟨b241, 4, none⟩))] rfl ⟨rfl, rfl, rfl, rfl, rfl, rfl, rfl, trivial⟩ ?_
                    refine WO_loadB tbok 3 rfl rfl rfl rfl (fun _ h => h) rfl rfl ?_
                    refine WO_pure tbok 2 [(4, pb2 b242), (16, .agg #[i2 p0_0, i2 p0_1, i2 p0_2, i2 p0_3, i2 p0_4, .slice a145 ((y_73).length) c146])] rfl ⟨rfl, rfl, trivial⟩ ?_
                    refine WO_storeB tbok 4 [i2 p0_0, i2 p0_1, i2 p0_2, i2 p0_3, i2 p0_4, .slice a145 ((y_73).length) c146] rfl rfl rfl rfl rfl rfl rfl ?_
                    let B128 : Ent := ⟨b242, 25, [i2 p0_0, i2 p0_1, i2 p0_2, i2 p0_3, i2 p0_4, .slice a145 ((y_73).length) c146]⟩
                    refine WO.cls (C' := St w0 m m [[B1], L147, [B125], [B126], [B128]]) (fun _ h => h) ?_
                    refine WO_end ?_
                    refine WK_retI (RLc_cell tbok 4 rfl rfl rfl RLc_nil) (fun _ h => St.back (Ls := [[B1]]) (X := [L147, [B125], [B126], [B128]]) h (Le.refl _) (Le.refl _)) ?_
                    refine WO.cls (C' := St w0 m m [[B1], L147, [B125]]) (fun _ h => St.take 3 h) ?_
                    refine WO_tree rfl ?_
                    refine WT_alt rfl ?_ ?_
                    · refine WO_call1 (slices_Clone_sint_Q y_73) rfl rfl St_closed rfl rfl rfl rfl ⟨23, #[], #[], rfl, callable_23, fun w hw => ⟨_, hw.sat, slices_Clone_sint_walk h_p0_5 hc144⟩⟩ (fun v246 L245 hq => ?_)
                      obtain ⟨a243, qa243, c244, rfl, hL245⟩ := hq
                      obtain rfl := OwnE.qlen hL245
                      refine WO.cls (C' := St w0 m m [[B1], L147, [B125], L245]) (fun _ h => h) ?_
                      refine WO_tree rfl ?_
                      refine WT_alt rfl ?_ ?_
                      · refine WO_inline rfl rfl rfl rfl rfl rfl callable_22 Try.func22 rfl rfl rfl ?_
                        refine WK.sub (e' := [(0, .agg #[i2 p0_0, i2 p0_1, i2 p0_2, i2 p0_3, i2 p0_4, .slice a_p0_5 p0_5.length c_p0_5]), (1, .slice a243 ((y_73).length) c244)]) ⟨rfl, rfl, trivial⟩ ?_
                        refine WK_seq ?_
                        refine WK_region ?_
                        refine WO_box [i2 p0_0, i2 p0_1, i2 p0_2, i2 p0_3, i2 p0_4, .slice a_p0_5 p0_5.length c_p0_5] rfl rfl trivial rfl rfl rfl (fun b247 => ?_)
                        let B129 : Ent := ⟨b247, 25, [i2 p0_0, i2 p0_1, i2 p0_2, i2 p0_3, i2 p0_4, .slice a_p0_5 p0_5.length c_p0_5]⟩
                        refine WO.cls (C' := St w0 m m [[B1], L147, [B125], L245, [B129]]) (fun _ h => h) ?_
                        refine WO_alloc tbok [i2 0, i2 0, i2 0, i2 0, i2 0, .slice none 0 0] rfl rfl trivial rfl rfl rfl rfl (fun b248 => ?_)
                        let B130 : Ent := ⟨b248, 25, [i2 0, i2 0, i2 0, i2 0, i2 0, .slice none 0 0]⟩
                        refine WO.cls (C' := St w0 m m [[B1], L147, [B125], L245, [B129], [B130]]) (fun _ h => h) ?_
                        refine WO_end ?_
                        refine WK_seq ?_
                        refine WK_region ?_
                        refine WO_pure tbok 1 [(1, .slice a243 ((y_73).length) c244), (2, pb2 b247), (4, pb2 b248), (5, pb2 b247)] rfl ⟨rfl, rfl, rfl, rfl, trivial⟩ ?_
                        refine WO_loadB tbok 4 rfl rfl rfl rfl (fun _ h => h) rfl rfl ?_
                        refine WO_pure tbok 1 [(1, .slice a243 ((y_73).length) c244), (2, pb2 b247), (4, pb2 b248), (6, i2 p0_0), (7, .pointer (some ⟨b247, 1, none⟩))] rfl ⟨rfl, rfl, rfl, rfl, rfl, trivial⟩ ?_
                        refine WO_loadB tbok 4 rfl rfl rfl rfl (fun _ h => h) rfl rfl ?_
                        refine WO_pure tbok 1 [(1, .slice a243 ((y_73).length) c244), (2, pb2 b247), (4, pb2 b248), (6, i2 p0_0), (8, i2 p0_1), (9, .pointer (some ⟨b247, 2, none⟩))] rfl ⟨rfl, rfl, rfl, rfl, rfl, rfl, trivial⟩ ?_
                        refine WO_loadB tbok 4 rfl rfl rfl rfl (fun _ h => h) rfl rfl ?_
                        refine WO_pure tbok 1 [(1, .slice a243 ((y_73).length) c244), (2, pb2 b247), (4, pb2 b248), (6, i2 p0_0), (8, i2 p0_1), (10, i2 p0_2), (11, .pointer (some ⟨b247, 3, none⟩))] rfl ⟨rfl, rfl, rfl, rfl, rfl, rfl, rfl, trivial⟩ ?_
                        refine WO_loadB tbok 4 rfl rfl rfl rfl (fun _ h => h) rfl rfl ?_
                        refine WO_pure tbok 1 [(1, .slice a243 ((y_73).length) c244), (4, pb2 b248), (6, i2 p0_0), (8, i2 p0_1), (10, i2 p0_2), (12, i2 p0_3), (13, .pointer (some ⟨b247, 4, none⟩))] rfl ⟨rfl, rfl, rfl, rfl, rfl, rfl, rfl, trivial⟩ ?_
                        refine WO_loadB tbok 4 rfl rfl rfl rfl (fun _ h => h) rfl rfl ?_
                        refine WO_pure tbok 2 [(4, pb2 b248), (16, .agg #[i2 p0_0, i2 p0_1, i2 p0_2, i2 p0_3, i2 p0_4, .slice a243 ((y_73).length) c244])] rfl ⟨rfl, rfl, trivial⟩ ?_
                        refine WO_storeB tbok 5 [i2 p0_0, i2 p0_1, i2 p0_2, i2 p0_3, i2 p0_4, .slice a243 ((y_73).length) c244] rfl rfl rfl rfl rfl rfl rfl ?_
                        let B131 : Ent := ⟨b248, 25, [i2 p0_0, i2 p0_1, i2 p0_2, i2 p0_3, i2 p0_4, .slice a243 ((y_73).length) c244]⟩
                        refine WO.cls (C' := St w0 m m [[B1], L147, [B125], L245, [B129], [B131]]) (fun _ h => h) ?_
                        refine WO_end ?_
                        refine WK_retI (RLc_cell tbok 5 rfl rfl rfl RLc_nil) (fun _ h => St.back (Ls := [[B1]]) (X := [L147, [B125], L245, [B129], [B131]]) h (Le.refl _) (Le.refl _)) ?_
                        refine WO.cls (C' := St w0 m m [[B1], L147, [B125], L245]) (fun _ h => St.take 4 h) ?_
                        refine WO_tree rfl ?_
                        refine WT_run ?_
                        refine WO_alloc tbok [i2 0, i2 0, i2 0, i2 0, i2 0, .slice none 0 0] rfl rfl St_closed rfl rfl rfl rfl (fun b249 => ?_)
                        let B132 : Ent := ⟨b249, 25, [i2 0, i2 0, i2 0, i2 0, i2 0, .slice none 0 0]⟩
                        refine WO.cls (C' := St w0 m m [[B1], L147, [B125], L245, [B132]]) (fun _ h => h) ?_
                        refine WO_tree rfl ?_
                        refine WT_fin ?_
                        refine WO_storeB tbok 4 [i2 p0_0, i2 p0_1, i2 p0_2, i2 p0_3, i2 p0_4, .slice a145 ((y_73).length) c146] rfl rfl rfl rfl rfl rfl rfl ?_
                        let B133 : Ent := ⟨b249, 25, [i2 p0_0, i2 p0_1, i2 p0_2, i2 p0_3, i2 p0_4, .slice a145 ((y_73).length) c146]⟩
                        refine WO.cls (C' := St w0 m m [[B1], L147, [B125], L245, [B133]]) (fun _ h => h) ?_
                        refine WO_storeB tbok 2 [i2 p0_0, i2 p0_1, i2 p0_2, i2 p0_3, i2 p0_4, .slice a243 ((y_73).length) c244] rfl rfl rfl rfl rfl rfl rfl ?_
                        let B134 : Ent := ⟨b240, 25, [i2 p0_0, i2 p0_1, i2 p0_2, i2 p0_3, i2 p0_4, .slice a243 ((y_73).length) c244]⟩
                        refine WO.cls (C' := St w0 m m [[B1], L147, [B134], L245, [B133]]) (fun _ h => h) ?_
                        refine WO_end ?_
                        refine WK.cls (fun _ h => h.perm (Ls' := [[B1], [B133], L147, [B134], L245]) (List.Perm.flatten (((List.Perm.cons _ (List.Perm.cons _ (List.Perm.cons _ (List.Perm.swap _ _ _)))).trans (List.Perm.cons _ (List.Perm.cons _ (List.Perm.swap _ _ _)))).trans (List.Perm.cons _ (List.Perm.swap _ _ _))))) ?_
                        cases hx15
                        refine WK.sub ?_ (hk16 ⟨a145, c146, L147, a243, c244, L245, b249, b240⟩ ⟨hL147, hL245⟩)
                        exact ⟨rfl, rfl, rfl, rfl, rfl, rfl, trivial⟩
                      · refine WT_alt rfl ?_ ?_
                        · refine WO_alloc tbok [i2 0, i2 0, i2 0, i2 0, i2 0, .slice none 0 0] rfl rfl St_closed rfl rfl rfl rfl (fun b250 => ?_)
                          let B135 : Ent := ⟨b250, 25, [i2 0, i2 0, i2 0, i2 0, i2 0, .slice none 0 0]⟩
                          refine WO.cls (C' := St w0 m m [[B1], L147, [B125], L245, [B135]]) (fun _ h => h) ?_
                          refine WO_tree rfl ?_
                          refine WT_run ?_
                          refine WO_inline rfl rfl rfl rfl rfl rfl callable_22 Try.func22 rfl rfl rfl ?_
                          refine WK.sub (e' := [(0, .agg #[i2 p0_0, i2 p0_1, i2 p0_2, i2 p0_3, i2 p0_4, .slice a_p0_5 p0_5.length c_p0_5]), (1, .slice a243 ((y_73).length) c244)]) ⟨rfl, rfl, trivial⟩ ?_
                          refine WK_seq ?_
                          refine WK_region ?_
                          refine WO_box [i2 p0_0, i2 p0_1, i2 p0_2, i2 p0_3, i2 p0_4, .slice a_p0_5 p0_5.length c_p0_5] rfl rfl trivial rfl rfl rfl (fun b251 => ?_)
                          let B136 : Ent := ⟨b251, 25, [i2 p0_0, i2 p0_1, i2 p0_2, i2 p0_3, i2 p0_4, .slice a_p0_5 p0_5.length c_p0_5]⟩
                          refine WO.cls (C' := St w0 m m [[B1], L147, [B125], L245, [B135], [B136]]) (fun _ h => h) ?_
                          refine WO_alloc tbok [i2 0, i2 0, i2 0, i2 0, i2 0, .slice none 0 0] rfl rfl trivial rfl rfl rfl rfl (fun b252 => ?_)
                          let B137 : Ent := ⟨b252, 25, [i2 0, i2 0, i2 0, i2 0, i2 0, .slice none 0 0]⟩
                          refine WO.cls (C' := St w0 m m [[B1], L147, [B125], L245, [B135], [B136], [B137]]) (fun _ h => h) ?_
                          refine WO_end ?_
                          refine WK_seq ?_
                          refine WK_region ?_
                          refine WO_pure tbok 1 [(1, .slice a243 ((y_73).length) c244), (2, pb2 b251), (4, pb2 b252), (5, pb2 b251)] rfl ⟨rfl, rfl, rfl, rfl, trivial⟩ ?_
                          refine WO_loadB tbok 5 rfl rfl rfl rfl (fun _ h => h) rfl rfl ?_
                          refine WO_pure tbok 1 [(1, .slice a243 ((y_73).length) c244), (2, pb2 b251), (4, pb2 b252), (6, i2 p0_0), (7, .pointer (some ⟨b251, 1, none⟩))] rfl ⟨rfl, rfl, rfl, rfl, rfl, trivial⟩ ?_
                          refine WO_loadB tbok 5 rfl rfl rfl rfl (fun _ h => h) rfl rfl ?_
                          refine WO_pure tbok 1 [(1, .slice a243 ((y_73).length) c244), (2, pb2 b251), (4, pb2 b252), (6, i2 p0_0), (8, i2 p0_1), (9, .pointer (some ⟨b251, 2, none⟩))] rfl ⟨rfl, rfl, rfl, rfl, rfl, rfl, trivial⟩ ?_
                          refine WO_loadB tbok 5 rfl rfl rfl rfl (fun _ h => h) rfl rfl ?_
                          refine WO_pure tbok 1 [(1, .slice a243 ((y_73).length) c244), (2, pb2 b251), (4, pb2 b252), (6, i2 p0_0), (8, i2 p0_1), (10, i2 p0_2), (11, .pointer (some ⟨b251, 3, none⟩))] rfl ⟨rfl, rfl, rfl, rfl, rfl, rfl, rfl, trivial⟩ ?_
                          refine WO_loadB tbok 5 rfl rfl rfl rfl (fun _ h => h) rfl rfl ?_
                          refine WO_pure tbok 1 [(1, .slice a243 ((y_73).length) c244), (4, pb2 b252), (6, i2 p0_0), (8, i2 p0_1), (10, i2 p0_2), (12, i2 p0_3), (13, .pointer (some ⟨b251, 4, none⟩))] rfl ⟨rfl, rfl, rfl, rfl, rfl, rfl, rfl, trivial⟩ ?_
                          refine WO_loadB tbok 5 rfl rfl rfl rfl (fun _ h => h) rfl rfl ?_
                          refine WO_pure tbok 2 [(4, pb2 b252), (16, .agg #[i2 p0_0, i2 p0_1, i2 p0_2, i2 p0_3, i2 p0_4, .slice a243 ((y_73).length) c244])] rfl ⟨rfl, rfl, trivial⟩ ?_
                          refine WO_storeB tbok 6 [i2 p0_0, i2 p0_1, i2 p0_2, i2 p0_3, i2 p0_4, .slice a243 ((y_73).length) c244] rfl rfl rfl rfl rfl rfl rfl ?_
                          let B138 : Ent := ⟨b252, 25, [i2 p0_0, i2 p0_1, i2 p0_2, i2 p0_3, i2 p0_4, .slice a243 ((y_73).length) c244]⟩
                          refine WO.cls (C' := St w0 m m [[B1], L147, [B125], L245, [B135], [B136], [B138]]) (fun _ h => h) ?_
                          refine WO_end ?_
                          refine WK_retI (RLc_cell tbok 6 rfl rfl rfl RLc_nil) (fun _ h => St.back (Ls := [[B1]]) (X := [L147, [B125], L245, [B135], [B136], [B138]]) h (Le.refl _) (Le.refl _)) ?_
                          refine WO.cls (C' := St w0 m m [[B1], L147, [B125], L245, [B135]]) (fun _ h => St.take 5 h) ?_
                          refine WO_tree rfl ?_
                          refine WT_fin ?_
                          refine WO_storeB tbok 4 [i2 p0_0, i2 p0_1, i2 p0_2, i2 p0_3, i2 p0_4, .slice a145 ((y_73).length) c146] rfl rfl rfl rfl rfl rfl rfl ?_
                          let B139 : Ent := ⟨b250, 25, [i2 p0_0, i2 p0_1, i2 p0_2, i2 p0_3, i2 p0_4, .slice a145 ((y_73).length) c146]⟩
                          refine WO.cls (C' := St w0 m m [[B1], L147, [B125], L245, [B139]]) (fun _ h => h) ?_
                          refine WO_storeB tbok 2 [i2 p0_0, i2 p0_1, i2 p0_2, i2 p0_3, i2 p0_4, .slice a243 ((y_73).length) c244] rfl rfl rfl rfl rfl rfl rfl ?_
                          let B140 : Ent := ⟨b240, 25, [i2 p0_0, i2 p0_1, i2 p0_2, i2 p0_3, i2 p0_4, .slice a243 ((y_73).length) c244]⟩
                          refine WO.cls (C' := St w0 m m [[B1], L147, [B140], L245, [B139]]) (fun _ h => h) ?_
                          refine WO_end ?_
                          refine WK.cls (fun _ h => h.perm (Ls' := [[B1], [B139], L147, [B140], L245]) (List.Perm.flatten (((List.Perm.cons _ (List.Perm.cons _ (List.Perm.cons _ (List.Perm.swap _ _ _)))).trans (List.Perm.cons _ (List.Perm.cons _ (List.Perm.swap _ _ _)))).trans (List.Perm.cons _ (List.Perm.swap _ _ _))))) ?_
                          cases hx15
                          refine WK.sub ?_ (hk16 ⟨a145, c146, L147, a243, c244, L245, b250, b240⟩ ⟨hL147, hL245⟩)
                          exact ⟨rfl, rfl, rfl, rfl, rfl, rfl, trivial⟩
                        · exact WT_none
                    · refine WT_alt rfl ?_ ?_
                      · refine WO_alloc tbok [i2 0, i2 0, i2 0, i2 0, i2 0, .slice none 0 0] rfl rfl St_closed rfl rfl rfl rfl (fun b253 => ?_)
                        let B141 : Ent := ⟨b253, 25, [i2 0, i2 0, i2 0, i2 0, i2 0, .slice none 0 0]⟩
                        refine WO.cls (C' := St w0 m m [[B1], L147, [B125], [B141]]) (fun _ h => h) ?_
                        refine WO_tree rfl ?_
                        refine WT_run ?_
                        refine WO_call1 (slices_Clone_sint_Q y_73) rfl rfl St_closed rfl rfl rfl rfl ⟨23, #[], #[], rfl, callable_23, fun w hw => ⟨_, hw.sat, slices_Clone_sint_walk h_p0_5 hc144⟩⟩ (fun v257 L256 hq => ?_)
                        obtain ⟨a254, qa254, c255, rfl, hL256⟩ := hq
                        obtain rfl := OwnE.qlen hL256
                        refine WO.cls (C' := St w0 m m [[B1], L147, [B125], [B141], L256]) (fun _ h => h) ?_
                        refine WO_inline rfl rfl rfl rfl rfl rfl callable_22 Try.func22 rfl rfl rfl ?_
                        refine WK.sub (e' := [(0, .agg #[i2 p0_0, i2 p0_1, i2 p0_2, i2 p0_3, i2 p0_4, .slice a_p0_5 p0_5.length c_p0_5]), (1, .slice a254 ((y_73).length) c255)]) ⟨rfl, rfl, trivial⟩ ?_
                        refine WK_seq ?_
                        refine WK_region ?_
                        refine WO_box [i2 p0_0, i2 p0_1, i2 p0_2, i2 p0_3, i2 p0_4, .slice a_p0_5 p0_5.length c_p0_5] rfl rfl trivial rfl rfl rfl (fun b258 => ?_)
                        let B142 : Ent := ⟨b258, 25, [i2 p0_0, i2 p0_1, i2 p0_2, i2 p0_3, i2 p0_4, .slice a_p0_5 p0_5.length c_p0_5]⟩
                        refine WO.cls (C' := St w0 m m [[B1], L147, [B125], [B141], L256, [B142]]) (fun _ h => h) ?_
                        refine WO_alloc tbok [i2 0, i2 0, i2 0, i2 0, i2 0, .slice none 0 0] rfl rfl trivial rfl rfl rfl rfl (fun b259 => ?_)
                        let B143 : Ent := ⟨b259, 25, [i2 0, i2 0, i2 0, i2 0, i2 0, .slice none 0 0]⟩
                        refine WO.cls (C' := St w0 m m [[B1], L147, [B125], [B141], L256, [B142], [B143]]) (fun _ h => h) ?_
                        refine WO_end ?_
                        refine WK_seq ?_
                        refine WK_region ?_
                        refine WO_pure tbok 1 [(1, .slice a254 ((y_73).length) c255), (2, pb2 b258), (4, pb2 b259), (5, pb2 b258)] rfl ⟨rfl, rfl, rfl, rfl, trivial⟩ ?_
                        refine WO_loadB tbok 5 rfl rfl rfl rfl (fun _ h => h) rfl rfl ?_
                        refine WO_pure tbok 1 [(1, .slice a254 ((y_73).length) c255), (2, pb2 b258), (4, pb2 b259), (6, i2 p0_0), (7, .pointer (some ⟨b258, 1, none⟩))] rfl ⟨rfl, rfl, rfl, rfl, rfl, trivial⟩ ?_
                        refine WO_loadB tbok 5 rfl rfl rfl rfl (fun _ h => h) rfl rfl ?_
                        refine WO_pure tbok 1 [(1, .slice a254 ((y_73).length) c255), (2, pb2 b258), (4, pb2 b259), (6, i2 p0_0), (8, i2 p0_1), (9, .pointer (some ⟨b258, 2, none⟩))] rfl ⟨rfl, rfl, rfl, rfl, rfl, rfl, trivial⟩ ?_
                        refine WO_loadB tbok 5 rfl rfl rfl rfl (fun _ h => h) rfl rfl ?_
                        refine WO_pure tbok 1 [(1, .slice a254 ((y_73).length) c255), (2, pb2 b258), (4, pb2 b259), (6, i2 p0_0), (8, i2 p0_1), (10, i2 p0_2), (11, .pointer (some ⟨b258, 3, none⟩))] rfl ⟨rfl, rfl, rfl, rfl, rfl, rfl, rfl, trivial⟩ ?_
                        refine WO_loadB tbok 5 rfl rfl rfl rfl (fun _ h => h) rfl rfl ?_
                        refine WO_pure tbok 1 [(1, .slice a254 ((y_73).length) c255), (4, pb2 b259), (6, i2 p0_0), (8, i2 p0_1), (10, i2 p0_2), (12, i2 p0_3), (13, .pointer (some ⟨b258, 4, none⟩))] rfl ⟨rfl, rfl, rfl, rfl, rfl, rfl, rfl, trivial⟩ ?_
                        refine WO_loadB tbok 5 rfl rfl rfl rfl (fun _ h => h) rfl rfl ?_
                        refine WO_pure tbok 2 [(4, pb2 b259), (16, .agg #[i2 p0_0, i2 p0_1, i2 p0_2, i2 p0_3, i2 p0_4, .slice a254 ((y_73).length) c255])] rfl ⟨rfl, rfl, trivial⟩ ?_
                        refine WO_storeB tbok 6 [i2 p0_0, i2 p0_1, i2 p0_2, i2 p0_3, i2 p0_4, .slice a254 ((y_73).length) c255] rfl rfl rfl rfl rfl rfl rfl ?_
                        let B144 : Ent := ⟨b259, 25, [i2 p0_0, i2 p0_1, i2 p0_2, i2 p0_3, i2 p0_4, .slice a254 ((y_73).length) c255]⟩
                        refine WO.cls (C' := St w0 m m [[B1], L147, [B125], [B141], L256, [B142], [B144]]) (fun _ h => h) ?_
                        refine WO_end ?_
                        refine WK_retI (RLc_cell tbok 6 rfl rfl rfl RLc_nil) (fun _ h => St.back (Ls := [[B1]]) (X := [L147, [B125], [B141], L256, [B142], [B144]]) h (Le.refl _) (Le.refl _)) ?_
                        refine WO.cls (C' := St w0 m m [[B1], L147, [B125], [B141], L256]) (fun _ h => St.take 5 h) ?_
                        refine WO_tree rfl ?_
                        refine WT_fin ?_
                        refine WO_storeB tbok 3 [i2 p0_0, i2 p0_1, i2 p0_2, i2 p0_3, i2 p0_4, .slice a145 ((y_73).length) c146] rfl rfl rfl rfl rfl rfl rfl ?_
                        let B145 : Ent := ⟨b253, 25, [i2 p0_0, i2 p0_1, i2 p0_2, i2 p0_3, i2 p0_4, .slice a145 ((y_73).length) c146]⟩
                        refine WO.cls (C' := St w0 m m [[B1], L147, [B125], [B145], L256]) (fun _ h => h) ?_
                        refine WO_storeB tbok 2 [i2 p0_0, i2 p0_1, i2 p0_2, i2 p0_3, i2 p0_4, .slice a254 ((y_73).length) c255] rfl rfl rfl rfl rfl rfl rfl ?_
                        let B146 : Ent := ⟨b240, 25, [i2 p0_0, i2 p0_1, i2 p0_2, i2 p0_3, i2 p0_4, .slice a254 ((y_73).length) c255]⟩
                        refine WO.cls (C' := St w0 m m [[B1], L147, [B146], [B145], L256]) (fun _ h => h) ?_
                        refine WO_end ?_
                        refine WK.cls (fun _ h => h.perm (Ls' := [[B1], [B145], L147, [B146], L256]) (List.Perm.flatten ((List.Perm.cons _ (List.Perm.cons _ (List.Perm.swap _ _ _))).trans (List.Perm.cons _ (List.Perm.swap _ _ _))))) ?_
                        cases hx15
                        refine WK.sub ?_ (hk16 ⟨a145, c146, L147, a254, c255, L256, b253, b240⟩ ⟨hL147, hL256⟩)
                        exact ⟨rfl, rfl, rfl, rfl, rfl, rfl, trivial⟩
                      · exact WT_none
                  · refine WT_alt rfl ?_ ?_
                    · refine WO_alloc tbok [i2 0, i2 0, i2 0, i2 0, i2 0, .slice none 0 0] rfl rfl St_closed rfl rfl rfl rfl (fun b260 => ?_)
                      let B147 : Ent := ⟨b260, 25, [i2 0, i2 0, i2 0, i2 0, i2 0, .slice none 0 0]⟩
                      refine WO.cls (C' := St w0 m m [[B1], L147, [B125], [B147]]) (fun _ h => h) ?_
                      refine WO_tree rfl ?_
                      refine WT_run ?_
                      refine WO_inline rfl rfl rfl rfl rfl rfl callable_22 Try.func22 rfl rfl rfl ?_
                      refine WK.sub (e' := [(0, .agg #[i2 p0_0, i2 p0_1, i2 p0_2, i2 p0_3, i2 p0_4, .slice a_p0_5 p0_5.length c_p0_5]), (1, .slice a145 ((y_73).length) c146)]) ⟨rfl, rfl, trivial⟩ ?_
                      refine WK_seq ?_
                      refine WK_region ?_
                      refine WO_box [i2 p0_0, i2 p0_1, i2 p0_2, i2 p0_3, i2 p0_4, .slice a_p0_5 p0_5.length c_p0_5] rfl rfl trivial rfl rfl rfl (fun b261 => ?_)
                      let B148 : Ent := ⟨b261, 25, [i2 p0_0, i2 p0_1, i2 p0_2, i2 p0_3, i2 p0_4, .slice a_p0_5 p0_5.length c_p0_5]⟩
                      refine WO.cls (C' := St w0 m m [[B1], L147, [B125], [B147], [B148]]) (fun _ h => h) ?_
                      refine WO_alloc tbok [i2 0, i2 0, i2 0, i2 0, i2 0, .slice none 0 0] rfl rfl trivial rfl rfl rfl rfl (fun b262 => ?_)
                      let B149 : Ent := ⟨b262, 25, [i2 0, i2 0, i2 0, i2 0, i2 0, .slice none 0 0]⟩
                      refine WO.cls (C' := St w0 m m [[B1], L147, [B125], [B147], [B148], [B149]]) (fun _ h => h) ?_
                      refine WO_end ?_
                      refine WK_seq ?_
                      refine WK_region ?_
                      refine WO_pure tbok 1 [(1, .slice a145 ((y_73).length) c146), (2, pb2 b261), (4, pb2 b262), (5, pb2 b261)] rfl ⟨rfl, rfl, rfl, rfl, trivial⟩ ?_
                      refine WO_loadB tbok 4 rfl rfl rfl rfl (fun _ h => h) rfl rfl ?_
                      refine WO_pure tbok 1 [(1, .slice a145 ((y_73).length) c146), (2, pb2 b261), (4, pb2 b262), (6, i2 p0_0), (7, .pointer (some ⟨b261, 1, none⟩))] rfl ⟨rfl, rfl, rfl, rfl, rfl, trivial⟩ ?_
                      refine WO_loadB tbok 4 rfl rfl rfl rfl (fun _ h => h) rfl rfl ?_
                      refine WO_pure tbok 1 [(1, .slice a145 ((y_73).length) c146), (2, pb2 b261), (4, pb2 b262), (6, i2 p0_0), (8, i2 p0_1), (9, .pointer (some ⟨b261, 2, none⟩))] rfl ⟨rfl, rfl, rfl, rfl, rfl, rfl, trivial⟩ ?_
                      refine WO_loadB tbok 4 rfl rfl rfl rfl (fun _ h => h) rfl rfl ?_
                      refine WO_pure tbok 1 [(1, .slice a145 ((y_73).length) c146), (2, pb2 b261), (4, pb2 b262), (6, i2 p0_0), (8, i2 p0_1), (10, i2 p0_2), (11, .pointer (some ⟨b261, 3, none⟩))] rfl ⟨rfl, rfl, rfl, rfl, rfl, rfl, rfl, trivial⟩ ?_
                      refine WO_loadB tbok 4 rfl rfl rfl rfl (fun _ h => h) rfl rfl ?_
                      refine WO_pure tbok 1 [(1, .slice a145 ((y_73).length) c146), (4, pb2 b262), (6, i2 p0_0), (8, i2 p0_1), (10, i2 p0_2), (12, i2 p0_3), (13, .pointer (some ⟨b261, 4, none⟩))] rfl ⟨rfl, rfl, rfl, rfl, rfl, rfl, rfl, trivial⟩ ?_
                      refine WO_loadB tbok 4 rfl rfl rfl rfl (fun _ h => h) rfl rfl ?_
                      refine WO_pure tbok 2 [(4, pb2 b262), (16, .agg #[i2 p0_0, i2 p0_1, i2 p0_2, i2 p0_3, i2 p0_4, .slice a145 ((y_73).length) c146])] rfl ⟨rfl, rfl, trivial⟩ ?_
                      refine WO_storeB tbok 5 [i2 p0_0, i2 p0_1, i2 p0_2, i2 p0_3, i2 p0_4, .slice a145 ((y_73).length) c146] rfl rfl rfl rfl rfl rfl rfl ?_
                      let B150 : Ent := ⟨b262, 25, [i2 p0_0, i2 p0_1, i2 p0_2, i2 p0_3, i2 p0_4, .slice a145 ((y_73).length) c146]⟩
                      refine WO.cls (C' := St w0 m m [[B1], L147, [B125], [B147], [B148], [B150]]) (fun _ h => h) ?_
                      refine WO_end ?_
                      refine WK_retI (RLc_cell tbok 5 rfl rfl rfl RLc_nil) (fun _ h => St.back (Ls := [[B1]]) (X := [L147, [B125], [B147], [B148], [B150]]) h (Le.refl _) (Le.refl _)) ?_
                      refine WO.cls (C' := St w0 m m [[B1], L147, [B125], [B147]]) (fun _ h => St.take 4 h) ?_
                      refine WO_call1 (slices_Clone_sint_Q y_73) rfl rfl St_closed rfl rfl rfl rfl ⟨23, #[], #[], rfl, callable_23, fun w hw => ⟨_, hw.sat, slices_Clone_sint_walk h_p0_5 hc144⟩⟩ (fun v266 L265 hq => ?_)
                      obtain ⟨a263, qa263, c264, rfl, hL265⟩ := hq
                      obtain rfl := OwnE.qlen hL265
                      refine WO.cls (C' := St w0 m m [[B1], L147, [B125], [B147], L265]) (fun _ h => h) ?_
                      refine WO_inline rfl rfl rfl rfl rfl rfl callable_22 Try.func22 rfl rfl rfl ?_
                      refine WK.sub (e' := [(0, .agg #[i2 p0_0, i2 p0_1, i2 p0_2, i2 p0_3, i2 p0_4, .slice a_p0_5 p0_5.length c_p0_5]), (1, .slice a263 ((y_73).length) c264)]) ⟨rfl, rfl, trivial⟩ ?_
                      refine WK_seq ?_
                      refine WK_region ?_
                      refine WO_box [i2 p0_0, i2 p0_1, i2 p0_2, i2 p0_3, i2 p0_4, .slice a_p0_5 p0_5.length c_p0_5] rfl rfl trivial rfl rfl rfl (fun b267 => ?_)
                      let B151 : Ent := ⟨b267, 25, [i2 p0_0, i2 p0_1, i2 p0_2, i2 p0_3, i2 p0_4, .slice a_p0_5 p0_5.length c_p0_5]⟩
                      refine WO.cls (C' := St w0 m m [[B1], L147, [B125], [B147], L265, [B151]]) (fun _ h => h) ?_
                      refine WO_alloc tbok [i2 0, i2 0, i2 0, i2 0, i2 0, .slice none 0 0] rfl rfl trivial rfl rfl rfl rfl (fun b268 => ?_)
                      let B152 : Ent := ⟨b268, 25, [i2 0, i2 0, i2 0, i2 0, i2 0, .slice none 0 0]⟩
                      refine WO.cls (C' := St w0 m m [[B1], L147, [B125], [B147], L265, [B151], [B152]]) (fun _ h => h) ?_
                      refine WO_end ?_
                      refine WK_seq ?_
                      refine WK_region ?_
                      refine WO_pure tbok 1 [(1, .slice a263 ((y_73).length) c264), (2, pb2 b267), (4, pb2 b268), (5, pb2 b267)] rfl ⟨rfl, rfl, rfl, rfl, trivial⟩ ?_
                      refine WO_loadB tbok 5 rfl rfl rfl rfl (fun _ h => h) rfl rfl ?_
                      refine WO_pure tbok 1 [(1, .slice a263 ((y_73).length) c264), (2, pb2 b267), (4, pb2 b268), (6, i2 p0_0), (7, .pointer (some ⟨b267, 1, none⟩))] rfl ⟨rfl, rfl, rfl, rfl, rfl, trivial⟩ ?_
                      refine WO_loadB tbok 5 rfl rfl rfl rfl (fun _ h => h) rfl rfl ?_
                      refine WO_pure tbok 1 [(1, .slice a263 ((y_73).length) c264), (2, pb2 b267), (4, pb2 b268), (6, i2 p0_0), (8, i2 p0_1), (9, .pointer (some ⟨b267, 2, none⟩))] rfl ⟨rfl, rfl, rfl, rfl, rfl, rfl, trivial⟩ ?_
                      refine WO_loadB tbok 5 rfl rfl rfl rfl (fun _ h => h) rfl rfl ?_
                      refine WO_pure tbok 1 [(1, .slice a263 ((y_73).length) c264), (2, pb2 b267), (4, pb2 b268), (6, i2 p0_0), (8, i2 p0_1), (10, i2 p0_2), (11, .pointer (some ⟨b267, 3, none⟩))] rfl ⟨rfl, rfl, rfl, rfl, rfl, rfl, rfl, trivial⟩ ?_
                      refine WO_loadB tbok 5 rfl rfl rfl rfl (fun _ h => h) rfl rfl ?_
                      refine WO_pure tbok 1 [(1, .slice a263 ((y_73).length) c264), (4, pb2 b268), (6, i2 p0_0), (8, i2 p0_1), (10, i2 p0_2), (12, i2 p0_3), (13, .pointer (some ⟨b267, 4, none⟩))] rfl ⟨rfl, rfl, rfl, rfl, rfl, rfl, rfl, trivial⟩ ?_
                      refine WO_loadB tbok 5 rfl rfl rfl rfl (fun _ h => h) rfl rfl ?_
                      refine WO_pure tbok 2 [(4, pb2 b268), (16, .agg #[i2 p0_0, i2 p0_1, i2 p0_2, i2 p0_3, i2 p0_4, .slice a263 ((y_73).length) c264])] rfl ⟨rfl, rfl, trivial⟩ ?_
                      refine WO_storeB tbok 6 [i2 p0_0, i2 p0_1, i2 p0_2, i2 p0_3, i2 p0_4, .slice a263 ((y_73).length) c264] rfl rfl rfl rfl rfl rfl rfl ?_
                      let B153 : Ent := ⟨b268, 25, [i2 p0_0, i2 p0_1, i2 p0_2, i2 p0_3, i2 p0_4, .slice a263 ((y_73).length) c264]⟩
                      refine WO.cls (C' := St w0 m m [[B1], L147, [B125], [B147], L265, [B151], [B153]]) (fun _ h => h) ?_
                      refine WO_end ?_
                      refine WK_retI (RLc_cell tbok 6 rfl rfl rfl RLc_nil) (fun _ h => St.back (Ls := [[B1]]) (X := [L147, [B125], [B147], L265, [B151], [B153]]) h (Le.refl _) (Le.refl _)) ?_
                      refine WO.cls (C' := St w0 m m [[B1], L147, [B125], [B147], L265]) (fun _ h => St.take 5 h) ?_
                      refine WO_tree rfl ?_
                      refine WT_fin ?_
                      refine WO_storeB tbok 3 [i2 p0_0, i2 p0_1, i2 p0_2, i2 p0_3, i2 p0_4, .slice a145 ((y_73).length) c146] rfl rfl rfl rfl rfl rfl rfl ?_
                      let B154 : Ent := ⟨b260, 25, [i2 p0_0, i2 p0_1, i2 p0_2, i2 p0_3, i2 p0_4, .slice a145 ((y_73).length) c146]⟩
                      refine WO.cls (C' := St w0 m m [[B1], L147, [B125], [B154], L265]) (fun _ h => h) ?_
                      refine WO_storeB tbok 2 [i2 p0_0, i2 p0_1, i2 p0_2, i2 p0_3, i2 p0_4, .slice a263 ((y_73).length) c264] rfl rfl rfl rfl rfl rfl rfl ?_
                      let B155 : Ent := ⟨b240, 25, [i2 p0_0, i2 p0_1, i2 p0_2, i2 p0_3, i2 p0_4, .slice a263 ((y_73).length) c264]⟩
                      refine WO.cls (C' := St w0 m m [[B1], L147, [B155], [B154], L265]) (fun _ h => h) ?_
                      refine WO_end ?_
                      refine WK.cls (fun _ h => h.perm (Ls' := [[B1], [B154], L147, [B155], L265]) (List.Perm.flatten ((List.Perm.cons _ (List.Perm.cons _ (List.Perm.swap _ _ _))).trans (List.Perm.cons _ (List.Perm.swap _ _ _))))) ?_
                      cases hx15
                      refine WK.sub ?_ (hk16 ⟨a145, c146, L147, a263, c264, L265, b260, b240⟩ ⟨hL147, hL265⟩)
                      exact ⟨rfl, rfl, rfl, rfl, rfl, rfl, trivial⟩
                    · exact WT_none
                · exact WT_none
          · refine WT_alt rfl ?_ ?_
            · refine WO_alloc tbok [i2 0, i2 0, i2 0, i2 0, i2 0, .slice none 0 0] rfl rfl St_closed rfl rfl rfl rfl (fun b269 => ?_)
              let B156 : Ent := ⟨b269, 25, [i2 0, i2 0, i2 0, i2 0, i2 0, .slice none 0 0]⟩
              refine WO.cls (C' := St w0 m m [[B1], [B156]]) (fun _ h => h) ?_
              refine WO_tree rfl ?_
              refine WT_alt rfl ?_ ?_
              · obtain ⟨y_73, hc270, hx15⟩ := bind_some hx15
                refine WO_call1 (slices_Clone_sint_Q y_73) rfl rfl St_closed rfl rfl rfl rfl ⟨23, #[], #[], rfl, callable_23, fun w hw => ⟨_, hw.sat, slices_Clone_sint_walk h_p0_5 hc270⟩⟩ (fun v274 L273 hq => ?_)
                obtain ⟨a271, qa271, c272, rfl, hL273⟩ := hq
                obtain rfl := OwnE.qlen hL273
                refine WO.cls (C' := St w0 m m [[B1], [B156], L273]) (fun _ h => h) ?_
                refine WO_tree rfl ?_
                refine WT_alt rfl ?_ ?_
                · refine WO_inline rfl rfl rfl rfl rfl rfl callable_22 Try.func22 rfl rfl rfl ?_
                  refine WK.sub (e' := [(0, .agg #[i2 p0_0, i2 p0_1, i2 p0_2, i2 p0_3, i2 p0_4, .slice a_p0_5 p0_5.length c_p0_5]), (1, .slice a271 ((y_73).length) c272)]) ⟨rfl, rfl, trivial⟩ ?_
                  refine WK_seq ?_
                  refine WK_region ?_
                  refine WO_box [i2 p0_0, i2 p0_1, i2 p0_2, i2 p0_3, i2 p0_4, .slice a_p0_5 p0_5.length c_p0_5] rfl rfl trivial rfl rfl rfl (fun b275 => ?_)
                  let B157 : Ent := ⟨b275, 25, [i2 p0_0, i2 p0_1, i2 p0_2, i2 p0_3, i2 p0_4, .slice a_p0_5 p0_5.length c_p0_5]⟩
                  refine WO.cls (C' := St w0 m m [[B1], [B156], L273, [B157]]) (fun _ h => h) ?_
                  refine WO_alloc tbok [i2 0, i2 0, i2 0, i2 0, i2 0, .slice none 0 0] rfl rfl trivial rfl rfl rfl rfl (fun b276 => ?_)
                  let B158 : Ent := ⟨b276, 25, [i2 0, i2 0, i2 0, i2 0, i2 0, .slice none 0 0]⟩
                  refine WO.cls (C' := St w0 m m [[B1], [B156], L273, [B157], [B158]]) (fun _ h => h) ?_
                  refine WO_end ?_
                  refine WK_seq ?_
                  refine WK_region ?_
                  refine WO_pure tbok 1 [(1, .slice a271 ((y_73).length) c272), (2, pb2 b275), (4, pb2 b276), (5, pb2 b275)] rfl ⟨rfl, rfl, rfl, rfl, trivial⟩ ?_
                  refine WO_loadB tbok 3 rfl rfl rfl rfl (fun _ h => h) rfl rfl ?_
                  refine WO_pure tbok 1 [(1, .slice a271 ((y_73).length) c272), (2, pb2 b275), (4, pb2 b276), (6, i2 p0_0), (7, .pointer (some ⟨b275, 1, none⟩))] rfl ⟨rfl, rfl, rfl, rfl, rfl, trivial⟩ ?_
                  refine WO_loadB tbok 3 rfl rfl rfl rfl (fun _ h => h) rfl rfl ?_
                  refine WO_pure tbok 1 [(1, .slice a271 ((y_73).length) c272), (2, pb2 b275), (4, pb2 b276), (6, i2 p0_0), (8, i2 p0_1), (9, .pointer (some ⟨b275, 2, none⟩))] rfl ⟨rfl, rfl, rfl, rfl, rfl, rfl, trivial⟩ ?_
                  refine WO_loadB tbok 3 rfl rfl rfl rfl (fun _ h => h) rfl rfl ?_
                  refine WO_pure tbok 1 [(1, .slice a271 ((y_73).length) c272), (2, pb2 b275), (4, pb2 b276), (6, i2 p0_0), (8, i2 p0_1), (10, i2 p0_2), (11, .pointer (some ⟨b275, 3, none⟩))] rfl ⟨rfl, rfl, rfl, rfl, rfl, rfl, rfl, trivial⟩ ?_
                  refine WO_loadB tbok 3 rfl rfl rfl rfl (fun _ h => h) rfl rfl ?_
                  refine WO_pure tbok 1 [(1, .slice a271 ((y_73).length) c272), (4, pb2 b276), (6, i2 p0_0), (8, i2 p0_1), (10, i2 p0_2), (12, i2 p0_3), (13, .pointer (some ⟨b275, 4, none⟩))] rfl ⟨rfl, rfl, rfl, rfl, rfl, rfl, rfl, trivial⟩ ?_
                  refine WO_loadB tbok 3 rfl rfl rfl rfl (fun _ h => h) rfl rfl ?_
                  refine WO_pure tbok 2 [(4, pb2 b276), (16, .agg #[i2 p0_0, i2 p0_1, i2 p0_2, i2 p0_3, i2 p0_4, .slice a271 ((y_73).length) c272])] rfl ⟨rfl, rfl, trivial⟩ ?_
                  refine WO_storeB tbok 4 [i2 p0_0, i2 p0_1, i2 p0_2, i2 p0_3, i2 p0_4, .slice a271 ((y_73).length) c272] rfl rfl rfl rfl rfl rfl rfl ?_
                  let B159 : Ent := ⟨b276, 25, [i2 p0_0, i2 p0_1, i2 p0_2, i2 p0_3, i2 p0_4, .slice a271 ((y_73).length) c272]⟩
                  refine WO.cls (C' := St w0 m m [[B1], [B156], L273, [B157], [B159]]) (fun _ h => h) ?_
                  refine WO_end ?_
                  refine WK_retI (RLc_cell tbok 4 rfl rfl rfl RLc_nil) (fun _ h => St.back (Ls := [[B1]]) (X := [[B156], L273, [B157], [B159]]) h (Le.refl _) (Le.refl _)) ?_
                  refine WO.cls (C' := St w0 m m [[B1], [B156], L273]) (fun _ h => St.take 3 h) ?_
                  refine WO_tree rfl ?_
                  refine WT_alt rfl ?_ ?_
                  · refine WO_call1 (slices_Clone_sint_Q y_73) rfl rfl St_closed rfl rfl rfl rfl ⟨23, #[], #[], rfl, callable_23, fun w hw => ⟨_, hw.sat, slices_Clone_sint_walk h_p0_5 hc270⟩⟩ (fun v280 L279 hq => ?_)
                    obtain ⟨a277, qa277, c278, rfl, hL279⟩ := hq
                    obtain rfl := OwnE.qlen hL279
                    refine WO.cls (C' := St w0 m m [[B1], [B156], L273, L279]) (fun _ h => h) ?_
                    refine WO_tree rfl ?_
                    refine WT_alt rfl ?_ ?_
                    · refine WO_inline rfl rfl rfl rfl rfl rfl callable_22 Try.func22 rfl rfl rfl ?_
                      refine WK.sub (e' := [(0, .agg #[i2 p0_0, i2 p0_1, i2 p0_2, i2 p0_3, i2 p0_4, .slice a_p0_5 p0_5.length c_p0_5]), (1, .slice a277 ((y_73).length) c278)]) ⟨rfl, rfl, trivial⟩ ?_
                      refine WK_seq ?_
                      refine WK_region ?_
                      refine WO_box [i2 p0_0, i2 p0_1, i2 p0_2, i2 p0_3, i2 p0_4, .slice a_p0_5 p0_5.length c_p0_5] rfl rfl trivial rfl rfl rfl (fun b281 => ?_)
                      let B160 : Ent := ⟨b281, 25, [i2 p0_0, i2 p0_1, i2 p0_2, i2 p0_3, i2 p0_4, .slice a_p0_5 p0_5.length c_p0_5]⟩
                      refine WO.cls (C' := St w0 m m [[B1], [B156], L273, L279, [B160]]) (fun _ h => h) ?_
                      refine WO_alloc tbok [i2 0, i2 0, i2 0, i2 0, i2 0, .slice none 0 0] rfl rfl trivial rfl rfl rfl rfl (fun b282 => ?_)
                      let B161 : Ent := ⟨b282, 25, [i2 0, i2 0, i2 0, i2 0, i2 0, .slice none 0 0]⟩
                      refine WO.cls (C' := St w0 m m [[B1], [B156], L273, L279, [B160], [B161]]) (fun _ h => h) ?_
                      refine WO_end ?_
                      refine WK_seq ?_
                      refine WK_region ?_
                      refine WO_pure tbok 1 [(1, .slice a277 ((y_73).length) c278), (2, pb2 b281), (4, pb2 b282), (5, pb2 b281)] rfl ⟨rfl, rfl, rfl, rfl, trivial⟩ ?_
                      refine WO_loadB tbok 4 rfl rfl rfl rfl (fun _ h => h) rfl rfl ?_
                      refine WO_pure tbok 1 [(1, .slice a277 ((y_73).length) c278), (2, pb2 b281), (4, pb2 b282), (6, i2 p0_0), (7, .pointer (some ⟨b281, 1, none⟩))] rfl ⟨rfl, rfl, rfl, rfl, rfl, trivial⟩ ?_
                      refine WO_loadB tbok 4 rfl rfl rfl rfl (fun _ h => h) rfl rfl ?_
                      refine WO_pure tbok 1 [(1, .slice a277 ((y_73).length) c278), (2, pb2 b281), (4, pb2 b282), (6, i2 p0_0), (8, i2 p0_1), (9, .pointer (some ⟨b281, 2, none⟩))] rfl ⟨rfl, rfl, rfl, rfl, rfl, rfl, trivial⟩ ?_
                      refine WO_loadB tbok 4 rfl rfl rfl rfl (fun _ h => h) rfl rfl ?_
                      refine WO_pure tbok 1 [(1, .slice a277 ((y_73).length) c278), (2, pb2 b281), (4, pb2 b282), (6, i2 p0_0), (8, i2 p0_1), (10, i2 p0_2), (11, .pointer (some ⟨b281, 3, none⟩))] rfl ⟨rfl, rfl, rfl, rfl, rfl, rfl, rfl, trivial⟩ ?_
                      refine WO_loadB tbok 4 rfl rfl rfl rfl (fun _ h => h) rfl rfl ?_
                      refine WO_pure tbok 1 [(1, .slice a277 ((y_73).length) c278), (4, pb2 b282), (6, i2 p0_0), (8, i2 p0_1), (10, i2 p0_2), (12, i2 p0_3), (13, .pointer (some ⟨b281, 4, none⟩))] rfl ⟨rfl, rfl, rfl, rfl, rfl, rfl, rfl, trivial⟩ ?_
                      refine WO_loadB tbok 4 rfl rfl rfl rfl (fun _ h => h) rfl rfl ?_
                      refine WO_pure tbok 2 [(4, pb2 b282), (16, .agg #[i2 p0_0, i2 p0_1, i2 p0_2, i2 p0_3, i2 p0_4, .slice a277 ((y_73).length) c278])] rfl ⟨rfl, rfl, trivial⟩ ?_
                      refine WO_storeB tbok 5 [i2 p0_0, i2 p0_1, i2 p0_2, i2 p0_3, i2 p0_4, .slice a277 ((y_73).length) c278] rfl rfl rfl rfl rfl rfl rfl ?_
                      let B162 : Ent := ⟨b282, 25, [i2 p0_0, i2 p0_1, i2 p0_2, i2 p0_3, i2 p0_4, .slice a277 ((y_73).length) c278]⟩
                      refine WO.cls (C' := St w0 m m [[B1], [B156], L273, L279, [B160], [B162]]) (fun _ h => h) ?_
                      refine WO_end ?_
                      refine WK_retI (RLc_cell tbok 5 rfl rfl rfl RLc_nil) (fun _ h => St.back (Ls := [[B1]]) (X := [[B156], L273, L279, [B160], [B162]]) h (Le.refl _) (Le.refl _)) ?_
                      refine WO.cls (C' := St w0 m m [[B1], [B156], L273, L279]) (fun _ h => St.take 4 h) ?_
                      refine WO_tree rfl ?_
                      refine WT_run ?_
                      refine WO_alloc tbok [i2 0, i2 0, i2 0, i2 0, i2 0, .slice none 0 0] rfl rfl St_closed rfl rfl rfl rfl (fun b283 => ?_)
                      let B163 : Ent := ⟨b283, 25, [i2 0, i2 0, i2 0, i2 0, i2 0, .slice none 0 0]⟩
                      refine WO.cls (C' := St w0 m m [[B1], [B156], L273, L279, [B163]]) (fun _ h => h) ?_
                      refine WO_tree rfl ?_
                      refine WT_fin ?_
                      refine WO_storeB tbok 1 [i2 p0_0, i2 p0_1, i2 p0_2, i2 p0_3, i2 p0_4, .slice a271 ((y_73).length) c272] rfl rfl rfl rfl rfl rfl rfl ?_
                      let B164 : Ent := ⟨b269, 25, [i2 p0_0, i2 p0_1, i2 p0_2, i2 p0_3, i2 p0_4, .slice a271 ((y_73).length) c272]⟩
                      refine WO.cls (C' := St w0 m m [[B1], [B164], L273, L279, [B163]]) (fun _ h => h) ?_
                      refine WO_storeB tbok 4 [i2 p0_0, i2 p0_1, i2 p0_2, i2 p0_3, i2 p0_4, .slice a277 ((y_73).length) c278] rfl rfl rfl rfl rfl rfl rfl ?_
                      let B165 : Ent := ⟨b283, 25, [i2 p0_0, i2 p0_1, i2 p0_2, i2 p0_3, i2 p0_4, .slice a277 ((y_73).length) c278]⟩
                      refine WO.cls (C' := St w0 m m [[B1], [B164], L273, L279, [B165]]) (fun _ h => h) ?_
                      refine WO_end ?_
                      refine WK.cls (fun _ h => h.perm (Ls' := [[B1], [B164], L273, [B165], L279]) (List.Perm.flatten (List.Perm.cons _ (List.Perm.cons _ (List.Perm.cons _ (List.Perm.swap _ _ _)))))) ?_
                      cases hx15
                      refine WK.sub ?_ (hk16 ⟨a271, c272, L273, a277, c278, L279, b269, b283⟩ ⟨hL273, hL279⟩)
                      exact ⟨rfl, rfl, rfl, rfl, rfl, rfl, trivial⟩
                    · refine WT_alt rfl ?_ ?_
                      · refine WO_alloc tbok [i2 0, i2 0, i2 0, i2 0, i2 0, .slice none 0 0] rfl rfl St_closed rfl rfl rfl rfl (fun b284 => ?_)
                        let B166 : Ent := ⟨b284, 25, [i2 0, i2 0, i2 0, i2 0, i2 0, .slice none 0 0]⟩
                        refine WO.cls (C' := St w0 m m [[B1], [B156], L273, L279, [B166]]) (fun _ h => h) ?_
                        refine WO_tree rfl ?_
                        refine WT_run ?_
                        refine WO_inline rfl rfl rfl rfl rfl rfl callable_22 Try.func22 rfl rfl rfl ?_
                        refine WK.sub (e' := [(0, .agg #[i2 p0_0, i2 p0_1, i2 p0_2, i2 p0_3, i2 p0_4, .slice a_p0_5 p0_5.length c_p0_5]), (1, .slice a277 ((y_73).length) c278)]) ⟨rfl, rfl, trivial⟩ ?_
                        refine WK_seq ?_
                        refine WK_region ?_
                        refine WO_box [i2 p0_0, i2 p0_1, i2 p0_2, i2 p0_3, i2 p0_4, .slice a_p0_5 p0_5.length c_p0_5] rfl rfl trivial rfl rfl rfl (fun b285 => ?_)
                        let B167 : Ent := ⟨b285, 25, [i2 p0_0, i2 p0_1, i2 p0_2, i2 p0_3, i2 p0_4, .slice a_p0_5 p0_5.length c_p0_5]⟩
                        refine WO.cls (C' := St w0 m m [[B1], [B156], L273, L279, [B166], [B167]]) (fun _ h => h) ?_
                        refine WO_alloc tbok [i2 0, i2 0, i2 0, i2 0, i2 0, .slice none 0 0] rfl rfl trivial rfl rfl rfl rfl (fun b286 => ?_)
                        let B168 : Ent := ⟨b286, 25, [i2 0, i2 0, i2 0, i2 0, i2 0, .slice none 0 0]⟩
                        refine WO.cls (C' := St w0 m m [[B1], [B156], L273, L279, [B166], [B167], [B168]]) (fun _ h => h) ?_
                        refine WO_end ?_
                        refine WK_seq ?_
                        refine WK_region ?_
                        refine WO_pure tbok 1 [(1, .slice a277 ((y_73).length) c278), (2, pb2 b285), (4, pb2 b286), (5, pb2 b285)] rfl ⟨rfl, rfl, rfl, rfl, trivial⟩ ?_
                        refine WO_loadB tbok 5 rfl rfl rfl rfl (fun _ h => h) rfl rfl ?_
                        refine WO_pure tbok 1 [(1, .slice a277 ((y_73).length) c278), (2, pb2 b285), (4, pb2 b286), (6, i2 p0_0), (7, .pointer (some ⟨b285, 1, none⟩))] rfl ⟨rfl, rfl, rfl, rfl, rfl, trivial⟩ ?_
                        refine WO_loadB tbok 5 rfl rfl rfl rfl (fun _ h => h) rfl rfl ?_
                        refine WO_pure tbok 1 [(1, .slice a277 ((y_73).length) c278), (2, pb2 b285), (4, pb2 b286), (6, i2 p0_0), (8, i2 p0_1), (9, .pointer (some ⟨b285, 2, none⟩))] rfl ⟨rfl, rfl, rfl, rfl, rfl, rfl, trivial⟩ ?_
                        refine WO_loadB tbok 5 rfl rfl rfl rfl (fun _ h => h) rfl rfl ?_
                        refine WO_pure tbok 1 [(1, .slice a277 ((y_73).length) c278), (2, pb2 b285), (4, pb2 b286), (6, i2 p0_0), (8, i2 p0_1), (10, i2 p0_2), (11, .pointer (some ⟨b285, 3, none⟩))] rfl ⟨rfl, rfl, rfl, rfl, rfl, rfl, rfl, trivial⟩ ?_
                        refine WO_loadB tbok 5 rfl rfl rfl rfl (fun _ h => h) rfl rfl ?_
                        refine WO_pure tbok 1 [(1, .slice a277 ((y_73).length) c278), (4, pb2 b286), (6, i2 p0_0), (8, i2 p0_1), (10, i2 p0_2), (12, i2 p0_3), (13, .pointer (some ⟨b285, 4, none⟩))] rfl ⟨rfl, rfl, rfl, rfl, rfl, rfl, rfl, trivial⟩ ?_
                        refine WO_loadB tbok 5 rfl rfl rfl rfl (fun _ h => h) rfl rfl ?_
                        refine WO_pure tbok 2 [(4, pb2 b286), (16, .agg #[i2 p0_0, i2 p0_1, i2 p0_2, i2 p0_3, i2 p0_4, .slice a277 ((y_73).length) c278])] rfl ⟨rfl, rfl, trivial⟩ ?_
                        refine WO_storeB tbok 6 [i2 p0_0, i2 p0_1, i2 p0_2, i2 p0_3, i2 p0_4, .slice a277 ((y_73).length) c278] rfl rfl rfl rfl rfl rfl rfl ?_
                        let B169 : Ent := ⟨b286, 25, [i2 p0_0, i2 p0_1, i2 p0_2, i2 p0_3, i2 p0_4, .slice a277 ((y_73).length) c278]⟩
                        refine WO.cls (C' := St w0 m m [[B1], [B156], L273, L279, [B166], [B167], [B169]]) (fun _ h => h) ?_
                        refine WO_end ?_
                        refine WK_retI (RLc_cell tbok 6 rfl rfl rfl RLc_nil) (fun _ h => St.back (Ls := [[B1]]) (X := [[B156], L273, L279, [B166], [B167], [B169]]) h (Le.refl _) (Le.refl _)) ?_
                        refine WO.cls (C' := St w0 m m [[B1], [B156], L273, L279, [B166]]) (fun _ h => St.take 5 h) ?_
                        refine WO_tree rfl ?_
                        refine WT_fin ?_
                        refine WO_storeB tbok 1 [i2 p0_0, i2 p0_1, i2 p0_2, i2 p0_3, i2 p0_4, .slice a271 ((y_73).length) c272] rfl rfl rfl rfl rfl rfl rfl ?_
                        let B170 : Ent := ⟨b269, 25, [i2 p0_0, i2 p0_1, i2 p0_2, i2 p0_3, i2 p0_4, .slice a271 ((y_73).length) c272]⟩
                        refine WO.cls (C' := St w0 m m [[B1], [B170], L273, L279, [B166]]) (fun _ h => h) ?_
                        refine WO_storeB tbok 4 [i2 p0_0, i2 p0_1, i2 p0_2, i2 p0_3, i2 p0_4, .slice a277 ((y_73).length) c278] rfl rfl rfl rfl rfl rfl rfl ?_
                        let B171 : Ent := ⟨b284, 25, [i2 p0_0, i2 p0_1, i2 p0_2, i2 p0_3, i2 p0_4, .slice a277 ((y_73).length) c278]⟩
                        refine WO.cls (C' := St w0 m m [[B1], [B170], L273, L279, [B171]]) (fun _ h => h) ?_
                        refine WO_end ?_
                        refine WK.cls (fun _ h => h.perm (Ls' := [[B1], [B170], L273, [B171], L279]) (List.Perm.flatten (List.Perm.cons _ (List.Perm.cons _ (List.Perm.cons _ (List.Perm.swap _ _ _)))))) ?_
                        cases hx15
                        refine WK.sub ?_ (hk16 ⟨a271, c272, L273, a277, c278, L279, b269, b284⟩ ⟨hL273, hL279⟩)
                        exact ⟨rfl, rfl, rfl, rfl, rfl, rfl, trivial⟩
                      · exact WT_none
                  · refine WT_alt rfl ?_ ?_
                    · refine WO_alloc tbok [i2 0, i2 0, i2 0, i2 0, i2 0, .slice none 0 0] rfl rfl St_closed rfl rfl rfl rfl (fun b287 => ?_)
                      let B172 : Ent := ⟨b287, 25, [i2 0, i2 0, i2 0, i2 0, i2 0, .slice none 0 0]⟩
                      refine WO.cls (C' := St w0 m m [[B1], [B156], L273, [B172]]) (fun _ h => h) ?_
                      refine WO_tree rfl ?_
                      refine WT_run ?_
                      refine WO_call1 (slices_Clone_sint_Q y_73) rfl rfl St_closed rfl rfl rfl rfl ⟨23, #[], #[], rfl, callable_23, fun w hw => ⟨_, hw.sat, slices_Clone_sint_walk h_p0_5 hc270⟩⟩ (fun v291 L290 hq => ?_)
                      obtain ⟨a288, qa288, c289, rfl, hL290⟩ := hq
                      obtain rfl := OwnE.qlen hL290
                      refine WO.cls (C' := St w0 m m [[B1], [B156], L273, [B172], L290]) (fun _ h => h) ?_
                      refine WO_inline rfl rfl rfl rfl rfl rfl callable_22 Try.func22 rfl rfl rfl ?_
                      refine WK.sub (e' := [(0, .agg #[i2 p0_0, i2 p0_1, i2 p0_2, i2 p0_3, i2 p0_4, .slice a_p0_5 p0_5.length c_p0_5]), (1, .slice a288 ((y_73).length) c289)]) ⟨rfl, rfl, trivial⟩ ?_
                      refine WK_seq ?_
                      refine WK_region ?_
                      refine WO_box [i2 p0_0, i2 p0_1, i2 p0_2, i2 p0_3, i2 p0_4, .slice a_p0_5 p0_5.length c_p0_5] rfl rfl trivial rfl rfl rfl (fun b292 => ?_)
                      let B173 : Ent := ⟨b292, 25, [i2 p0_0, i2 p0_1, i2 p0_2, i2 p0_3, i2 p0_4, .slice a_p0_5 p0_5.length c_p0_5]⟩
                      refine WO.cls (C' := St w0 m m [[B1], [B156], L273, [B172], L290, [B173]]) (fun _ h => h) ?_
                      refine WO_alloc tbok [i2 0, i2 0, i2 0, i2 0, i2 0, .slice none 0 0] rfl rfl trivial rfl rfl rfl rfl (fun b293 => ?_)
                      let B174 : Ent := ⟨b293, 25, [i2 0, i2 0, i2 0, i2 0, i2 0, .slice none 0 0]⟩
                      refine WO.cls (C' := St w0 m m [[B1], [B156], L273, [B172], L290, [B173], [B174]]) (fun _ h => h) ?_
                      refine WO_end ?_
                      refine WK_seq ?_
                      refine WK_region ?_
                      refine WO_pure tbok 1 [(1, .slice a288 ((y_73).length) c289), (2, pb2 b292), (4, pb2 b293), (5, pb2 b292)] rfl ⟨rfl, rfl, rfl, rfl, trivial⟩ ?_
                      refine WO_loadB tbok 5 rfl rfl rfl rfl (fun _ h => h) rfl rfl ?_
                      refine WO_pure tbok 1 [(1, .slice a288 ((y_73).length) c289), (2, pb2 b292), (4, pb2 b293), (6, i2 p0_0), (7, .pointer (some ⟨b292, 1, none⟩))] rfl ⟨rfl, rfl, rfl, rfl, rfl, trivial⟩ ?_
                      refine WO_loadB tbok 5 rfl rfl rfl rfl (fun _ h => h) rfl rfl ?_
                      refine WO_pure tbok 1 [(1, .slice a288 ((y_73).length) c289), (2, pb2 b292), (4, pb2 b293), (6, i2 p0_0), (8, i2 p0_1), (9, .pointer (some ⟨b292, 2, none⟩))] rfl ⟨rfl, rfl, rfl, rfl, rfl, rfl, trivial⟩ ?_
                      refine WO_loadB tbok 5 rfl rfl rfl rfl (fun _ h => h) rfl rfl ?_
                      refine WO_pure tbok 1 [(1, .slice a288 ((y_73).length) c289), (2, pb2 b292), (4, pb2 b293), (6, i2 p0_0), (8, i2 p0_1), (10, i2 p0_2), (11, .pointer (some ⟨b292, 3, none⟩))] rfl ⟨rfl, rfl, rfl, rfl, rfl, rfl, rfl, trivial⟩ ?_
                      refine WO_loadB tbok 5 rfl rfl rfl rfl (fun _ h => h) rfl rfl ?_
                      refine WO_pure tbok 1 [(1, .slice a288 ((y_73).length) c289), (4, pb2 b293), (6, i2 p0_0), (8, i2 p0_1), (10, i2 p0_2), (12, i2 p0_3), (13, .pointer (some ⟨b292, 4, none⟩))] rfl ⟨rfl, rfl, rfl, rfl, rfl, rfl, rfl, trivial⟩ ?_
                      refine WO_loadB tbok 5 rfl rfl rfl rfl (fun _ h => h) rfl rfl ?_
                      refine WO_pure tbok 2 [(4, pb2 b293), (16, .agg #[i2 p0_0, i2 p0_1, i2 p0_2, i2 p0_3, i2 p0_4, .slice a288 ((y_73).length) c289])] rfl ⟨rfl, rfl, trivial⟩ ?_
                      refine WO_storeB tbok 6 [i2 p0_0, i2 p0_1, i2 p0_2, i2 p0_3, i2 p0_4, .slice a288 ((y_73).length) c289] rfl rfl rfl rfl rfl rfl rfl ?_
                      let B175 : Ent := ⟨b293, 25, [i2 p0_0, i2 p0_1, i2 p0_2, i2 p0_3, i2 p0_4, .slice a288 ((y_73).length) c289]⟩
                      refine WO.cls (C' := St w0 m m [[B1], [B156], L273, [B172], L290, [B173], [B175]]) (fun _ h => h) ?_
                      refine WO_end ?_
                      refine WK_retI (RLc_cell tbok 6 rfl rfl rfl RLc_nil) (fun _ h => St.back (Ls := [[B1]]) (X := [[B156], L273, [B172], L290, [B173], [B175]]) h (Le.refl _) (Le.refl _)) ?_
                      refine WO.cls (C' := St w0 m m [[B1], [B156], L273, [B172], L290]) (fun _ h => St.take 5 h) ?_
                      refine WO_tree rfl ?_
                      refine WT_fin ?_
                      refine WO_storeB tbok 1 [i2 p0_0, i2 p0_1, i2 p0_2, i2 p0_3, i2 p0_4, .slice a271 ((y_73).length) c272] rfl rfl rfl rfl rfl rfl rfl ?_
                      let B176 : Ent := ⟨b269, 25, [i2 p0_0, i2 p0_1, i2 p0_2, i2 p0_3, i2 p0_4, .slice a271 ((y_73).length) c272]⟩
                      refine WO.cls (C' := St w0 m m [[B1], [B176], L273, [B172], L290]) (fun _ h => h) ?_
                      refine WO_storeB tbok 3 [i2 p0_0, i2 p0_1, i2 p0_2, i2 p0_3, i2 p0_4, .slice a288 ((y_73).length) c289] rfl rfl rfl rfl rfl rfl rfl ?_
                      let B177 : Ent := ⟨b287, 25, [i2 p0_0, i2 p0_1, i2 p0_2, i2 p0_3, i2 p0_4, .slice a288 ((y_73).length) c289]⟩
                      refine WO.cls (C' := St w0 m m [[B1], [B176], L273, [B177], L290]) (fun _ h => h) ?_
                      refine WO_end ?_
                      cases hx15
                      refine WK.sub ?_ (hk16 ⟨a271, c272, L273, a288, c289, L290, b269, b287⟩ ⟨hL273, hL290⟩)
                      exact ⟨rfl, rfl, rfl, rfl, rfl, rfl, trivial⟩
                    · exact WT_none
                · refine WT_alt rfl ?_ ?_
                  · refine WO_alloc tbok [i2 0, i2 0, i2 0, i2 0, i2 0, .slice none 0 0] rfl rfl St_closed rfl rfl rfl rfl (fun b294 => ?_)
                    let B178 : Ent := ⟨b294, 25, [i2 0, i2 0, i2 0, i2 0, i2 0, .slice none 0 0]⟩
                    refine WO.cls (C' := St w0 m m [[B1], [B156], L273, [B178]]) (fun _ h => h) ?_
                    refine WO_tree rfl ?_
                    refine WT_run ?_
                    refine WO_inline rfl rfl rfl rfl rfl rfl callable_22 Try.func22 rfl rfl rfl ?_
                    refine WK.sub (e' := [(0, .agg #[i2 p0_0, i2 p0_1, i2 p0_2, i2 p0_3, i2 p0_4, .slice a_p0_5 p0_5.length c_p0_5]), (1, .slice a271 ((y_73).length) c272)]) ⟨rfl, rfl, trivial⟩ ?_
                    refine WK_seq ?_
                    refine WK_region ?_
                    refine WO_box [i2 p0_0, i2 p0_1, i2 p0_2, i2 p0_3, i2 p0_4, .slice a_p0_5 p0_5.length c_p0_5] rfl rfl trivial rfl rfl rfl (fun b295 => ?_)
                    let B179 : Ent := ⟨b295, 25, [i2 p0_0, i2 p0_1, i2 p0_2, i2 p0_3, i2 p0_4, .slice a_p0_5 p0_5.length c_p0_5]⟩
                    refine WO.cls (C' := St w0 m m [[B1], [B156], L273, [B178], [B179]]) (fun _ h => h) ?_
                    refine WO_alloc tbok [i2 0, i2 0, i2 0, i2 0, i2 0, .slice none 0 0] rfl rfl trivial rfl rfl rfl rfl (fun b296 => ?_)
                    let B180 : Ent := ⟨b296, 25, [i2 0, i2 0, i2 0, i2 0, i2 0, .slice none 0 0]⟩
                    refine WO.cls (C' := St w0 m m [[B1], [B156], L273, [B178], [B179], [B180]]) (fun _ h => h) ?_
                    refine WO_end ?_
                    refine WK_seq ?_
                    refine WK_region ?_
                    refine WO_pure tbok 1 [(1, .slice a271 ((y_73).length) c272), (2, pb2 b295), (4, pb2 b296), (5, pb2 b295)] rfl ⟨rfl, rfl, rfl, rfl, trivial⟩ ?_
                    refine WO_loadB tbok 4 rfl rfl rfl rfl (fun _ h => h) rfl rfl ?_
                    refine WO_pure tbok 1 [(1, .slice a271 ((y_73).length) c272), (2, pb2 b295), (4, pb2 b296), (6, i2 p0_0), (7, .pointer (some ⟨b295, 1, none⟩))] rfl ⟨rfl, rfl, rfl, rfl, rfl, trivial⟩ ?_
                    refine WO_loadB tbok 4 rfl rfl rfl rfl (fun _ h => h) rfl rfl ?_
                    refine WO_pure tbok 1 [(1, .slice a271 ((y_73).length) c272), (2, pb2 b295), (4, pb2 b296), (6, i2 p0_0), (8, i2 p0_1), (9, .pointer (some ⟨b295, 2, none⟩))] rfl ⟨rfl, rfl, rfl, rfl, rfl, rfl, trivial⟩ ?_
                    refine WO_loadB tbok 4 rfl rfl rfl rfl (fun _ h => h) rfl rfl ?_
                    refine WO_pure tbok 1 [(1, .slice a271 ((y_73).length) c272), (2, pb2 b295), (4, pb2 b296), (6, i2 p0_0), (8, i2 p0_1), (10, i2 p0_2), (11, .pointer (some ⟨b295, 3, none⟩))] rfl ⟨rfl, rfl, rfl, rfl, rfl, rfl, rfl, trivial⟩ ?_
                    refine WO_loadB tbok 4 rfl rfl rfl rfl (fun _ h => h) rfl rfl ?_
                    refine WO_pure tbok 1 [(1, .slice a271 ((y_73).length) c272), (4, pb2 b296), (6, i2 p0_0), (8, i2 p0_1), (10, i2 p0_2), (12, i2 p0_3), (13, .pointer (some ⟨b295, 4, none⟩))] rfl ⟨rfl, rfl, rfl, rfl, rfl, rfl, rfl, trivial⟩ ?_
                    refine WO_loadB tbok 4 rfl rfl rfl rfl (fun _ h => h) rfl rfl ?_
                    refine WO_pure tbok 2 [(4, pb2 b296), (16, .agg #[i2 p0_0, i2 p0_1, i2 p0_2, i2 p0_3, i2 p0_4, .slice a271 ((y_73).length) c272])] rfl ⟨rfl, rfl, trivial⟩ ?_
                    refine WO_storeB tbok 5 [i2 p0_0, i2 p0_1, i2 p0_2, i2 p0_3, i2 p0_4, .slice a271 ((y_73).length) c272] rfl rfl rfl rfl rfl rfl rfl ?_
                    let B181 : Ent := ⟨b296, 25, [i2 p0_0, i2 p0_1, i2 p0_2, i2 p0_3, i2 p0_4, .slice a271 ((y_73).length) c272]⟩
                    refine WO.cls (C' := St w0 m m [[B1], [B156], L273, [B178], [B179], [B181]]) (fun _ h => h) ?_
                    refine WO_end ?_
                    refine WK_retI (RLc_cell tbok 5 rfl rfl rfl RLc_nil) (fun _ h => St.back (Ls := [[B1]]) (X := [[B156], L273, [B178], [B179], [B181]]) h (Le.refl _) (Le.refl _)) ?_
                    refine WO.cls (C' := St w0 m m [[B1], [B156], L273, [B178]]) (fun _ h => St.take 4 h) ?_
                    refine WO_call1 (slices_Clone_sint_Q y_73) rfl rfl St_closed rfl rfl rfl rfl ⟨23, #[], #[], rfl, callable_23, fun w hw => ⟨_, hw.sat, slices_Clone_sint_walk h_p0_5 hc270⟩⟩ (fun v300 L299 hq => ?_)
                    obtain ⟨a297, qa297, c298, rfl, hL299⟩ := hq
                    obtain rfl := OwnE.qlen hL299
                    refine WO.cls (C' := St w0 m m [[B1], [B156], L273, [B178], L299]) (fun _ h => h) ?_
                    refine WO_inline rfl rfl rfl rfl rfl rfl callable_22 Try.func22 rfl rfl rfl ?_
                    refine WK.sub (e' := [(0, .agg #[i2 p0_0, i2 p0_1, i2 p0_2, i2 p0_3, i2 p0_4, .slice a_p0_5 p0_5.length c_p0_5]), (1, .slice a297 ((y_73).length) c298)]) ⟨rfl, rfl, trivial⟩ ?_
                    refine WK_seq ?_
                    refine WK_region ?_
                    refine WO_box [i2 p0_0, i2 p0_1, i2 p0_2, i2 p0_3, i2 p0_4, .slice a_p0_5 p0_5.length c_p0_5] rfl rfl trivial rfl rfl rfl (fun b301 => ?_)
                    let B182 : Ent := ⟨b301, 25, [i2 p0_0, i2 p0_1, i2 p0_2, i2 p0_3, i2 p0_4, .slice a_p0_5 p0_5.length c_p0_5]⟩
                    refine WO.cls (C' := St w0 m m [[B1], [B156], L273, [B178], L299, [B182]]) (fun _ h => h) ?_
                    refine WO_alloc tbok [i2 0, i2 0, i2 0, i2 0, i2 0, .slice none 0 0] rfl rfl trivial rfl rfl rfl rfl (fun b302 => ?_)
                    let B183 : Ent := ⟨b302, 25, [i2 0, i2 0, i2 0, i2 0, i2 0, .slice none 0 0]⟩
                    refine WO.cls (C' := St w0 m m [[B1], [B156], L273, [B178], L299, [B182], [B183]]) (fun _ h => h) ?_
                    refine WO_end ?_
                    refine WK_seq ?_
                    refine WK_region ?_
                    refine WO_pure tbok 1 [(1, .slice a297 ((y_73).length) c298), (2, pb2 b301), (4, pb2 b302), (5, pb2 b301)] rfl ⟨rfl, rfl, rfl, rfl, trivial⟩ ?_
                    refine WO_loadB tbok 5 rfl rfl rfl rfl (fun _ h => h) rfl rfl ?_
                    refine WO_pure tbok 1 [(1, .slice a297 ((y_73).length) c298), (2, pb2 b301), (4, pb2 b302), (6, i2 p0_0), (7, .pointer (some ⟨b301, 1, none⟩))] rfl ⟨rfl, rfl, rfl, rfl, rfl, trivial⟩ ?_
                    refine WO_loadB tbok 5 rfl rfl rfl rfl (fun _ h => h) rfl rfl ?_
                    refine WO_pure tbok 1 [(1, .slice a297 ((y_73).length) c298), (2, pb2 b301), (4, pb2 b302), (6, i2 p0_0), (8, i2 p0_1), (9, .pointer (some ⟨b301, 2, none⟩))] rfl ⟨rfl, rfl, rfl, rfl, rfl, rfl, trivial⟩ ?_
                    refine WO_loadB tbok 5 rfl rfl rfl rfl (fun _ h => h) rfl rfl ?_
                    refine WO_pure tbok 1 [(1, .slice a297 ((y_73).length) c298), (2, pb2 b301), (4, pb2 b302), (6, i2 p0_0), (8, i2 p0_1), (10, i2 p0_2), (11, .pointer (some ⟨b301, 3, none⟩))] rfl ⟨rfl, rfl, rfl, rfl, rfl, rfl, rfl, trivial⟩ ?_
                    refine WO_loadB tbok 5 rfl rfl rfl rfl (fun _ h => h) rfl rfl ?_
                    refine WO_pure tbok 1 [(1, .slice a297 ((y_73).length) c298), (4, pb2 b302), (6, i2 p0_0), (8, i2 p0_1), (10, i2 p0_2), (12, i2 p0_3), (13, .pointer (some ⟨b301, 4, none⟩))] rfl ⟨rfl, rfl, rfl, rfl, rfl, rfl, rfl, trivial⟩ ?_
                    refine WO_loadB tbok 5 rfl rfl rfl rfl (fun _ h => h) rfl rfl ?_
                    refine WO_pure tbok 2 [(4, pb2 b302), (16, .agg #[i2 p0_0, i2 p0_1, i2 p0_2, i2 p0_3, i2 p0_4, .slice a297 ((y_73).length) c298])] rfl ⟨rfl, rfl, trivial⟩ ?_
                    refine WO_storeB tbok 6 [i2 p0_0, i2 p0_1, i2 p0_2, i2 p0_3, i2 p0_4, .slice a297 ((y_73).length) c298] rfl rfl rfl rfl rfl rfl rfl ?_
                    let B184 : Ent := ⟨b302, 25, [i2 p0_0, i2 p0_1, i2 p0_2, i2 p0_3, i2 p0_4, .slice a297 ((y_73).length) c298]⟩
                    refine WO.cls (C' := St w0 m m [[B1], [B156], L273, [B178], L299, [B182], [B184]]) (fun _ h => h) ?_
                    refine WO_end ?_
                    refine WK_retI (RLc_cell tbok 6 rfl rfl rfl RLc_nil) (fun _ h => St.back (Ls := [[B1]]) (X := [[B156], L273, [B178], L299, [B182], [B184]]) h (Le.refl _) (Le.refl _)) ?_
                    refine WO.cls (C' := St w0 m m [[B1], [B156], L273, [B178], L299]) (fun _ h => St.take 5 h) ?_
                    refine WO_tree rfl ?_
                    refine WT_fin ?_
                    refine WO_storeB tbok 1 [i2 p0_0, i2 p0_1, i2 p0_2, i2 p0_3, i2 p0_4, .slice a271 ((y_73).length) c272] rfl rfl rfl rfl rfl rfl rfl ?_
                    let B185 : Ent := ⟨b269, 25, [i2 p0_0, i2 p0_1, i2 p0_2, i2 p0_3, i2 p0_4, .slice a271 ((y_73).length) c272]⟩
                    refine WO.cls (C' := St w0 m m [[B1], [B185], L273, [B178], L299]) (fun _ h => h) ?_
                    refine WO_storeB tbok 3 [i2 p0_0, i2 p0_1, i2 p0_2, i2 p0_3, i2 p0_4, .slice a297 ((y_73).length) c298] rfl rfl rfl rfl rfl rfl rfl ?_
                    let B186 : Ent := ⟨b294, 25, [i2 p0_0, i2 p0_1, i2 p0_2, i2 p0_3, i2 p0_4, .slice a297 ((y_73).length) c298]⟩
                    refine WO.cls (C' := St w0 m m [[B1], [B185], L273, [B186], L299]) (fun _ h => h) ?_
                    refine WO_end ?_
                    cases hx15
                    refine WK.sub ?_ (hk16 ⟨a271, c272, L273, a297, c298, L299, b269, b294⟩ ⟨hL273, hL299⟩)
                    exact ⟨rfl, rfl, rfl, rfl, rfl, rfl, trivial⟩
                  · exact WT_none
              · refine WT_alt rfl ?_ ?_
                · refine WO_alloc tbok [i2 0, i2 0, i2 0, i2 0, i2 0, .slice none 0 0] rfl rfl St_closed rfl rfl rfl rfl (fun b303 => ?_)
                  let B187 : Ent := ⟨b303, 25, [i2 0, i2 0, i2 0, i2 0, i2 0, .slice none 0 0]⟩
                  refine WO.cls (C' := St w0 m m [[B1], [B156], [B187]]) (fun _ h => h) ?_
                  refine WO_tree rfl ?_
                  refine WT_run ?_
                  obtain ⟨y_73, hc304, hx15⟩ := bind_some hx15
                  refine WO_call1 (slices_Clone_sint_Q y_73) rfl rfl St_closed rfl rfl rfl rfl ⟨23, #[], #[], rfl, callable_23, fun w hw => ⟨_, hw.sat, slices_Clone_sint_walk h_p0_5 hc304⟩⟩ (fun v308 L307 hq => ?_)
                  obtain ⟨a305, qa305, c306, rfl, hL307⟩ := hq
                  obtain rfl := OwnE.qlen hL307
                  refine WO.cls (C' := St w0 m m [[B1], [B156], [B187], L307]) (fun _ h => h) ?_
                  refine WO_inline rfl rfl rfl rfl rfl rfl callable_22 Try.func22 rfl rfl rfl ?_
                  refine WK.sub (e' := [(0, .agg #[i2 p0_0, i2 p0_1, i2 p0_2, i2 p0_3, i2 p0_4, .slice a_p0_5 p0_5.length c_p0_5]), (1, .slice a305 ((y_73).length) c306)]) ⟨rfl, rfl, trivial⟩ ?_
                  refine WK_seq ?_
                  refine WK_region ?_
                  refine WO_box [i2 p0_0, i2 p0_1, i2 p0_2, i2 p0_3, i2 p0_4, .slice a_p0_5 p0_5.length c_p0_5] rfl rfl trivial rfl rfl rfl (fun b309 => ?_)
                  let B188 : Ent := ⟨b309, 25, [i2 p0_0, i2 p0_1, i2 p0_2, i2 p0_3, i2 p0_4, .slice a_p0_5 p0_5.length c_p0_5]⟩
                  refine WO.cls (C' := St w0 m m [[B1], [B156], [B187], L307, [B188]]) (fun _ h => h) ?_
                  refine WO_alloc tbok [i2 0, i2 0, i2 0, i2 0, i2 0, .slice none 0 0] rfl rfl trivial rfl rfl rfl rfl (fun b310 => ?_)
                  let B189 : Ent := ⟨b310, 25, [i2 0, i2 0, i2 0, i2 0, i2 0, .slice none 0 0]⟩
                  refine WO.cls (C' := St w0 m m [[B1], [B156], [B187], L307, [B188], [B189]]) (fun _ h => h) ?_
                  refine WO_end ?_
                  refine WK_seq ?_
                  refine WK_region ?_
                  refine WO_pure tbok 1 [(1, .slice a305 ((y_73).length) c306), (2, pb2 b309), (4, pb2 b310), (5, pb2 b309)] rfl ⟨rfl, rfl, rfl, rfl, trivial⟩ ?_
                  refine WO_loadB tbok 4 rfl rfl rfl rfl (fun _ h => h) rfl rfl ?_
                  refine WO_pure tbok 1 [(1, .slice a305 ((y_73).length) c306), (2, pb2 b309), (4, pb2 b310), (6, i2 p0_0), (7, .pointer (some ⟨b309, 1, none⟩))] rfl ⟨rfl, rfl, rfl, rfl, rfl, trivial⟩ ?_
                  refine WO_loadB tbok 4 rfl rfl rfl rfl (fun _ h => h) rfl rfl ?_
                  refine WO_pure tbok 1 [(1, .slice a305 ((y_73).length) c306), (2, pb2 b309), (4, pb2 b310), (6, i2 p0_0), (8, i2 p0_1), (9, .pointer (some ⟨b309, 2, none⟩))] rfl ⟨rfl, rfl, rfl, rfl, rfl, rfl, trivial⟩ ?_
                  refine WO_loadB tbok 4 rfl rfl rfl rfl (fun _ h => h) rfl rfl ?_
                  refine WO_pure tbok 1 [(1, .slice a305 ((y_73).length) c306), (2, pb2 b309), (4, pb2 b310), (6, i2 p0_0), (8, i2 p0_1), (10, i2 p0_2), (11, .pointer (some ⟨b309, 3, none⟩))] rfl ⟨rfl, rfl, rfl, rfl, rfl, rfl, rfl, trivial⟩ ?_
                  refine WO_loadB tbok 4 rfl rfl rfl rfl (fun _ h => h) rfl rfl ?_
                  refine WO_pure tbok 1 [(1, .slice a305 ((y_73).length) c306), (4, pb2 b310), (6, i2 p0_0), (8, i2 p0_1), (10, i2 p0_2), (12, i2 p0_3), (13, .pointer (some ⟨b309, 4, none⟩))] rfl ⟨rfl, rfl, rfl, rfl, rfl, rfl, rfl, trivial⟩ ?_
                  refine WO_loadB tbok 4 rfl rfl rfl rfl (fun _ h => h) rfl rfl ?_
                  refine WO_pure tbok 2 [(4, pb2 b310), (16, .agg #[i2 p0_0, i2 p0_1, i2 p0_2, i2 p0_3, i2 p0_4, .slice a305 ((y_73).length) c306])] rfl ⟨rfl, rfl, trivial⟩ ?_
                  refine WO_storeB tbok 5 [i2 p0_0, i2 p0_1, i2 p0_2, i2 p0_3, i2 p0_4, .slice a305 ((y_73).length) c306] rfl rfl rfl rfl rfl rfl rfl ?_
                  let B190 : Ent := ⟨b310, 25, [i2 p0_0, i2 p0_1, i2 p0_2, i2 p0_3, i2 p0_4, .slice a305 ((y_73).length) c306]⟩
                  refine WO.cls (C' := St w0 m m [[B1], [B156], [B187], L307, [B188], [B190]]) (fun _ h => h) ?_
                  refine WO_end ?_
                  refine WK_retI (RLc_cell tbok 5 rfl rfl rfl RLc_nil) (fun _ h => St.back (Ls := [[B1]]) (X := [[B156], [B187], L307, [B188], [B190]]) h (Le.refl _) (Le.refl _)) ?_
                  refine WO.cls (C' := St w0 m m [[B1], [B156], [B187], L307]) (fun _ h => St.take 4 h) ?_
                  refine WO_call1 (slices_Clone_sint_Q y_73) rfl rfl St_closed rfl rfl rfl rfl ⟨23, #[], #[], rfl, callable_23, fun w hw => ⟨_, hw.sat, slices_Clone_sint_walk h_p0_5 hc304⟩⟩ (fun v314 L313 hq => ?_)
                  obtain ⟨a311, qa311, c312, rfl, hL313⟩ := hq
                  obtain rfl := OwnE.qlen hL313
                  refine WO.cls (C' := St w0 m m [[B1], [B156], [B187], L307, L313]) (fun _ h => h) ?_
                  refine WO_inline rfl rfl rfl rfl rfl rfl callable_22 Try.func22 rfl rfl rfl ?_
                  refine WK.sub (e' := [(0, .agg #[i2 p0_0, i2 p0_1, i2 p0_2, i2 p0_3, i2 p0_4, .slice a_p0_5 p0_5.length c_p0_5]), (1, .slice a311 ((y_73).length) c312)]) ⟨rfl, rfl, trivial⟩ ?_
                  refine WK_seq ?_
                  refine WK_region ?_
                  refine WO_box [i2 p0_0, i2 p0_1, i2 p0_2, i2 p0_3, i2 p0_4, .slice a_p0_5 p0_5.length c_p0_5] rfl rfl trivial rfl rfl rfl (fun b315 => ?_)
                  let B191 : Ent := ⟨b315, 25, [i2 p0_0, i2 p0_1, i2 p0_2, i2 p0_3, i2 p0_4, .slice a_p0_5 p0_5.length c_p0_5]⟩
                  refine WO.cls (C' := St w0 m m [[B1], [B156], [B187], L307, L313, [B191]]) (fun _ h => h) ?_
                  refine WO_alloc tbok [i2 0, i2 0, i2 0, i2 0, i2 0, .slice none 0 0] rfl rfl trivial rfl rfl rfl rfl (fun b316 => ?_)
                  let B192 : Ent := ⟨b316, 25, [i2 0, i2 0, i2 0, i2 0, i2 0, .slice none 0 0]⟩
                  refine WO.cls (C' := St w0 m m [[B1], [B156], [B187], L307, L313, [B191], [B192]]) (fun _ h => h) ?_
                  refine WO_end ?_
                  refine WK_seq ?_
                  refine WK_region ?_
                  refine WO_pure tbok 1 [(1, .slice a311 ((y_73).length) c312), (2, pb2 b315), (4, pb2 b316), (5, pb2 b315)] rfl ⟨rfl, rfl, rfl, rfl, trivial⟩ ?_
                  refine WO_loadB tbok 5 rfl rfl rfl rfl (fun _ h => h) rfl rfl ?_
                  refine WO_pure tbok 1 [(1, .slice a311 ((y_73).length) c312), (2, pb2 b315), (4, pb2 b316), (6, i2 p0_0), (7, .pointer (some ⟨b315, 1, none⟩))] rfl ⟨rfl, rfl, rfl, rfl, rfl, trivial⟩ ?_
                  refine WO_loadB tbok 5 rfl rfl rfl rfl (fun _ h => h) rfl rfl ?_
                  refine WO_pure tbok 1 [(1, .slice a311 ((y_73).length) c312), (2, pb2 b315), (4, pb2 b316), (6, i2 p0_0), (8, i2 p0_1), (9, .pointer (some ⟨b315, 2, none⟩))] rfl ⟨rfl, rfl, rfl, rfl, rfl, rfl, trivial⟩ ?_
                  refine WO_loadB tbok 5 rfl rfl rfl rfl (fun _ h => h) rfl rfl ?_
                  refine WO_pure tbok 1 [(1, .slice a311 ((y_73).length) c312), (2, pb2 b315), (4, pb2 b316), (6, i2 p0_0), (8, i2 p0_1), (10, i2 p0_2), (11, .pointer (some ⟨b315, 3, none⟩))] rfl ⟨rfl, rfl, rfl, rfl, rfl, rfl, rfl, trivial⟩ ?_
                  refine WO_loadB tbok 5 rfl rfl rfl rfl (fun _ h => h) rfl rfl ?_
                  refine WO_pure tbok 1 [(1, .slice a311 ((y_73).length) c312), (4, pb2 b316), (6, i2 p0_0), (8, i2 p0_1), (10, i2 p0_2), (12, i2 p0_3), (13, .pointer (some ⟨b315, 4, none⟩))] rfl ⟨rfl, rfl, rfl, rfl, rfl, rfl, rfl, trivial⟩ ?_
                  refine WO_loadB tbok 5 rfl rfl rfl rfl (fun _ h => h) rfl rfl ?_
                  refine WO_pure tbok 2 [(4, pb2 b316), (16, .agg #[i2 p0_0, i2 p0_1, i2 p0_2, i2 p0_3, i2 p0_4, .slice a311 ((y_73).length) c312])] rfl ⟨rfl, rfl, trivial⟩ ?_
                  refine WO_storeB tbok 6 [i2 p0_0, i2 p0_1, i2 p0_2, i2 p0_3, i2 p0_4, .slice a311 ((y_73).length) c312] rfl rfl rfl rfl rfl rfl rfl ?_
                  let B193 : Ent := ⟨b316, 25, [i2 p0_0, i2 p0_1, i2 p0_2, i2 p0_3, i2 p0_4, .slice a311 ((y_73).length) c312]⟩
                  refine WO.cls (C' := St w0 m m [[B1], [B156], [B187], L307, L313, [B191], [B193]]) (fun _ h => h) ?_
                  refine WO_end ?_
                  refine WK_retI (RLc_cell tbok 6 rfl rfl rfl RLc_nil) (fun _ h => St.back (Ls := [[B1]]) (X := [[B156], [B187], L307, L313, [B191], [B193]]) h (Le.refl _) (Le.refl _)) ?_
                  refine WO.cls (C' := St w0 m m [[B1], [B156], [B187], L307, L313]) (fun _ h => St.take 5 h) ?_
                  refine WO_tree rfl ?_
                  refine WT_fin ?_
                  refine WO_storeB tbok 1 [i2 p0_0, i2 p0_1, i2 p0_2, i2 p0_3, i2 p0_4, .slice a305 ((y_73).length) c306] rfl rfl rfl rfl rfl rfl rfl ?_
                  let B194 : Ent := ⟨b269, 25, [i2 p0_0, i2 p0_1, i2 p0_2, i2 p0_3, i2 p0_4, .slice a305 ((y_73).length) c306]⟩
                  refine WO.cls (C' := St w0 m m [[B1], [B194], [B187], L307, L313]) (fun _ h => h) ?_
                  refine WO_storeB tbok 2 [i2 p0_0, i2 p0_1, i2 p0_2, i2 p0_3, i2 p0_4, .slice a311 ((y_73).length) c312] rfl rfl rfl rfl rfl rfl rfl ?_
                  let B195 : Ent := ⟨b303, 25, [i2 p0_0, i2 p0_1, i2 p0_2, i2 p0_3, i2 p0_4, .slice a311 ((y_73).length) c312]⟩
                  refine WO.cls (C' := St w0 m m [[B1], [B194], [B195], L307, L313]) (fun _ h => h) ?_
                  refine WO_end ?_
                  refine WK.cls (fun _ h => h.perm (Ls' := [[B1], [B194], L307, [B195], L313]) (List.Perm.flatten (List.Perm.cons _ (List.Perm.cons _ (List.Perm.swap _ _ _))))) ?_
                  cases hx15
                  refine WK.sub ?_ (hk16 ⟨a305, c306, L307, a311, c312, L313, b269, b303⟩ ⟨hL307, hL313⟩)
                  exact ⟨rfl, rfl, rfl, rfl, rfl, rfl, trivial⟩
                · exact WT_none
            · refine WT_alt rfl ?_ ?_
              · refine WO_alloc tbok [i2 0, i2 0, i2 0, i2 0, i2 0, .slice none 0 0] rfl rfl St_closed rfl rfl rfl rfl (fun b317 => ?_)
                let B196 : Ent := ⟨b317, 25, [i2 0, i2 0, i2 0, i2 0, i2 0, .slice none 0 0]⟩
                refine WO.cls (C' := St w0 m m [[B1], [B196]]) (fun _ h => h) ?_
                refine WO_tree rfl ?_
                refine WT_alt rfl ?_ ?_
                · obtain ⟨y_73, hc318, hx15⟩ := bind_some hx15
                  refine WO_call1 (slices_Clone_sint_Q y_73) rfl rfl St_closed rfl rfl rfl rfl ⟨23, #[], #[], rfl, callable_23, fun w hw => ⟨_, hw.sat, slices_Clone_sint_walk h_p0_5 hc318⟩⟩ (fun v322 L321 hq => ?_)
                  obtain ⟨a319, qa319, c320, rfl, hL321⟩ := hq
                  obtain rfl := OwnE.qlen hL321
                  refine WO.cls (C' := St w0 m m [[B1], [B196], L321]) (fun _ h => h) ?_
                  refine WO_tree rfl ?_
                  refine WT_alt rfl ?_ ?_
                  · refine WO_inline rfl rfl rfl rfl rfl rfl callable_22 Try.func22 rfl rfl rfl ?_
                    refine WK.sub (e' := [(0, .agg #[i2 p0_0, i2 p0_1, i2 p0_2, i2 p0_3, i2 p0_4, .slice a_p0_5 p0_5.length c_p0_5]), (1, .slice a319 ((y_73).length) c320)]) ⟨rfl, rfl, trivial⟩ ?_
                    refine WK_seq ?_
                    refine WK_region ?_
                    refine WO_box [i2 p0_0, i2 p0_1, i2 p0_2, i2 p0_3, i2 p0_4, .slice a_p0_5 p0_5.length c_p0_5] rfl rfl trivial rfl rfl rfl (fun b323 => ?_)
                    let B197 : Ent := ⟨b323, 25, [i2 p0_0, i2 p0_1, i2 p0_2, i2 p0_3, i2 p0_4, .slice a_p0_5 p0_5.length c_p0_5]⟩
                    refine WO.cls (C' := St w0 m m [[B1], [B196], L321, [B197]]) (fun _ h => h) ?_
                    refine WO_alloc tbok [i2 0, i2 0, i2 0, i2 0, i2 0, .slice none 0 0] rfl rfl trivial rfl rfl rfl rfl (fun b324 => ?_)
                    let B198 : Ent := ⟨b324, 25, [i2 0, i2 0, i2 0, i2 0, i2 0, .slice none 0 0]⟩
                    refine WO.cls (C' := St w0 m m [[B1], [B196], L321, [B197], [B198]]) (fun _ h => h) ?_
                    refine WO_end ?_
                    refine WK_seq ?_
                    refine WK_region ?_
                    refine WO_pure tbok 1 [(1, .slice a319 ((y_73).length) c320), (2, pb2 b323), (4, pb2 b324), (5, pb2 b323)] rfl ⟨rfl, rfl, rfl, rfl, trivial⟩ ?_
                    refine WO_loadB tbok 3 rfl rfl rfl rfl (fun _ h => h) rfl rfl ?_
                    refine WO_pure tbok 1 [(1, .slice a319 ((y_73).length) c320), (2, pb2 b323), (4, pb2 b324), (6, i2 p0_0), (7, .pointer (some ⟨b323, 1, none⟩))] rfl ⟨rfl, rfl, rfl, rfl, rfl, trivial⟩ ?_
                    refine WO_loadB tbok 3 rfl rfl rfl rfl (fun _ h => h) rfl rfl ?_
                    refine WO_pure tbok 1 [(1, .slice a319 ((y_73).length) c320), (2, pb2 b323), (4, pb2 b324), (6, i2 p0_0), (8, i2 p0_1), (9, .pointer (some ⟨b323, 2, none⟩))] rfl ⟨rfl, rfl, rfl, rfl, rfl, rfl, trivial⟩ ?_
                    refine WO_loadB tbok 3 rfl rfl rfl rfl (fun _ h => h) rfl rfl ?_
                    refine WO_pure tbok 1 [(1, .slice a319 ((y_73).length) c320), (2, pb2 b323), (4, pb2 b324), (6, i2 p0_0), (8, i2 p0_1), (10, i2 p0_2), (11, .pointer (some ⟨b323, 3, none⟩))] rfl ⟨rfl, rfl, rfl, rfl, rfl, rfl, rfl, trivial⟩ ?_
                    refine WO_loadB tbok 3 rfl rfl rfl rfl (fun _ h => h) rfl rfl ?_
                    refine WO_pure tbok 1 [(1, .slice a319 ((y_73).length) c320), (4, pb2 b324), (6, i2 p0_0), (8, i2 p0_1), (10, i2 p0_2), (12, i2 p0_3), (13, .pointer (some ⟨b323, 4, none⟩))] rfl ⟨rfl, rfl, rfl, rfl, rfl, rfl, rfl, trivial⟩ ?_
                    refine WO_loadB tbok 3 rfl rfl rfl rfl (fun _ h => h) rfl rfl ?_
                    refine WO_pure tbok 2 [(4, pb2 b324), (16, .agg #[i2 p0_0, i2 p0_1, i2 p0_2, i2 p0_3, i2 p0_4, .slice a319 ((y_73).length) c320])] rfl ⟨rfl, rfl, trivial⟩ ?_
                    refine WO_storeB tbok 4 [i2 p0_0, i2 p0_1, i2 p0_2, i2 p0_3, i2 p0_4, .slice a319 ((y_73).length) c320] rfl rfl rfl rfl rfl rfl rfl ?_
                    let B199 : Ent := ⟨b324, 25, [i2 p0_0, i2 p0_1, i2 p0_2, i2 p0_3, i2 p0_4, .slice a319 ((y_73).length) c320]⟩
                    refine WO.cls (C' := St w0 m m [[B1], [B196], L321, [B197], [B199]]) (fun _ h => h) ?_
                    refine WO_end ?_
                    refine WK_retI (RLc_cell tbok 4 rfl rfl rfl RLc_nil) (fun _ h => St.back (Ls := [[B1]]) (X := [[B196], L321, [B197], [B199]]) h (Le.refl _) (Le.refl _)) ?_
                    refine WO.cls (C' := St w0 m m [[B1], [B196], L321]) (fun _ h => St.take 3 h) ?_
                    refine WO_tree rfl ?_
                    refine WT_alt rfl ?_ ?_
                    · refine WO_call1 (slices_Clone_sint_Q y_73) rfl rfl St_closed rfl rfl rfl rfl ⟨23, #[], #[], rfl, callable_23, fun w hw => ⟨_, hw.sat, slices_Clone_sint_walk h_p0_5 hc318⟩⟩ (fun v328 L327 hq => ?_)
                      obtain ⟨a325, qa325, c326, rfl, hL327⟩ := hq
                      obtain rfl := OwnE.qlen hL327
                      refine WO.cls (C' := St w0 m m [[B1], [B196], L321, L327]) (fun _ h => h) ?_
                      refine WO_tree rfl ?_
                      refine WT_alt rfl ?_ ?_
                      · refine WO_inline rfl rfl rfl rfl rfl rfl callable_22 Try.func22 rfl rfl rfl ?_
                        refine WK.sub (e' := [(0, .agg #[i2 p0_0, i2 p0_1, i2 p0_2, i2 p0_3, i2 p0_4, .slice a_p0_5 p0_5.length c_p0_5]), (1, .slice a325 ((y_73).length) c326)]) ⟨rfl, rfl, trivial⟩ ?_
                        refine WK_seq ?_
                        refine WK_region ?_
                        refine WO_box [i2 p0_0, i2 p0_1, i2 p0_2, i2 p0_3, i2 p0_4, .slice a_p0_5 p0_5.length c_p0_5] rfl rfl trivial rfl rfl rfl (fun b329 => ?_)
                        let B200 : Ent := ⟨b329, 25, [i2 p0_0, i2 p0_1, i2 p0_2, i2 p0_3, i2 p0_4, .slice a_p0_5 p0_5.length c_p0_5]⟩
                        refine WO.cls (C' := St w0 m m [[B1], [B196], L321, L327, [B200]]) (fun _ h => h) ?_
                        refine WO_alloc tbok [i2 0, i2 0, i2 0, i2 0, i2 0, .slice none 0 0] rfl rfl trivial rfl rfl rfl rfl (fun b330 => ?_)
                        let B201 : Ent := ⟨b330, 25, [i2 0, i2 0, i2 0, i2 0, i2 0, .slice none 0 0]⟩
                        refine WO.cls (C' := St w0 m m [[B1], [B196], L321, L327, [B200], [B201]]) (fun _ h => h) ?_
                        refine WO_end ?_
                        refine WK_seq ?_
                        refine WK_region ?_
                        refine WO_pure tbok 1 [(1, .slice a325 ((y_73).length) c326), (2, pb2 b329), (4, pb2 b330), (5, pb2 b329)] rfl ⟨rfl, rfl, rfl, rfl, trivial⟩ ?_
                        refine WO_loadB tbok 4 rfl rfl rfl rfl (fun _ h => h) rfl rfl ?_
                        refine WO_pure tbok 1 [(1, .slice a325 ((y_73).length) c326), (2, pb2 b329), (4, pb2 b330), (6, i2 p0_0), (7, .pointer (some ⟨b329, 1, none⟩))] rfl ⟨rfl, rfl, rfl, rfl, rfl, trivial⟩ ?_
                        refine WO_loadB tbok 4 rfl rfl rfl rfl (fun _ h => h) rfl rfl ?_
                        refine WO_pure tbok 1 [(1, .slice a325 ((y_73).length) c326), (2, pb2 b329), (4, pb2 b330), (6, i2 p0_0), (8, i2 p0_1), (9, .pointer (some ⟨b329, 2, none⟩))] rfl ⟨rfl, rfl, rfl, rfl, rfl, rfl, trivial⟩ ?_
                        refine WO_loadB tbok 4 rfl rfl rfl rfl (fun _ h => h) rfl rfl ?_
                        refine WO_pure tbok 1 [(1, .slice a325 ((y_73).length) c326), (2, pb2 b329), (4, pb2 b330), (6, i2 p0_0), (8, i2 p0_1), (10, i2 p0_2), (11, .pointer (some ⟨b329, 3, none⟩))] rfl ⟨rfl, rfl, rfl, rfl, rfl, rfl, rfl, trivial⟩ ?_
                        refine WO_loadB tbok 4 rfl rfl rfl rfl (fun _ h => h) rfl rfl ?_
                        refine WO_pure tbok 1 [(1, .slice a325 ((y_73).length) c326), (4, pb2 b330), (6, i2 p0_0), (8, i2 p0_1), (10, i2 p0_2), (12, i2 p0_3), (13, .pointer (some ⟨b329, 4, none⟩))] rfl ⟨rfl, rfl, rfl, rfl, rfl, rfl, rfl, trivial⟩ ?_
                        refine WO_loadB tbok 4 rfl rfl rfl rfl (fun _ h => h) rfl rfl ?_
                        refine WO_pure tbok 2 [(4, pb2 b330), (16, .agg #[i2 p0_0, i2 p0_1, i2 p0_2, i2 p0_3, i2 p0_4, .slice a325 ((y_73).length) c326])] rfl ⟨rfl, rfl, trivial⟩ ?_
                        refine WO_storeB tbok 5 [i2 p0_0, i2 p0_1, i2 p0_2, i2 p0_3, i2 p0_4, .slice a325 ((y_73).length) c326] rfl rfl rfl rfl rfl rfl rfl ?_
                        let B202 : Ent := ⟨b330, 25, [i2 p0_0, i2 p0_1, i2 p0_2, i2 p0_3, i2 p0_4, .slice a325 ((y_73).length) c326]⟩
                        refine WO.cls (C' := St w0 m m [[B1], [B196], L321, L327, [B200], [B202]]) (fun _ h => h) ?_
                        refine WO_end ?_
                        refine WK_retI (RLc_cell tbok 5 rfl rfl rfl RLc_nil) (fun _ h => St.back (Ls := [[B1]]) (X := [[B196], L321, L327, [B200], [B202]]) h (Le.refl _) (Le.refl _)) ?_
                        refine WO.cls (C' := St w0 m m [[B1], [B196], L321, L327]) (fun _ h => St.take 4 h) ?_
                        refine WO_tree rfl ?_
                        refine WT_run ?_
                        refine WO_alloc tbok [i2 0, i2 0, i2 0, i2 0, i2 0, .slice none 0 0] rfl rfl St_closed rfl rfl rfl rfl (fun b331 => ?_)
                        let B203 : Ent := ⟨b331, 25, [i2 0, i2 0, i2 0, i2 0, i2 0, .slice none 0 0]⟩
                        refine WO.cls (C' := St w0 m m [[B1], [B196], L321, L327, [B203]]) (fun _ h => h) ?_
                        refine WO_tree rfl ?_
                        refine WT_fin ?_
                        refine WO_storeB tbok 4 [i2 p0_0, i2 p0_1, i2 p0_2, i2 p0_3, i2 p0_4, .slice a319 ((y_73).length) c320] rfl rfl rfl rfl rfl rfl rfl ?_
                        let B204 : Ent := ⟨b331, 25, [i2 p0_0, i2 p0_1, i2 p0_2, i2 p0_3, i2 p0_4, .slice a319 ((y_73).length) c320]⟩
                        refine WO.cls (C' := St w0 m m [[B1], [B196], L321, L327, [B204]]) (fun _ h => h) ?_
                        refine WO_storeB tbok 1 [i2 p0_0, i2 p0_1, i2 p0_2, i2 p0_3, i2 p0_4, .slice a325 ((y_73).length) c326] rfl rfl rfl rfl rfl rfl rfl ?_
                        let B205 : Ent := ⟨b317, 25, [i2 p0_0, i2 p0_1, i2 p0_2, i2 p0_3, i2 p0_4, .slice a325 ((y_73).length) c326]⟩
                        refine WO.cls (C' := St w0 m m [[B1], [B205], L321, L327, [B204]]) (fun _ h => h) ?_
                        refine WO_end ?_
                        refine WK.cls (fun _ h => h.perm (Ls' := [[B1], [B204], L321, [B205], L327]) (List.Perm.flatten ((((List.Perm.cons _ (List.Perm.cons _ (List.Perm.cons _ (List.Perm.swap _ _ _)))).trans (List.Perm.cons _ (List.Perm.cons _ (List.Perm.swap _ _ _)))).trans (List.Perm.cons _ (List.Perm.swap _ _ _))).trans (List.Perm.cons _ (List.Perm.cons _ (List.Perm.swap _ _ _)))))) ?_
                        cases hx15
                        refine WK.sub ?_ (hk16 ⟨a319, c320, L321, a325, c326, L327, b331, b317⟩ ⟨hL321, hL327⟩)
                        exact ⟨rfl, rfl, rfl, rfl, rfl, rfl, trivial⟩
                      · refine WT_alt rfl ?_ ?_
                        · refine WO_alloc tbok [i2 0, i2 0, i2 0, i2 0, i2 0, .slice none 0 0] rfl rfl St_closed rfl rfl rfl rfl (fun b332 => ?_)
                          let B206 : Ent := ⟨b332, 25, [i2 0, i2 0, i2 0, i2 0, i2 0, .slice none 0 0]⟩
                          refine WO.cls (C' := St w0 m m [[B1], [B196], L321, L327, [B206]]) (fun _ h => h) ?_
                          refine WO_tree rfl ?_
                          refine WT_run ?_
                          refine WO_inline rfl rfl rfl rfl rfl rfl callable_22 Try.func22 rfl rfl rfl ?_
                          refine WK.sub (e' := [(0, .agg #[i2 p0_0, i2 p0_1, i2 p0_2, i2 p0_3, i2 p0_4, .slice a_p0_5 p0_5.length c_p0_5]), (1, .slice a325 ((y_73).length) c326)]) ⟨rfl, rfl, trivial⟩ ?_
                          refine WK_seq ?_
                          refine WK_region ?_
                          refine WO_box [i2 p0_0, i2 p0_1, i2 p0_2, i2 p0_3, i2 p0_4, .slice a_p0_5 p0_5.length c_p0_5] rfl rfl trivial rfl rfl rfl (fun b333 => ?_)
                          let B207 : Ent := ⟨b333, 25, [i2 p0_0, i2 p0_1, i2 p0_2, i2 p0_3, i2 p0_4, .slice a_p0_5 p0_5.length c_p0_5]⟩
                          refine WO.cls (C' := St w0 m m [[B1], [B196], L321, L327, [B206], [B207]]) (fun _ h => h) ?_
                          refine WO_alloc tbok [i2 0, i2 0, i2 0, i2 0, i2 0, .slice none 0 0] rfl rfl trivial rfl rfl rfl rfl (fun b334 => ?_)
                          let B208 : Ent := ⟨b334, 25, [i2 0, i2 0, i2 0, i2 0, i2 0, .slice none 0 0]⟩
                          refine WO.cls (C' := St w0 m m [[B1], [B196], L321, L327, [B206], [B207], [B208]]) (fun _ h => h) ?_
                          refine WO_end ?_
                          refine WK_seq ?_
                          refine WK_region ?_
                          refine WO_pure tbok 1 [(1, .slice a325 ((y_73).length) c326), (2, pb2 b333), (4, pb2 b334), (5, pb2 b333)] rfl ⟨rfl, rfl, rfl, rfl, trivial⟩ ?_
                          refine WO_loadB tbok 5 rfl rfl rfl rfl (fun _ h => h) rfl rfl ?_
                          refine WO_pure tbok 1 [(1, .slice a325 ((y_73).length) c326), (2, pb2 b333), (4, pb2 b334), (6, i2 p0_0), (7, .pointer (some ⟨b333, 1, none⟩))] rfl ⟨rfl, rfl, rfl, rfl, rfl, trivial⟩ ?_
                          refine WO_loadB tbok 5 rfl rfl rfl rfl (fun _ h => h) rfl rfl ?_
                          refine WO_pure tbok 1 [(1, .slice a325 ((y_73).length) c326), (2, pb2 b333), (4, pb2 b334), (6, i2 p0_0), (8, i2 p0_1), (9, .pointer (some ⟨b333, 2, none⟩))] rfl ⟨rfl, rfl, rfl, rfl, rfl, rfl, trivial⟩ ?_
                          refine WO_loadB tbok 5 rfl rfl rfl rfl (fun _ h => h) rfl rfl ?_
                          refine WO_pure tbok 1 [(1, .slice a325 ((y_73).length) c326), (2, pb2 b333), (4, pb2 b334), (6, i2 p0_0), (8, i2 p0_1), (10, i2 p0_2), (11, .pointer (some ⟨b333, 3, none⟩))] rfl ⟨rfl, rfl, rfl, rfl, rfl, rfl, rfl, trivial⟩ ?_
                          refine WO_loadB tbok 5 rfl rfl rfl rfl (fun _ h => h) rfl rfl ?_
                          refine WO_pure tbok 1 [(1, .slice a325 ((y_73).length) c326), (4, pb2 b334), (6, i2 p0_0), (8, i2 p0_1), (10, i2 p0_2), (12, i2 p0_3), (13, .pointer (some ⟨b333, 4, none⟩))] rfl ⟨rfl, rfl, rfl, rfl, rfl, rfl, rfl, trivial⟩ ?_
                          refine WO_loadB tbok 5 rfl rfl rfl rfl (fun _ h => h) rfl rfl ?_
                          refine WO_pure tbok 2 [(4, pb2 b334), (16, .agg #[i2 p0_0, i2 p0_1, i2 p0_2, i2 p0_3, i2 p0_4, .slice a325 ((y_73).length) c326])] rfl ⟨rfl, rfl, trivial⟩ ?_
                          refine WO_storeB tbok 6 [i2 p0_0, i2 p0_1, i2 p0_2, i2 p0_3, i2 p0_4, .slice a325 ((y_73).length) c326] rfl rfl rfl rfl rfl rfl rfl ?_
                          let B209 : Ent := ⟨b334, 25, [i2 p0_0, i2 p0_1, i2 p0_2, i2 p0_3, i2 p0_4, .slice a325 ((y_73).length) c326]⟩
                          refine WO.cls (C' := St w0 m m [[B1], [B196], L321, L327, [B206], [B207], [B209]]) (fun _ h => h) ?_
                          refine WO_end ?_
                          refine WK_retI (RLc_cell tbok 6 rfl rfl rfl RLc_nil) (fun _ h => St.back (Ls := [[B1]]) (X := [[B196], L321, L327, [B206], [B207], [B209]]) h (Le.refl _) (Le.refl _)) ?_
                          refine WO.cls (C' := St w0 m m [[B1], [B196], L321, L327, [B206]]) (fun _ h => St.take 5 h) ?_
                          refine WO_tree rfl ?_
                          refine WT_fin ?_
                          refine WO_storeB tbok 4 [i2 p0_0, i2 p0_1, i2 p0_2, i2 p0_3, i2 p0_4, .slice a319 ((y_73).length) c320] rfl rfl rfl rfl rfl rfl rfl ?_
                          let B210 : Ent := ⟨b332, 25, [i2 p0_0, i2 p0_1, i2 p0_2, i2 p0_3, i2 p0_4, .slice a319 ((y_73).length) c320]⟩
                          refine WO.cls (C' := St w0 m m [[B1], [B196], L321, L327, [B210]]) (fun _ h => h) ?_
                          refine WO_storeB tbok 1 [i2 p0_0, i2 p0_1, i2 p0_2, i2 p0_3, i2 p0_4, .slice a325 ((y_73).length) c326] rfl rfl rfl rfl rfl rfl rfl ?_
                          let B211 : Ent := ⟨b317, 25, [i2 p0_0, i2 p0_1, i2 p0_2, i2 p0_3, i2 p0_4, .slice a325 ((y_73).length) c326]⟩
                          refine WO.cls (C' := St w0 m m [[B1], [B211], L321, L327, [B210]]) (fun _ h => h) ?_
                          refine WO_end ?_
                          refine WK.cls (fun _ h => h.perm (Ls' := [[B1], [B210], L321, [B211], L327]) (List.Perm.flatten ((((List.Perm.cons _ (List.Perm.cons _ (List.Perm.cons _ (List.Perm.swap _ _ _)))).trans (List.Perm.cons _ (List.Perm.cons _ (List.Perm.swap _ _ _)))).trans (List.Perm.cons _ (List.Perm.swap _ _ _))).trans (List.Perm.cons _ (List.Perm.cons _ (List.Perm.swap _ _ _)))))) ?_
                          cases hx15
                          refine WK.sub ?_ (hk16 ⟨a319, c320, L321, a325, c326, L327, b332, b317⟩ ⟨hL321, hL327⟩)
                          exact ⟨rfl, rfl, rfl, rfl, rfl, rfl, trivial⟩
                        · exact WT_none
                    · refine WT_alt rfl ?_ ?_
                      · refine WO_alloc tbok [i2 0, i2 0, i2 0, i2 0, i2 0, .slice none 0 0] rfl rfl St_closed rfl rfl rfl rfl (fun b335 => ?_)
                        let B212 : Ent := ⟨b335, 25, [i2 0, i2 0, i2 0, i2 0, i2 0, .slice none 0 0]⟩
                        refine WO.cls (C' := St w0 m m [[B1], [B196], L321, [B212]]) (fun _ h => h) ?_
                        refine WO_tree rfl ?_
                        refine WT_run ?_
                        refine WO_call1 (slices_Clone_sint_Q y_73) rfl rfl St_closed rfl rfl rfl rfl ⟨23, #[], #[], rfl, callable_23, fun w hw => ⟨_, hw.sat, slices_Clone_sint_walk h_p0_5 hc318⟩⟩ (fun v339 L338 hq => ?_)
                        obtain ⟨a336, qa336, c337, rfl, hL338⟩ := hq
                        obtain rfl := OwnE.qlen hL338
                        refine WO.cls (C' := St w0 m m [[B1], [B196], L321, [B212], L338]) (fun _ h => h) ?_
                        refine WO_inline rfl rfl rfl rfl rfl rfl callable_22 Try.func22 rfl rfl rfl ?_
                        refine WK.sub (e' := [(0, .agg #[i2 p0_0, i2 p0_1, i2 p0_2, i2 p0_3, i2 p0_4, .slice a_p0_5 p0_5.length c_p0_5]), (1, .slice a336 ((y_73).length) c337)]) ⟨rfl, rfl, trivial⟩ ?_
                        refine WK_seq ?_
                        refine WK_region ?_
                        refine WO_box [i2 p0_0, i2 p0_1, i2 p0_2, i2 p0_3, i2 p0_4, .slice a_p0_5 p0_5.length c_p0_5] rfl rfl trivial rfl rfl rfl (fun b340 => ?_)
                        let B213 : Ent := ⟨b340, 25, [i2 p0_0, i2 p0_1, i2 p0_2, i2 p0_3, i2 p0_4, .slice a_p0_5 p0_5.length c_p0_5]⟩
                        refine WO.cls (C' := St w0 m m [[B1], [B196], L321, [B212], L338, [B213]]) (fun _ h => h) ?_
                        refine WO_alloc tbok [i2 0, i2 0, i2 0, i2 0, i2 0, .slice none 0 0] rfl rfl trivial rfl rfl rfl rfl (fun b341 => ?_)
                        let B214 : Ent := ⟨b341, 25, [i2 0, i2 0, i2 0, i2 0, i2 0, .slice none 0 0]⟩
                        refine WO.cls (C' := St w0 m m [[B1], [B196], L321, [B212], L338, [B213], [B214]]) (fun _ h => h) ?_
                        refine WO_end ?_
                        refine WK_seq ?_
                        refine WK_region ?_
                        refine WO_pure tbok 1 [(1, .slice a336 ((y_73).length) c337), (2, pb2 b340), (4, pb2 b341), (5, pb2 b340)] rfl ⟨rfl, rfl, rfl, rfl, trivial⟩ ?_
                        refine WO_loadB tbok 5 rfl rfl rfl rfl (fun _ h => h) rfl rfl ?_
                        refine WO_pure tbok 1 [(1, .slice a336 ((y_73).length) c337), (2, pb2 b340), (4, pb2 b341), (6, i2 p0_0), (7, .pointer (some ⟨b340, 1, none⟩))] rfl ⟨rfl, rfl, rfl, rfl, rfl, trivial⟩ ?_
                        refine WO_loadB tbok 5 rfl rfl rfl rfl (fun _ h => h) rfl rfl ?_
                        refine WO_pure tbok 1 [(1, .slice a336 ((y_73).length) c337), (2, pb2 b340), (4, pb2 b341), (6, i2 p0_0), (8, i2 p0_1), (9, .pointer (some ⟨b340, 2, none⟩))] rfl ⟨rfl, rfl, rfl, rfl, rfl, rfl, trivial⟩ ?_
                        refine WO_loadB tbok 5 rfl rfl rfl rfl (fun _ h => h) rfl rfl ?_
                        refine WO_pure tbok 1 [(1, .slice a336 ((y_73).length) c337), (2, pb2 b340), (4, pb2 b341), (6, i2 p0_0), (8, i2 p0_1), (10, i2 p0_2), (11, .pointer (some ⟨b340, 3, none⟩))] rfl ⟨rfl, rfl, rfl, rfl, rfl, rfl, rfl, trivial⟩ ?_
                        refine WO_loadB tbok 5 rfl rfl rfl rfl (fun _ h => h) rfl rfl ?_
                        refine WO_pure tbok 1 [(1, .slice a336 ((y_73).length) c337), (4, pb2 b341), (6, i2 p0_0), (8, i2 p0_1), (10, i2 p0_2), (12, i2 p0_3), (13, .pointer (some ⟨b340, 4, none⟩))] rfl ⟨rfl, rfl, rfl, rfl, rfl, rfl, rfl, trivial⟩ ?_
                        refine WO_loadB tbok 5 rfl rfl rfl rfl (fun _ h => h) rfl rfl ?_
                        refine WO_pure tbok 2 [(4, pb2 b341), (16, .agg #[i2 p0_0, i2 p0_1, i2 p0_2, i2 p0_3, i2 p0_4, .slice a336 ((y_73).length) c337])] rfl ⟨rfl, rfl, trivial⟩ ?_
                        refine WO_storeB tbok 6 [i2 p0_0, i2 p0_1, i2 p0_2, i2 p0_3, i2 p0_4, .slice a336 ((y_73).length) c337] rfl rfl rfl rfl rfl rfl rfl ?_
                        let B215 : Ent := ⟨b341, 25, [i2 p0_0, i2 p0_1, i2 p0_2, i2 p0_3, i2 p0_4, .slice a336 ((y_73).length) c337]⟩
                        refine WO.cls (C' := St w0 m m [[B1], [B196], L321, [B212], L338, [B213], [B215]]) (fun _ h => h) ?_
                        refine WO_end ?_
                        refine WK_retI (RLc_cell tbok 6 rfl rfl rfl RLc_nil) (fun _ h => St.back (Ls := [[B1]]) (X := [[B196], L321, [B212], L338, [B213], [B215]]) h (Le.refl _) (Le.refl _)) ?_
                        refine WO.cls (C' := St w0 m m [[B1], [B196], L321, [B212], L338]) (fun _ h => St.take 5 h) ?_
                        refine WO_tree rfl ?_
                        refine WT_fin ?_
                        refine WO_storeB tbok 3 [i2 p0_0, i2 p0_1, i2 p0_2, i2 p0_3, i2 p0_4, .slice a319 ((y_73).length) c320] rfl rfl rfl rfl rfl rfl rfl ?_
                        let B216 : Ent := ⟨b335, 25, [i2 p0_0, i2 p0_1, i2 p0_2, i2 p0_3, i2 p0_4, .slice a319 ((y_73).length) c320]⟩
                        refine WO.cls (C' := St w0 m m [[B1], [B196], L321, [B216], L338]) (fun _ h => h) ?_
                        refine WO_storeB tbok 1 [i2 p0_0, i2 p0_1, i2 p0_2, i2 p0_3, i2 p0_4, .slice a336 ((y_73).length) c337] rfl rfl rfl rfl rfl rfl rfl ?_
                        let B217 : Ent := ⟨b317, 25, [i2 p0_0, i2 p0_1, i2 p0_2, i2 p0_3, i2 p0_4, .slice a336 ((y_73).length) c337]⟩
                        refine WO.cls (C' := St w0 m m [[B1], [B217], L321, [B216], L338]) (fun _ h => h) ?_
                        refine WO_end ?_
                        refine WK.cls (fun _ h => h.perm (Ls' := [[B1], [B216], L321, [B217], L338]) (List.Perm.flatten (((List.Perm.cons _ (List.Perm.cons _ (List.Perm.swap _ _ _))).trans (List.Perm.cons _ (List.Perm.swap _ _ _))).trans (List.Perm.cons _ (List.Perm.cons _ (List.Perm.swap _ _ _)))))) ?_
                        cases hx15
                        refine WK.sub ?_ (hk16 ⟨a319, c320, L321, a336, c337, L338, b335, b317⟩ ⟨hL321, hL338⟩)
                        exact ⟨rfl, rfl, rfl, rfl, rfl, rfl, trivial⟩
                      · exact WT_none
                  · refine WT_alt rfl ?_ ?_
                    · refine WO_alloc tbok [i2 0, i2 0, i2 0, i2 0, i2 0, .slice none 0 0] rfl rfl St_closed rfl rfl rfl rfl (fun b342 => ?_)
                      let B218 : Ent := ⟨b342, 25, [i2 0, i2 0, i2 0, i2 0, i2 0, .slice none 0 0]⟩
                      refine WO.cls (C' := St w0 m m [[B1], [B196], L321, [B218]]) (fun _ h => h) ?_
                      refine WO_tree rfl ?_
                      refine WT_run ?_
                      refine WO_inline rfl rfl rfl rfl rfl rfl callable_22 Try.func22 rfl rfl rfl ?_
                      refine WK.sub (e' := [(0, .agg #[i2 p0_0, i2 p0_1, i2 p0_2, i2 p0_3, i2 p0_4, .slice a_p0_5 p0_5.length c_p0_5]), (1, .slice a319 ((y_73).length) c320)]) ⟨rfl, rfl, trivial⟩ ?_
                      refine WK_seq ?_
                      refine WK_region ?_
                      refine WO_box [i2 p0_0, i2 p0_1, i2 p0_2, i2 p0_3, i2 p0_4, .slice a_p0_5 p0_5.length c_p0_5] rfl rfl trivial rfl rfl rfl (fun b343 => ?_)
                      let B219 : Ent := ⟨b343, 25, [i2 p0_0, i2 p0_1, i2 p0_2, i2 p0_3, i2 p0_4, .slice a_p0_5 p0_5.length c_p0_5]⟩
                      refine WO.cls (C' := St w0 m m [[B1], [B196], L321, [B218], [B219]]) (fun _ h => h) ?_
                      refine WO_alloc tbok [i2 0, i2 0, i2 0, i2 0, i2 0, .slice none 0 0] rfl rfl trivial rfl rfl rfl rfl (fun b344 => ?_)
                      let B220 : Ent := ⟨b344, 25, [i2 0, i2 0, i2 0, i2 0, i2 0, .slice none 0 0]⟩
                      refine WO.cls (C' := St w0 m m [[B1], [B196], L321, [B218], [B219], [B220]]) (fun _ h => h) ?_
                      refine WO_end ?_
                      refine WK_seq ?_
                      refine WK_region ?_
                      refine WO_pure tbok 1 [(1, .slice a319 ((y_73).length) c320), (2, pb2 b343), (4, pb2 b344), (5, pb2 b343)] rfl ⟨rfl, rfl, rfl, rfl, trivial⟩ ?_
                      refine WO_loadB tbok 4 rfl rfl rfl rfl (fun _ h => h) rfl rfl ?_
                      refine WO_pure tbok 1 [(1, .slice a319 ((y_73).length) c320), (2, pb2 b343), (4, pb2 b344), (6, i2 p0_0), (7, .pointer (some ⟨b343, 1, none⟩))] rfl ⟨rfl, rfl, rfl, rfl, rfl, trivial⟩ ?_
                      refine WO_loadB tbok 4 rfl rfl rfl rfl (fun _ h => h) rfl rfl ?_
                      refine WO_pure tbok 1 [(1, .slice a319 ((y_73).length) c320), (2, pb2 b343), (4, pb2 b344), (6, i2 p0_0), (8, i2 p0_1), (9, .pointer (some ⟨b343, 2, none⟩))] rfl ⟨rfl, rfl, rfl, rfl, rfl, rfl, trivial⟩ ?_
                      refine WO_loadB tbok 4 rfl rfl rfl rfl (fun _ h => h) rfl rfl ?_
                      refine WO_pure tbok 1 [(1, .slice a319 ((y_73).length) c320), (2, pb2 b343), (4, pb2 b344), (6, i2 p0_0), (8, i2 p0_1), (10, i2 p0_2), (11, .pointer (some ⟨b343, 3, none⟩))] rfl ⟨rfl, rfl, rfl, rfl, rfl, rfl, rfl, trivial⟩ ?_
                      refine WO_loadB tbok 4 rfl rfl rfl rfl (fun _ h => h) rfl rfl ?_
                      refine WO_pure tbok 1 [(1, .slice a319 ((y_73).length) c320), (4, pb2 b344), (6, i2 p0_0), (8, i2 p0_1), (10, i2 p0_2), (12, i2 p0_3), (13, .pointer (some ⟨b343, 4, none⟩))] rfl ⟨rfl, rfl, rfl, rfl, rfl, rfl, rfl, trivial⟩ ?_
                      refine WO_loadB tbok 4 rfl rfl rfl rfl (fun _ h => h) rfl rfl ?_
                      refine WO_pure tbok 2 [(4, pb2 b344), (16, .agg #[i2 p0_0, i2 p0_1, i2 p0_2, i2 p0_3, i2 p0_4, .slice a319 ((y_73).length) c320])] rfl ⟨rfl, rfl, trivial⟩ ?_
                      refine WO_storeB tbok 5 [i2 p0_0, i2 p0_1, i2 p0_2, i2 p0_3, i2 p0_4, .slice a319 ((y_73).length) c320] rfl rfl rfl rfl rfl rfl rfl ?_
                      let B221 : Ent := ⟨b344, 25, [i2 p0_0, i2 p0_1, i2 p0_2, i2 p0_3, i2 p0_4, .slice a319 ((y_73).length) c320]⟩
                      refine WO.cls (C' := St w0 m m [[B1], [B196], L321, [B218], [B219], [B221]]) (fun _ h => h) ?_
                      refine WO_end ?_
                      refine WK_retI (RLc_cell tbok 5 rfl rfl rfl RLc_nil) (fun _ h => St.back (Ls := [[B1]]) (X := [[B196], L321, [B218], [B219], [B221]]) h (Le.refl _) (Le.refl _)) ?_
                      refine WO.cls (C' := St w0 m m [[B1], [B196], L321, [B218]]) (fun _ h => St.take 4 h) ?_
                      refine WO_call1 (slices_Clone_sint_Q y_73) rfl rfl St_closed rfl rfl rfl rfl ⟨23, #[], #[], rfl, callable_23, fun w hw => ⟨_, hw.sat, slices_Clone_sint_walk h_p0_5 hc318⟩⟩ (fun v348 L347 hq => ?_)
                      obtain ⟨a345, qa345, c346, rfl, hL347⟩ := hq
                      obtain rfl := OwnE.qlen hL347
                      refine WO.cls (C' := St w0 m m [[B1], [B196], L321, [B218], L347]) (fun _ h => h) ?_
                      refine WO_inline rfl rfl rfl rfl rfl rfl callable_22 Try.func22 rfl rfl rfl ?_
                      refine WK.sub (e' := [(0, .agg #[i2 p0_0, i2 p0_1, i2 p0_2, i2 p0_3, i2 p0_4, .slice a_p0_5 p0_5.length c_p0_5]), (1, .slice a345 ((y_73).length) c346)]) ⟨rfl, rfl, trivial⟩ ?_
                      refine WK_seq ?_
                      refine WK_region ?_
                      refine WO_box [i2 p0_0, i2 p0_1, i2 p0_2, i2 p0_3, i2 p0_4, .slice a_p0_5 p0_5.length c_p0_5] rfl rfl trivial rfl rfl rfl (fun b349 => ?_)
                      let B222 : Ent := ⟨b349, 25, [i2 p0_0, i2 p0_1, i2 p0_2, i2 p0_3, i2 p0_4, .slice a_p0_5 p0_5.length c_p0_5]⟩
                      refine WO.cls (C' := St w0 m m [[B1], [B196], L321, [B218], L347, [B222]]) (fun _ h => h) ?_
                      refine WO_alloc tbok [i2 0, i2 0, i2 0, i2 0, i2 0, .slice none 0 0] rfl rfl trivial rfl rfl rfl rfl (fun b350 => ?_)
                      let B223 : Ent := ⟨b350, 25, [i2 0, i2 0, i2 0, i2 0, i2 0, .slice none 0 0]⟩
                      refine WO.cls (C' := St w0 m m [[B1], [B196], L321, [B218], L347, [B222], [B223]]) (fun _ h => h) ?_
                      refine WO_end ?_
                      refine WK_seq ?_
                      refine WK_region ?_
                      refine WO_pure tbok 1 [(1, .slice a345 ((y_73).length) c346), (2, pb2 b349), (4, pb2 b350), (5, pb2 b349)] rfl ⟨rfl, rfl, rfl, rfl, trivial⟩ ?_
                      refine WO_loadB tbok 5 rfl rfl rfl rfl (fun _ h => h) rfl rfl ?_
                      refine WO_pure tbok 1 [(1, .slice a345 ((y_73).length) c346), (2, pb2 b349), (4, pb2 b350), (6, i2 p0_0), (7, .pointer (some ⟨b349, 1, none⟩))] rfl ⟨rfl, rfl, rfl, rfl, rfl, trivial⟩ ?_
                      refine WO_loadB tbok 5 rfl rfl rfl rfl (fun _ h => h) rfl rfl ?_
                      refine WO_pure tbok 1 [(1, .slice a345 ((y_73).length) c346), (2, pb2 b349), (4, pb2 b350), (6, i2 p0_0), (8, i2 p0_1), (9, .pointer (some ⟨b349, 2, none⟩))] rfl ⟨rfl, rfl, rfl, rfl, rfl, rfl, trivial⟩ ?_
                      refine WO_loadB tbok 5 rfl rfl rfl rfl (fun _ h => h) rfl rfl ?_
                      refine WO_pure tbok 1 [(1, .slice a345 ((y_73).length) c346), (2, pb2 b349), (4, pb2 b350), (6, i2 p0_0), (8, i2 p0_1), (10, i2 p0_2), (11, .pointer (some ⟨b349, 3, none⟩))] rfl ⟨rfl, rfl, rfl, rfl, rfl, rfl, rfl, trivial⟩ ?_
                      refine WO_loadB tbok 5 rfl rfl rfl rfl (fun _ h => h) rfl rfl ?_
                      refine WO_pure tbok 1 [(1, .slice a345 ((y_73).length) c346), (4, pb2 b350), (6, i2 p0_0), (8, i2 p0_1), (10, i2 p0_2), (12, i2 p0_3), (13, .pointer (some ⟨b349, 4, none⟩))] rfl ⟨rfl, rfl, rfl, rfl, rfl, rfl, rfl, trivial⟩ ?_
                      refine WO_loadB tbok 5 rfl rfl rfl rfl (fun _ h => h) rfl rfl ?_
                      refine WO_pure tbok 2 [(4, pb2 b350), (16, .agg #[i2 p0_0, i2 p0_1, i2 p0_2, i2 p0_3, i2 p0_4, .slice a345 ((y_73).length) c346])] rfl ⟨rfl, rfl, trivial⟩ ?_
                      refine WO_storeB tbok 6 [i2 p0_0, i2 p0_1, i2 p0_2, i2 p0_3, i2 p0_4, .slice a345 ((y_73).length) c346] rfl rfl rfl rfl rfl rfl rfl ?_
                      let B224 : Ent := ⟨b350, 25, [i2 p0_0, i2 p0_1, i2 p0_2, i2 p0_3, i2 p0_4, .slice a345 ((y_73).length) c346]⟩
                      refine WO.cls (C' := St w0 m m [[B1], [B196], L321, [B218], L347, [B222], [B224]]) (fun _ h => h) ?_
                      refine WO_end ?_
                      refine WK_retI (RLc_cell tbok 6 rfl rfl rfl RLc_nil) (fun _ h => St.back (Ls := [[B1]]) (X := [[B196], L321, [B218], L347, [B222], [B224]]) h (Le.refl _) (Le.refl _)) ?_
                      refine WO.cls (C' := St w0 m m [[B1], [B196], L321, [B218], L347]) (fun _ h => St.take 5 h) ?_
                      refine WO_tree rfl ?_
                      refine WT_fin ?_
                      refine WO_storeB tbok 3 [i2 p0_0, i2 p0_1, i2 p0_2, i2 p0_3, i2 p0_4, .slice a319 ((y_73).length) c320] rfl rfl rfl rfl rfl rfl rfl ?_
                      let B225 : Ent := ⟨b342, 25, [i2 p0_0, i2 p0_1, i2 p0_2, i2 p0_3, i2 p0_4, .slice a319 ((y_73).length) c320]⟩
                      refine WO.cls (C' := St w0 m m [[B1], [B196], L321, [B225], L347]) (fun _ h => h) ?_
                      refine WO_storeB tbok 1 [i2 p0_0, i2 p0_1, i2 p0_2, i2 p0_3, i2 p0_4, .slice a345 ((y_73).length) c346] rfl rfl rfl rfl rfl rfl rfl ?_
                      let B226 : Ent := ⟨b317, 25, [i2 p0_0, i2 p0_1, i2 p0_2, i2 p0_3, i2 p0_4, .slice a345 ((y_73).length) c346]⟩
                      refine WO.cls (C' := St w0 m m [[B1], [B226], L321, [B225], L347]) (fun _ h => h) ?_
                      refine WO_end ?_
                      refine WK.cls (fun _ h => h.perm (Ls' := [[B1], [B225], L321, [B226], L347]) (List.Perm.flatten (((List.Perm.cons _ (List.Perm.cons _ (List.Perm.swap _ _ _))).trans (List.Perm.cons _ (List.Perm.swap _ _ _))).trans (List.Perm.cons _ (List.Perm.cons _ (List.Perm.swap _ _ _)))))) ?_
                      cases hx15
                      refine WK.sub ?_ (hk16 ⟨a319, c320, L321, a345, c346, L347, b342, b317⟩ ⟨hL321, hL347⟩)
                      exact ⟨rfl, rfl, rfl, rfl, rfl, rfl, trivial⟩
                    · exact WT_none
                · refine WT_alt rfl ?_ ?_
                  · refine WO_alloc tbok [i2 0, i2 0, i2 0, i2 0, i2 0, .slice none 0 0] rfl rfl St_closed rfl rfl rfl rfl (fun b351 => ?_)
                    let B227 : Ent := ⟨b351, 25, [i2 0, i2 0, i2 0, i2 0, i2 0, .slice none 0 0]⟩
                    refine WO.cls (C' := St w0 m m [[B1], [B196], [B227]]) (fun _ h => h) ?_
                    refine WO_tree rfl ?_
                    refine WT_run ?_
                    obtain ⟨y_73, hc352, hx15⟩ := bind_some hx15
                    refine WO_call1 (slices_Clone_sint_Q y_73) rfl rfl St_closed rfl rfl rfl rfl ⟨23, #[], #[], rfl, callable_23, fun w hw => ⟨_, hw.sat, slices_Clone_sint_walk h_p0_5 hc352⟩⟩ (fun v356 L355 hq => ?_)
                    obtain ⟨a353, qa353, c354, rfl, hL355⟩ := hq
                    obtain rfl := OwnE.qlen hL355
                    refine WO.cls (C' := St w0 m m [[B1], [B196], [B227], L355]) (fun _ h => h) ?_
                    refine WO_inline rfl rfl rfl rfl rfl rfl callable_22 Try.func22 rfl rfl rfl ?_
                    refine WK.sub (e' := [(0, .agg #[i2 p0_0, i2 p0_1, i2 p0_2, i2 p0_3, i2 p0_4, .slice a_p0_5 p0_5.length c_p0_5]), (1, .slice a353 ((y_73).length) c354)]) ⟨rfl, rfl, trivial⟩ ?_
                    refine WK_seq ?_
                    refine WK_region ?_
                    refine WO_box [i2 p0_0, i2 p0_1, i2 p0_2, i2 p0_3, i2 p0_4, .slice a_p0_5 p0_5.length c_p0_5] rfl rfl trivial rfl rfl rfl (fun b357 => ?_)
                    let B228 : Ent := ⟨b357, 25, [i2 p0_0, i2 p0_1, i2 p0_2, i2 p0_3, i2 p0_4, .slice a_p0_5 p0_5.length c_p0_5]⟩
                    refine WO.cls (C' := St w0 m m [[B1], [B196], [B227], L355, [B228]]) (fun _ h => h) ?_
                    refine WO_alloc tbok [i2 0, i2 0, i2 0, i2 0, i2 0, .slice none 0 0] rfl rfl trivial rfl rfl rfl rfl (fun b358 => ?_)
                    let B229 : Ent := ⟨b358, 25, [i2 0, i2 0, i2 0, i2 0, i2 0, .slice none 0 0]⟩
                    refine WO.cls (C' := St w0 m m [[B1], [B196], [B227], L355, [B228], [B229]]) (fun _ h => h) ?_
                    refine WO_end ?_
                    refine WK_seq ?_
                    refine WK_region ?_
                    refine WO_pure tbok 1 [(1, .slice a353 ((y_73).length) c354), (2, pb2 b357), (4, pb2 b358), (5, pb2 b357)] rfl ⟨rfl, rfl, rfl, rfl, trivial⟩ ?_
                    refine WO_loadB tbok 4 rfl rfl rfl rfl (fun _ h => h) rfl rfl ?_
                    refine WO_pure tbok 1 [(1, .slice a353 ((y_73).length) c354), (2, pb2 b357), (4, pb2 b358), (6, i2 p0_0), (7, .pointer (some ⟨b357, 1, none⟩))] rfl ⟨rfl, rfl, rfl, rfl, rfl, trivial⟩ ?_
                    refine WO_loadB tbok 4 rfl rfl rfl rfl (fun _ h => h) rfl rfl ?_
                    refine WO_pure tbok 1 [(1, .slice a353 ((y_73).length) c354), (2, pb2 b357), (4, pb2 b358), (6, i2 p0_0), (8, i2 p0_1), (9, .pointer (some ⟨b357, 2, none⟩))] rfl ⟨rfl, rfl, rfl, rfl, rfl, rfl, trivial⟩ ?_
                    refine WO_loadB tbok 4 rfl rfl rfl rfl (fun _ h => h) rfl rfl ?_
                    refine WO_pure tbok 1 [(1, .slice a353 ((y_73).length) c354), (2, pb2 b357), (4, pb2 b358), (6, i2 p0_0), (8, i2 p0_1), (10, i2 p0_2), (11, .pointer (some ⟨b357, 3, none⟩))] rfl ⟨rfl, rfl, rfl, rfl, rfl, rfl, rfl, trivial⟩ ?_
                    refine WO_loadB tbok 4 rfl rfl rfl rfl (fun _ h => h) rfl rfl ?_
                    refine WO_pure tbok 1 [(1, .slice a353 ((y_73).length) c354), (4, pb2 b358), (6, i2 p0_0), (8, i2 p0_1), (10, i2 p0_2), (12, i2 p0_3), (13, .pointer (some ⟨b357, 4, none⟩))] rfl ⟨rfl, rfl, rfl, rfl, rfl, rfl, rfl, trivial⟩ ?_
                    refine WO_loadB tbok 4 rfl rfl rfl rfl (fun _ h => h) rfl rfl ?_
                    refine WO_pure tbok 2 [(4, pb2 b358), (16, .agg #[i2 p0_0, i2 p0_1, i2 p0_2, i2 p0_3, i2 p0_4, .slice a353 ((y_73).length) c354])] rfl ⟨rfl, rfl, trivial⟩ ?_
                    refine WO_storeB tbok 5 [i2 p0_0, i2 p0_1, i2 p0_2, i2 p0_3, i2 p0_4, .slice a353 ((y_73).length) c354] rfl rfl rfl rfl rfl rfl rfl ?_
                    let B230 : Ent := ⟨b358, 25, [i2 p0_0, i2 p0_1, i2 p0_2, i2 p0_3, i2 p0_4, .slice a353 ((y_73).length) c354]⟩
                    refine WO.cls (C' := St w0 m m [[B1], [B196], [B227], L355, [B228], [B230]]) (fun _ h => h) ?_
                    refine WO_end ?_
                    refine WK_retI (RLc_cell tbok 5 rfl rfl rfl RLc_nil) (fun _ h => St.back (Ls := [[B1]]) (X := [[B196], [B227], L355, [B228], [B230]]) h (Le.refl _) (Le.refl _)) ?_
                    refine WO.cls (C' := St w0 m m [[B1], [B196], [B227], L355]) (fun _ h => St.take 4 h) ?_
                    refine WO_call1 (slices_Clone_sint_Q y_73) rfl rfl St_closed rfl rfl rfl rfl ⟨23, #[], #[], rfl, callable_23, fun w hw => ⟨_, hw.sat, slices_Clone_sint_walk h_p0_5 hc352⟩⟩ (fun v362 L361 hq => ?_)
                    obtain ⟨a359, qa359, c360, rfl, hL361⟩ := hq
                    obtain rfl := OwnE.qlen hL361
                    refine WO.cls (C' := St w0 m m [[B1], [B196], [B227], L355, L361]) (fun _ h => h) ?_
                    refine WO_inline rfl rfl rfl rfl rfl rfl callable_22 Try.func22 rfl rfl rfl ?_
                    refine WK.sub (e' := [(0, .agg #[i2 p0_0, i2 p0_1, i2 p0_2, i2 p0_3, i2 p0_4, .slice a_p0_5 p0_5.length c_p0_5]), (1, .slice a359 ((y_73).length) c360)]) ⟨rfl, rfl, trivial⟩ ?_
                    refine WK_seq ?_
                    refine WK_region ?_
                    refine WO_box [i2 p0_0, i2 p0_1, i2 p0_2, i2 p0_3, i2 p0_4, .slice a_p0_5 p0_5.length c_p0_5] rfl rfl trivial rfl rfl rfl (fun b363 => ?_)
                    let B231 : Ent := ⟨b363, 25, [i2 p0_0, i2 p0_1, i2 p0_2, i2 p0_3, i2 p0_4, .slice a_p0_5 p0_5.length c_p0_5]⟩
                    refine WO.cls (C' := St w0 m m [[B1], [B196], [B227], L355, L361, [B231]]) (fun _ h => h) ?_
                    refine WO_alloc tbok [i2 0, i2 0, i2 0, i2 0, i2 0, .slice none 0 0] rfl rfl trivial rfl rfl rfl rfl (fun b364 => ?_)
                    let B232 : Ent := ⟨b364, 25, [i2 0, i2 0, i2 0, i2 0, i2 0, .slice none 0 0]⟩
                    refine WO.cls (C' := St w0 m m [[B1], [B196], [B227], L355, L361, [B231], [B232]]) (fun _ h => h) ?_
                    refine WO_end ?_
                    refine WK_seq ?_
                    refine WK_region ?_
                    refine WO_pure tbok 1 [(1, .slice a359 ((y_73).length) c360), (2, pb2 b363), (4, pb2 b364), (5, pb2 b363)] rfl ⟨rfl, rfl, rfl, rfl, trivial⟩ ?_
                    refine WO_loadB tbok 5 rfl rfl rfl rfl (fun _ h => h) rfl rfl ?_
                    refine WO_pure tbok 1 [(1, .slice a359 ((y_73).length) c360), (2, pb2 b363), (4, pb2 b364), (6, i2 p0_0), (7, .pointer (some ⟨b363, 1, none⟩))] rfl ⟨rfl, rfl, rfl, rfl, rfl, trivial⟩ ?_
                    refine WO_loadB tbok 5 rfl rfl rfl rfl (fun _ h => h) rfl rfl ?_
                    refine WO_pure tbok 1 [(1, .slice a359 ((y_73).length) c360), (2, pb2 b363), (4, pb2 b364), (6, i2 p0_0), (8, i2 p0_1), (9, .pointer (some ⟨b363, 2, none⟩))] rfl ⟨rfl, rfl, rfl, rfl, rfl, rfl, trivial⟩ ?_
                    refine WO_loadB tbok 5 rfl rfl rfl rfl (fun _ h => h) rfl rfl ?_
                    refine WO_pure tbok 1 [(1, .slice a359 ((y_73).length) c360), (2, pb2 b363), (4, pb2 b364), (6, i2 p0_0), (8, i2 p0_1), (10, i2 p0_2), (11, .pointer (some ⟨b363, 3, none⟩))] rfl ⟨rfl, rfl, rfl, rfl, rfl, rfl, rfl, trivial⟩ ?_
                    refine WO_loadB tbok 5 rfl rfl rfl rfl (fun _ h => h) rfl rfl ?_
                    refine WO_pure tbok 1 [(1, .slice a359 ((y_73).length) c360), (4, pb2 b364), (6, i2 p0_0), (8, i2 p0_1), (10, i2 p0_2), (12, i2 p0_3), (13, .pointer (some ⟨b363, 4, none⟩))] rfl ⟨rfl, rfl, rfl, rfl, rfl, rfl, rfl, trivial⟩ ?_
                    refine WO_loadB tbok 5 rfl rfl rfl rfl (fun _ h => h) rfl rfl ?_
                    refine WO_pure tbok 2 [(4, pb2 b364), (16, .agg #[i2 p0_0, i2 p0_1, i2 p0_2, i2 p0_3, i2 p0_4, .slice a359 ((y_73).length) c360])] rfl ⟨rfl, rfl, trivial⟩ ?_
                    refine WO_storeB tbok 6 [i2 p0_0, i2 p0_1, i2 p0_2, i2 p0_3, i2 p0_4, .slice a359 ((y_73).length) c360] rfl rfl rfl rfl rfl rfl rfl ?_
                    let B233 : Ent := ⟨b364, 25, [i2 p0_0, i2 p0_1, i2 p0_2, i2 p0_3, i2 p0_4, .slice a359 ((y_73).length) c360]⟩
                    refine WO.cls (C' := St w0 m m [[B1], [B196], [B227], L355, L361, [B231], [B233]]) (fun _ h => h) ?_
                    refine WO_end ?_
                    refine WK_retI (RLc_cell tbok 6 rfl rfl rfl RLc_nil) (fun _ h => St.back (Ls := [[B1]]) (X := [[B196], [B227], L355, L361, [B231], [B233]]) h (Le.refl _) (Le.refl _)) ?_
                    refine WO.cls (C' := St w0 m m [[B1], [B196], [B227], L355, L361]) (fun _ h => St.take 5 h) ?_
                    refine WO_tree rfl ?_
                    refine WT_fin ?_
                    refine WO_storeB tbok 2 [i2 p0_0, i2 p0_1, i2 p0_2, i2 p0_3, i2 p0_4, .slice a353 ((y_73).length) c354] rfl rfl rfl rfl rfl rfl rfl ?_
                    let B234 : Ent := ⟨b351, 25, [i2 p0_0, i2 p0_1, i2 p0_2, i2 p0_3, i2 p0_4, .slice a353 ((y_73).length) c354]⟩
                    refine WO.cls (C' := St w0 m m [[B1], [B196], [B234], L355, L361]) (fun _ h => h) ?_
                    refine WO_storeB tbok 1 [i2 p0_0, i2 p0_1, i2 p0_2, i2 p0_3, i2 p0_4, .slice a359 ((y_73).length) c360] rfl rfl rfl rfl rfl rfl rfl ?_
                    let B235 : Ent := ⟨b317, 25, [i2 p0_0, i2 p0_1, i2 p0_2, i2 p0_3, i2 p0_4, .slice a359 ((y_73).length) c360]⟩
                    refine WO.cls (C' := St w0 m m [[B1], [B235], [B234], L355, L361]) (fun _ h => h) ?_
                    refine WO_end ?_
                    refine WK.cls (fun _ h => h.perm (Ls' := [[B1], [B234], L355, [B235], L361]) (List.Perm.flatten ((List.Perm.cons _ (List.Perm.swap _ _ _)).trans (List.Perm.cons _ (List.Perm.cons _ (List.Perm.swap _ _ _)))))) ?_
                    cases hx15
                    refine WK.sub ?_ (hk16 ⟨a353, c354, L355, a359, c360, L361, b351, b317⟩ ⟨hL355, hL361⟩)
                    exact ⟨rfl, rfl, rfl, rfl, rfl, rfl, trivial⟩
                  · exact WT_none
              · exact WT_none
    · refine WK_region ?_
      refine WO_loadB tbok 0 rfl rfl rfl rfl (fun _ h => h) rfl rfl ?_
      obtain ⟨y_74, hc365, hx4⟩ := bind_some hx4
      refine WO_call0 (.bool y_74) rfl rfl trivial rfl rfl rfl rfl St_closed ⟨12, #[], #[], rfl, callable_12, fun w hw => ⟨_, hw.sat, fiduciallaw48_few_walk h_p0_5 hc365⟩⟩ ?_
      refine WO_pure tbok 2 [(1, .int .u8 p1), (2, .slice a_p2 p2.length c_p2), (3, pb2 b1), (6, .bool false), (29, .bool (!y_74))] rfl ⟨rfl, rfl, rfl, rfl, rfl, trivial⟩ ?_
      refine WO_split (d := 29) (b := !y_74) rfl (fun hb366 => ?_) (fun hb366 => ?_)
      · have hx4 := ifT hb366 hx4
        refine WO_pure tbok 1 [(1, .int .u8 p1), (2, .slice a_p2 p2.length c_p2), (3, pb2 b1), (6, .bool false), (29, .bool true)] rfl ⟨rfl, rfl, rfl, rfl, rfl, trivial⟩ ?_
        refine WO_skip rfl rfl ?_
        refine WO_pure tbok 2 [(1, .int .u8 p1), (2, .slice a_p2 p2.length c_p2), (3, pb2 b1), (6, .bool false), (33, .bool true)] rfl ⟨rfl, rfl, rfl, rfl, rfl, trivial⟩ ?_
        refine WO_end ?_
        cases hx4
        refine WK.sub ?_ (WK.cls (fun _ h => h) hk5)
        exact ⟨rfl, rfl, rfl, rfl, rfl, trivial⟩
      · have hx4 := ifF hb366 hx4
        refine WO_loadB tbok 0 rfl rfl rfl rfl (fun _ h => h) rfl rfl ?_
        obtain ⟨y_75, hc367, hx4⟩ := bind_some hx4
        refine WO_call0 (i2 y_75) rfl rfl trivial rfl rfl rfl rfl St_closed ⟨17, #[], #[], rfl, callable_17, fun w hw => ⟨_, hw.sat, fiduciallaw48_checked_walk h_p0_5 hc367⟩⟩ ?_
        refine WO_pure tbok 2 [(1, .int .u8 p1), (2, .slice a_p2 p2.length c_p2), (3, pb2 b1), (6, .bool false), (33, .bool (y_75 != 0))] rfl ⟨rfl, rfl, rfl, rfl, rfl, trivial⟩ ?_
        refine WO_end ?_
        cases hx4
        refine WK.sub ?_ (WK.cls (fun _ h => h) hk5)
        exact ⟨rfl, rfl, rfl, rfl, rfl, trivial⟩
end Go.Proofs.Ytcaeieofjchpjaa
