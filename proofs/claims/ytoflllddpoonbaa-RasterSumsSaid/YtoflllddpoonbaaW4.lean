import Derived.Test.YtoflllddpoonbaaTab
import Derived.Test.YtoflllddpoonbaaM
import Derived.Test.YtoflllddpoonbaaW3
set_option linter.unusedVariables false
set_option maxRecDepth 100000
set_option maxHeartbeats 4000000
namespace Go.Proofs.Ytoflllddpoonbaa
open Go.E Go.RowKit
attribute [local irreducible] Go.E.WO Go.E.WK
theorem fiduciallaw13_RasterSums_walk {m : Mu} {p0_0 : Int} {p0_1 : Int} {p0_2 : Int} {p0_3 : List Int} {p1_0 : Int} {p1_1 : Int} {p1_2 : Int} {p1_3 : Int} {p2 : Int} {a_p0_3 : Option Addr} {q_p0_3 c_p0_3 : Nat} (h_p0_3 : SlR (FE (I1 .i64)) 1 m (.slice a_p0_3 q_p0_3 c_p0_3) p0_3) {r : Bool} (hm : fiduciallaw13_RasterSums p0_0 p0_1 p0_2 p0_3 p1_0 p1_1 p1_2 p1_3 p2 = some r) :
    Go.E.Spec Try.prog 7 [.agg #[.int .i64 p0_0, .int .i64 p0_1, .int .i64 p0_2, .slice a_p0_3 q_p0_3 c_p0_3], .agg #[.int .i64 p1_0, .int .i64 p1_1, .int .i64 p1_2, .int .i64 p1_3], .int .i64 p2] m (fun v _ _ => v = .bool r) := by
  refine Spec_enter Try.func7 rfl rfl rfl (fun w0 => ?_)
  refine WK.sub (e' := [(0, .agg #[.int .i64 p0_0, .int .i64 p0_1, .int .i64 p0_2, .slice a_p0_3 q_p0_3 c_p0_3]), (1, .agg #[.int .i64 p1_0, .int .i64 p1_1, .int .i64 p1_2, .int .i64 p1_3]), (2, .int .i64 p2)]) ⟨rfl, rfl, rfl, trivial⟩ ?_
  obtain rfl := SlR.qlen h_p0_3
  refine WK.sub (e' := [(0, .agg #[.int .i64 p0_0, .int .i64 p0_1, .int .i64 p0_2, .slice a_p0_3 p0_3.length c_p0_3]), (1, .agg #[.int .i64 p1_0, .int .i64 p1_1, .int .i64 p1_2, .int .i64 p1_3]), (2, .int .i64 p2)]) ⟨rfl, rfl, rfl, trivial⟩ ?_
  unfold fiduciallaw13_RasterSums at hm
  refine WK_seq ?_
  refine WK_region ?_
  refine WO_box [.int .i64 p0_0, .int .i64 p0_1, .int .i64 p0_2, .slice a_p0_3 p0_3.length c_p0_3] rfl rfl trivial rfl rfl rfl (fun b2 => ?_)
  refine WO.cls (C' := St w0 m m [[⟨b2, 24, [.int .i64 p0_0, .int .i64 p0_1, .int .i64 p0_2, .slice a_p0_3 p0_3.length c_p0_3]⟩]]) (fun _ h => h) ?_
  refine WO_box [.int .i64 p1_0, .int .i64 p1_1, .int .i64 p1_2, .int .i64 p1_3] rfl rfl trivial rfl rfl rfl (fun b3 => ?_)
  refine WO.cls (C' := St w0 m m [[⟨b2, 24, [.int .i64 p0_0, .int .i64 p0_1, .int .i64 p0_2, .slice a_p0_3 p0_3.length c_p0_3]⟩], [⟨b3, 48, [.int .i64 p1_0, .int .i64 p1_1, .int .i64 p1_2, .int .i64 p1_3]⟩]]) (fun _ h => h) ?_
  refine WO_pure tbok 1 [(2, .int .i64 p2), (3, .pointer (some ⟨b2, 0, none⟩)), (4, .pointer (some ⟨b3, 0, none⟩)), (6, .bool false)] rfl ⟨rfl, rfl, rfl, rfl, trivial⟩ ?_
  refine WO_end ?_
  refine WK_seq ?_
  refine WK_seq ?_
  refine WK_region ?_
  obtain ⟨y4, hc5, hm⟩ := bind_some hm
  refine WO_call0 (.bool y4) rfl rfl trivial rfl rfl rfl rfl St_closed ⟨11, #[], #[], rfl, callable_11, fun w hw => ⟨_, hw.sat, fiduciallaw13_known_walk hc5⟩⟩ ?_
  refine WO_pure tbok 1 [(2, .int .i64 p2), (3, .pointer (some ⟨b2, 0, none⟩)), (4, .pointer (some ⟨b3, 0, none⟩)), (6, .bool false), (18, .bool (!y4))] rfl ⟨rfl, rfl, rfl, rfl, rfl, trivial⟩ ?_
  refine WO_end ?_
  refine WK_cond (b := !y4) rfl (fun hb6 => ?_) (fun hb6 => ?_)
  · have hm := ifT hb6 hm
    refine WK_seq ?_
    refine WK_region ?_
    refine WO_pure tbok 1 [(2, .int .i64 p2), (3, .pointer (some ⟨b2, 0, none⟩)), (4, .pointer (some ⟨b3, 0, none⟩)), (6, .bool false)] rfl ⟨rfl, rfl, rfl, rfl, trivial⟩ ?_
    refine WO_end ?_
    cases hm
    exact WK_ret (ret_out (L := []) (RLc_tmp rfl RLc_nil) (List.nil_sublist _) rfl)
  · have hm := ifF hb6 hm
    refine WK_skip ?_
    refine WK_seq ?_
    refine WK_seq ?_
    refine WK_region ?_
    refine WO_loadB tbok 0 rfl rfl rfl rfl (fun _ h => h) rfl rfl ?_
    refine WO_bsliceX (E := V4) (El := El24) tbok (fun _ => rfl) (by decide) [.agg #[.int .i64 p0_0, .int .i64 p0_1, .int .i64 p0_2, .slice a_p0_3 p0_3.length c_p0_3]] [(.int .i64 p0_0, .int .i64 p0_1, .int .i64 p0_2, .slice a_p0_3 p0_3.length c_p0_3)] ([(p0_0, p0_1, p0_2, p0_3)] : List (Int × Int × Int × List Int)) rfl rfl trivial rfl rfl rfl rfl rfl rfl rfl rfl rfl rfl rfl rfl ⟨⟨_, _, _, rfl, h_p0_3⟩, trivial⟩ (fun b7 hb7 => ?_)
    refine WO.cls (C' := St w0 m m [[⟨b2, 24, [.int .i64 p0_0, .int .i64 p0_1, .int .i64 p0_2, .slice a_p0_3 p0_3.length c_p0_3]⟩], [⟨b3, 48, [.int .i64 p1_0, .int .i64 p1_1, .int .i64 p1_2, .int .i64 p1_3]⟩], [⟨b7, 24, [.int .i64 p0_0, .int .i64 p0_1, .int .i64 p0_2, .slice a_p0_3 p0_3.length c_p0_3]⟩]]) (fun _ h => h) ?_
    obtain ⟨y9, hc10, hm⟩ := bind_some hm
    refine WO_call0 (.bool y9) rfl rfl trivial rfl rfl rfl rfl St_closed ⟨12, #[], #[], rfl, callable_12, fun w hw => ⟨_, hw.satV, fiduciallaw13_few_walk (OwnX.rd (E := V4) (k := 4) (fun _ => rfl) hb7 mono_El24 hw.leV (fun _ hx => hw.memV (i := 2) rfl hx)) hc10⟩⟩ ?_
    refine WO_pure tbok 1 [(2, .int .i64 p2), (3, .pointer (some ⟨b2, 0, none⟩)), (4, .pointer (some ⟨b3, 0, none⟩)), (6, .bool false), (22, .bool (!y9))] rfl ⟨rfl, rfl, rfl, rfl, rfl, trivial⟩ ?_
    refine WO_end ?_
    refine WK_cond (b := !y9) rfl (fun hb11 => ?_) (fun hb11 => ?_)
    · have hm := ifT hb11 hm
      refine WK_seq ?_
      refine WK_region ?_
      refine WO_pure tbok 1 [(2, .int .i64 p2), (3, .pointer (some ⟨b2, 0, none⟩)), (4, .pointer (some ⟨b3, 0, none⟩)), (6, .bool true)] rfl ⟨rfl, rfl, rfl, rfl, trivial⟩ ?_
      refine WO_end ?_
      cases hm
      exact WK_ret (ret_out (L := []) (RLc_tmp rfl RLc_nil) (List.nil_sublist _) rfl)
    · have hm := ifF hb11 hm
      refine WK_skip ?_
      refine WK_seq ?_
      refine WK_region ?_
      refine WO_loadB tbok 0 rfl rfl rfl rfl (fun _ h => h) rfl rfl ?_
      obtain ⟨⟨y12, y13⟩, hc14, hm⟩ := bind_some hm
      refine WO_call2 (raster_Integral_Q (y12, y13)) rfl rfl trivial rfl rfl rfl rfl ⟨32, #[], #[], rfl, callable_32, raster_Integral_walk h_p0_3 hc14⟩ (fun v19 m20 L18 hle21 hq => ?_)
      obtain ⟨a15, qa15, c16, rfl, h22⟩ := hq
      obtain rfl := SlR.qlen h22
      refine WO.cls (C' := St w0 m m20 [[⟨b2, 24, [.int .i64 p0_0, .int .i64 p0_1, .int .i64 p0_2, .slice a_p0_3 p0_3.length c_p0_3]⟩], [⟨b3, 48, [.int .i64 p1_0, .int .i64 p1_1, .int .i64 p1_2, .int .i64 p1_3]⟩], [⟨b7, 24, [.int .i64 p0_0, .int .i64 p0_1, .int .i64 p0_2, .slice a_p0_3 p0_3.length c_p0_3]⟩], L18]) (fun _ h => h.sub (by simp)) ?_
      refine WO_pure tbok 5 [(2, .int .i64 p2), (3, .pointer (some ⟨b2, 0, none⟩)), (4, .pointer (some ⟨b3, 0, none⟩)), (6, .bool false), (7, .slice a15 ((y12).length) c16), (8, .int .i64 y13)] rfl ⟨rfl, rfl, rfl, rfl, rfl, rfl, trivial⟩ ?_
      refine WO_end ?_
      refine WK_seq ?_
      refine WK_region ?_
      refine WO_loadB tbok 0 rfl rfl rfl rfl (fun _ h => h) rfl rfl ?_
      refine WO_pure tbok 1 [(2, .int .i64 p2), (3, .pointer (some ⟨b2, 0, none⟩)), (4, .pointer (some ⟨b3, 0, none⟩)), (6, .bool false), (7, .slice a15 ((y12).length) c16), (8, .int .i64 y13), (29, .agg #[.int .i64 p0_0, .int .i64 p0_1, .int .i64 p0_2, .slice a_p0_3 p0_3.length c_p0_3]), (30, .int .i64 p2)] rfl ⟨rfl, rfl, rfl, rfl, rfl, rfl, rfl, rfl, trivial⟩ ?_
      obtain ⟨⟨y23, y24, y25, y26, y27⟩, hc28, hm⟩ := bind_some hm
      refine WO_call1 (raster_Rescale_Q (y23, y24, y25, y26, y27)) rfl rfl trivial rfl rfl rfl rfl ⟨33, #[], #[], rfl, callable_33, fun w hw => ⟨_, hw.sat, raster_Rescale_walk (h_p0_3.mono (mono_FE _) hle21) hc28⟩⟩ (fun v33 L32 hq => ?_)
      obtain ⟨a29, qa29, c30, rfl, hL32⟩ := hq
      obtain rfl := OwnE.qlen hL32
      refine WO.cls (C' := St w0 m m20 [[⟨b2, 24, [.int .i64 p0_0, .int .i64 p0_1, .int .i64 p0_2, .slice a_p0_3 p0_3.length c_p0_3]⟩], [⟨b3, 48, [.int .i64 p1_0, .int .i64 p1_1, .int .i64 p1_2, .int .i64 p1_3]⟩], [⟨b7, 24, [.int .i64 p0_0, .int .i64 p0_1, .int .i64 p0_2, .slice a_p0_3 p0_3.length c_p0_3]⟩], L18, L32]) (fun _ h => h) ?_
      refine WO_pure tbok 3 [(2, .int .i64 p2), (3, .pointer (some ⟨b2, 0, none⟩)), (4, .pointer (some ⟨b3, 0, none⟩)), (6, .bool false), (7, .slice a15 ((y12).length) c16), (8, .int .i64 y13), (32, .agg #[.int .i64 y23, .int .i64 y24, .int .i64 y25, .slice a29 ((y26).length) c30]), (33, .int .i64 y27)] rfl ⟨rfl, rfl, rfl, rfl, rfl, rfl, rfl, rfl, trivial⟩ ?_
      refine WO_alloc tbok [.int .i64 0, .int .i64 0, .int .i64 0, .slice none 0 0] rfl rfl trivial rfl rfl rfl rfl (fun b34 => ?_)
      refine WO.cls (C' := St w0 m m20 [[⟨b2, 24, [.int .i64 p0_0, .int .i64 p0_1, .int .i64 p0_2, .slice a_p0_3 p0_3.length c_p0_3]⟩], [⟨b3, 48, [.int .i64 p1_0, .int .i64 p1_1, .int .i64 p1_2, .int .i64 p1_3]⟩], [⟨b7, 24, [.int .i64 p0_0, .int .i64 p0_1, .int .i64 p0_2, .slice a_p0_3 p0_3.length c_p0_3]⟩], L18, L32, [⟨b34, 24, [.int .i64 0, .int .i64 0, .int .i64 0, .slice none 0 0]⟩]]) (fun _ h => h) ?_
      refine WO_storeB tbok 5 [.int .i64 y23, .int .i64 y24, .int .i64 y25, .slice a29 ((y26).length) c30] rfl rfl rfl rfl rfl rfl rfl ?_
      refine WO.cls (C' := St w0 m m20 [[⟨b2, 24, [.int .i64 p0_0, .int .i64 p0_1, .int .i64 p0_2, .slice a_p0_3 p0_3.length c_p0_3]⟩], [⟨b3, 48, [.int .i64 p1_0, .int .i64 p1_1, .int .i64 p1_2, .int .i64 p1_3]⟩], [⟨b7, 24, [.int .i64 p0_0, .int .i64 p0_1, .int .i64 p0_2, .slice a_p0_3 p0_3.length c_p0_3]⟩], L18, L32, [⟨b34, 24, [.int .i64 y23, .int .i64 y24, .int .i64 y25, .slice a29 ((y26).length) c30]⟩]]) (fun _ h => h) ?_
      refine WO_pure tbok 1 [(2, .int .i64 p2), (3, .pointer (some ⟨b2, 0, none⟩)), (4, .pointer (some ⟨b3, 0, none⟩)), (6, .bool false), (7, .slice a15 ((y12).length) c16), (8, .int .i64 y13), (9, .pointer (some ⟨b34, 0, none⟩)), (10, .int .i64 y27)] rfl ⟨rfl, rfl, rfl, rfl, rfl, rfl, rfl, rfl, trivial⟩ ?_
      refine WO_end ?_
      refine WK_seq ?_
      refine WK_seq ?_
      refine WK_region ?_
      refine WO_loadB tbok 0 rfl rfl rfl rfl (fun _ h => h) rfl rfl ?_
      obtain ⟨y35, hc36, hm⟩ := bind_some hm
      refine WO_call0 (.int .i64 y35) rfl rfl trivial rfl rfl rfl rfl St_closed ⟨15, #[], #[], rfl, callable_15, fun w hw => ⟨_, hw.sat, fiducialref13_Check_walk (h_p0_3.mono (mono_FE _) hle21) hc36⟩⟩ ?_
      refine WO_pure tbok 1 [(2, .int .i64 p2), (3, .pointer (some ⟨b2, 0, none⟩)), (4, .pointer (some ⟨b3, 0, none⟩)), (6, .bool false), (7, .slice a15 ((y12).length) c16), (8, .int .i64 y13), (9, .pointer (some ⟨b34, 0, none⟩)), (10, .int .i64 y27), (11, .int .i64 y35)] rfl ⟨rfl, rfl, rfl, rfl, rfl, rfl, rfl, rfl, rfl, trivial⟩ ?_
      refine WO_end ?_
      refine WK_seq ?_
      refine WK_region ?_
      refine WO_pure tbok 2 [(2, .int .i64 p2), (3, .pointer (some ⟨b2, 0, none⟩)), (4, .pointer (some ⟨b3, 0, none⟩)), (6, .bool false), (7, .slice a15 ((y12).length) c16), (8, .int .i64 y13), (9, .pointer (some ⟨b34, 0, none⟩)), (10, .int .i64 y27), (11, .int .i64 y35), (37, .bool (y35 != 0))] rfl ⟨rfl, rfl, rfl, rfl, rfl, rfl, rfl, rfl, rfl, rfl, trivial⟩ ?_
      refine WO_end ?_
      refine WK_cond (b := y35 != 0) rfl (fun hb37 => ?_) (fun hb37 => ?_)
      · have hm := ifT hb37 hm
        refine WK_seq ?_
        refine WK_region ?_
        refine WO_pure tbok 4 [(2, .int .i64 p2), (3, .pointer (some ⟨b2, 0, none⟩)), (4, .pointer (some ⟨b3, 0, none⟩)), (6, .bool false), (7, .slice a15 ((y12).length) c16), (8, .int .i64 y13), (9, .pointer (some ⟨b34, 0, none⟩)), (10, .int .i64 y27), (11, .int .i64 y35), (41, .bool (y13 == y35))] rfl ⟨rfl, rfl, rfl, rfl, rfl, rfl, rfl, rfl, rfl, rfl, trivial⟩ ?_
        refine WO_split (d := 41) (b := y13 == y35) rfl (fun hb38 => ?_) (fun hb38 => ?_)
        · have hm := ifT hb38 hm
          refine WO_pure tbok 5 [(2, .int .i64 p2), (3, .pointer (some ⟨b2, 0, none⟩)), (4, .pointer (some ⟨b3, 0, none⟩)), (6, .bool false), (7, .slice a15 ((y12).length) c16), (8, .int .i64 y13), (9, .pointer (some ⟨b34, 0, none⟩)), (10, .int .i64 y27), (46, .bool (y27 == y35))] rfl ⟨rfl, rfl, rfl, rfl, rfl, rfl, rfl, rfl, rfl, trivial⟩ ?_
          refine WO_split (d := 46) (b := y27 == y35) rfl (fun hb39 => ?_) (fun hb39 => ?_)
          · have hm := ifT hb39 hm
            refine WO_pure tbok 5 [(2, .int .i64 p2), (3, .pointer (some ⟨b2, 0, none⟩)), (4, .pointer (some ⟨b3, 0, none⟩)), (6, .bool false), (7, .slice a15 ((y12).length) c16), (8, .int .i64 y13), (9, .pointer (some ⟨b34, 0, none⟩)), (10, .int .i64 y27), (51, .bool (((y12).length : Int) == 0))] rfl ⟨rfl, rfl, rfl, rfl, rfl, rfl, rfl, rfl, rfl, trivial⟩ ?_
            refine WO_split (d := 51) (b := ((y12).length : Int) == 0) rfl (fun hb40 => ?_) (fun hb40 => ?_)
            · have hm := ifT hb40 hm
              refine WO_loadB tbok 5 rfl rfl rfl rfl (fun _ h => h) rfl rfl ?_
              obtain ⟨y41, hc42, hm⟩ := bind_some hm
              refine WO_call0 (.bool y41) rfl rfl trivial rfl rfl rfl rfl St_closed ⟨16, #[], #[], rfl, callable_16, fun w hw => ⟨_, hw.satV, fiduciallaw13_empty_walk (OwnE.rd (E := (I1 .i64)) (k := 1) (fun _ => rfl) hL32 (fun _ hx => hw.memV (i := 4) rfl hx)) hc42⟩⟩ ?_
              refine WO_pure tbok 2 [(2, .int .i64 p2), (3, .pointer (some ⟨b2, 0, none⟩)), (4, .pointer (some ⟨b3, 0, none⟩)), (6, .bool y41), (7, .slice a15 ((y12).length) c16), (8, .int .i64 y13), (9, .pointer (some ⟨b34, 0, none⟩)), (10, .int .i64 y27)] rfl ⟨rfl, rfl, rfl, rfl, rfl, rfl, rfl, rfl, trivial⟩ ?_
              refine WO_end ?_
              cases hm
              exact WK_ret (ret_out (L := []) (RLc_tmp rfl RLc_nil) (List.nil_sublist _) rfl)
            · have hm := ifF hb40 hm
              refine WO_pure tbok 1 [(2, .int .i64 p2), (3, .pointer (some ⟨b2, 0, none⟩)), (4, .pointer (some ⟨b3, 0, none⟩)), (6, .bool false), (7, .slice a15 ((y12).length) c16), (8, .int .i64 y13), (9, .pointer (some ⟨b34, 0, none⟩)), (10, .int .i64 y27), (51, .bool false)] rfl ⟨rfl, rfl, rfl, rfl, rfl, rfl, rfl, rfl, rfl, trivial⟩ ?_
              refine WO_skip rfl rfl ?_
              refine WO_pure tbok 2 [(2, .int .i64 p2), (3, .pointer (some ⟨b2, 0, none⟩)), (4, .pointer (some ⟨b3, 0, none⟩)), (6, .bool false), (7, .slice a15 ((y12).length) c16), (8, .int .i64 y13), (9, .pointer (some ⟨b34, 0, none⟩)), (10, .int .i64 y27)] rfl ⟨rfl, rfl, rfl, rfl, rfl, rfl, rfl, rfl, trivial⟩ ?_
              refine WO_end ?_
              cases hm
              exact WK_ret (ret_out (L := []) (RLc_tmp rfl RLc_nil) (List.nil_sublist _) rfl)
          · have hm := ifF hb39 hm
            refine WO_pure tbok 6 [(2, .int .i64 p2), (3, .pointer (some ⟨b2, 0, none⟩)), (4, .pointer (some ⟨b3, 0, none⟩)), (6, .bool false), (7, .slice a15 ((y12).length) c16), (8, .int .i64 y13), (9, .pointer (some ⟨b34, 0, none⟩)), (10, .int .i64 y27), (51, .bool false)] rfl ⟨rfl, rfl, rfl, rfl, rfl, rfl, rfl, rfl, rfl, trivial⟩ ?_
            refine WO_skip rfl rfl ?_
            refine WO_pure tbok 2 [(2, .int .i64 p2), (3, .pointer (some ⟨b2, 0, none⟩)), (4, .pointer (some ⟨b3, 0, none⟩)), (6, .bool false), (7, .slice a15 ((y12).length) c16), (8, .int .i64 y13), (9, .pointer (some ⟨b34, 0, none⟩)), (10, .int .i64 y27)] rfl ⟨rfl, rfl, rfl, rfl, rfl, rfl, rfl, rfl, trivial⟩ ?_
            refine WO_end ?_
            cases hm
            exact WK_ret (ret_out (L := []) (RLc_tmp rfl RLc_nil) (List.nil_sublist _) rfl)
        · have hm := ifF hb38 hm
          refine WO_pure tbok 11 [(2, .int .i64 p2), (3, .pointer (some ⟨b2, 0, none⟩)), (4, .pointer (some ⟨b3, 0, none⟩)), (6, .bool false), (7, .slice a15 ((y12).length) c16), (8, .int .i64 y13), (9, .pointer (some ⟨b34, 0, none⟩)), (10, .int .i64 y27), (51, .bool false)] rfl ⟨rfl, rfl, rfl, rfl, rfl, rfl, rfl, rfl, rfl, trivial⟩ ?_
          refine WO_skip rfl rfl ?_
          refine WO_pure tbok 2 [(2, .int .i64 p2), (3, .pointer (some ⟨b2, 0, none⟩)), (4, .pointer (some ⟨b3, 0, none⟩)), (6, .bool false), (7, .slice a15 ((y12).length) c16), (8, .int .i64 y13), (9, .pointer (some ⟨b34, 0, none⟩)), (10, .int .i64 y27)] rfl ⟨rfl, rfl, rfl, rfl, rfl, rfl, rfl, rfl, trivial⟩ ?_
          refine WO_end ?_
          cases hm
          exact WK_ret (ret_out (L := []) (RLc_tmp rfl RLc_nil) (List.nil_sublist _) rfl)
      · have hm := ifF hb37 hm
        refine WK_skip ?_
        refine WK_seq ?_
        refine WK_seq ?_
        obtain ⟨s43, hx44, hm⟩ := bind_some hm
        refine WK_meet [(2, .int .i64 p2), (3, .pointer (some ⟨b2, 0, none⟩)), (4, .pointer (some ⟨b3, 0, none⟩)), (6, .bool false), (7, .slice a15 ((y12).length) c16), (8, .int .i64 y13), (9, .pointer (some ⟨b34, 0, none⟩)), (10, .int .i64 y27), (60, .bool s43)] (St w0 m m20 [[⟨b2, 24, [.int .i64 p0_0, .int .i64 p0_1, .int .i64 p0_2, .slice a_p0_3 p0_3.length c_p0_3]⟩], [⟨b3, 48, [.int .i64 p1_0, .int .i64 p1_1, .int .i64 p1_2, .int .i64 p1_3]⟩], [⟨b7, 24, [.int .i64 p0_0, .int .i64 p0_1, .int .i64 p0_2, .slice a_p0_3 p0_3.length c_p0_3]⟩], L18, L32, [⟨b34, 24, [.int .i64 y23, .int .i64 y24, .int .i64 y25, .slice a29 ((y26).length) c30]⟩]]) ?_ (fun hk45 => ?_)
        · refine WK_cond (b := s43) rfl (fun hb46 => ?_) (fun hb46 => ?_)
          · have hm := ifT hb46 hm
            refine WK_seq ?_
            obtain ⟨s47, hx48, hm⟩ := bind_some hm
            refine WK_meet [(3, .pointer (some ⟨b2, 0, none⟩)), (4, .pointer (some ⟨b3, 0, none⟩)), (6, .bool false), (7, .slice a15 ((y12).length) c16), (8, .int .i64 y13), (67, .bool s47)] (St w0 m m20 [[⟨b2, 24, [.int .i64 p0_0, .int .i64 p0_1, .int .i64 p0_2, .slice a_p0_3 p0_3.length c_p0_3]⟩], [⟨b3, 48, [.int .i64 p1_0, .int .i64 p1_1, .int .i64 p1_2, .int .i64 p1_3]⟩], [⟨b7, 24, [.int .i64 p0_0, .int .i64 p0_1, .int .i64 p0_2, .slice a_p0_3 p0_3.length c_p0_3]⟩], L18, L32, [⟨b34, 24, [.int .i64 y23, .int .i64 y24, .int .i64 y25, .slice a29 ((y26).length) c30]⟩]]) ?_ (fun hk49 => ?_)
            · refine WK_cond (b := s47) rfl (fun hb50 => ?_) (fun hb50 => ?_)
              · have hm := ifT hb50 hm
                refine WK_seq ?_
                refine WK_region ?_
                refine WO_pure tbok 1 [(3, .pointer (some ⟨b2, 0, none⟩)), (4, .pointer (some ⟨b3, 0, none⟩)), (6, .bool false), (7, .slice a15 ((y12).length) c16), (8, .int .i64 y13)] rfl ⟨rfl, rfl, rfl, rfl, rfl, trivial⟩ ?_
                refine WO_end ?_
                cases hm
                exact WK_ret (ret_out (L := []) (RLc_tmp rfl RLc_nil) (List.nil_sublist _) rfl)
              · have hm := ifF hb50 hm
                refine WK_skip ?_
                refine WK_seq ?_
                refine WK_seq ?_
                obtain ⟨s51, hx52, hm⟩ := bind_some hm
                refine WK_meet [(3, .pointer (some ⟨b2, 0, none⟩)), (4, .pointer (some ⟨b3, 0, none⟩)), (6, .bool false), (7, .slice a15 ((y12).length) c16), (87, .bool s51)] (St w0 m m20 [[⟨b2, 24, [.int .i64 p0_0, .int .i64 p0_1, .int .i64 p0_2, .slice a_p0_3 p0_3.length c_p0_3]⟩], [⟨b3, 48, [.int .i64 p1_0, .int .i64 p1_1, .int .i64 p1_2, .int .i64 p1_3]⟩], [⟨b7, 24, [.int .i64 p0_0, .int .i64 p0_1, .int .i64 p0_2, .slice a_p0_3 p0_3.length c_p0_3]⟩], L18, L32, [⟨b34, 24, [.int .i64 y23, .int .i64 y24, .int .i64 y25, .slice a29 ((y26).length) c30]⟩]]) ?_ (fun hk53 => ?_)
                · refine WK_cond (b := s51) rfl (fun hb54 => ?_) (fun hb54 => ?_)
                  · have hm := ifT hb54 hm
                    refine WK_seq ?_
                    refine WK_region ?_
                    refine WO_pure tbok 1 [(3, .pointer (some ⟨b2, 0, none⟩)), (4, .pointer (some ⟨b3, 0, none⟩)), (6, .bool false), (7, .slice a15 ((y12).length) c16)] rfl ⟨rfl, rfl, rfl, rfl, trivial⟩ ?_
                    refine WO_end ?_
                    cases hm
                    exact WK_ret (ret_out (L := []) (RLc_tmp rfl RLc_nil) (List.nil_sublist _) rfl)
                  · have hm := ifF hb54 hm
                    refine WK_skip ?_
                    refine WK_seq ?_
                    refine WK_seq ?_
                    refine WK_region ?_
                    refine WO_pure tbok 3 [(3, .pointer (some ⟨b2, 0, none⟩)), (4, .pointer (some ⟨b3, 0, none⟩)), (6, .bool false), (7, .slice a15 ((y12).length) c16), (88, .slice a15 ((y12).length) c16), (89, .int .i64 ((y12).length : Int)), (90, .int .i64 0)] rfl ⟨rfl, rfl, rfl, rfl, rfl, rfl, rfl, trivial⟩ ?_
                    refine WO_end ?_
                    obtain ⟨x56, hx57, hm⟩ := bind_some hm
                    refine WK_join (β := Unit × Unit) (fun p => Sum.inr p.1 = x56) (fun p => [(3, .pointer (some ⟨b2, 0, none⟩)), (4, .pointer (some ⟨b3, 0, none⟩)), (6, .bool false), (7, .slice a15 ((y12).length) c16)]) (fun p => St w0 m m20 [[⟨b2, 24, [.int .i64 p0_0, .int .i64 p0_1, .int .i64 p0_2, .slice a_p0_3 p0_3.length c_p0_3]⟩], [⟨b3, 48, [.int .i64 p1_0, .int .i64 p1_1, .int .i64 p1_2, .int .i64 p1_3]⟩], [⟨b7, 24, [.int .i64 p0_0, .int .i64 p0_1, .int .i64 p0_2, .slice a_p0_3 p0_3.length c_p0_3]⟩], L18, L32, [⟨b34, 24, [.int .i64 y23, .int .i64 y24, .int .i64 y25, .slice a29 ((y26).length) c30]⟩]]) ?_ (fun hk58 => ?_)
                    · rintro ⟨⟨⟩, ⟨⟩⟩ hq64
                      subst hq64
                      refine WK.sub (e' := [(3, .pointer (some ⟨b2, 0, none⟩)), (4, .pointer (some ⟨b3, 0, none⟩)), (6, .bool false), (7, .slice a15 ((y12).length) c16)]) ⟨rfl, rfl, rfl, rfl, trivial⟩ (WK.cls (C' := St w0 m m20 [[⟨b2, 24, [.int .i64 p0_0, .int .i64 p0_1, .int .i64 p0_2, .slice a_p0_3 p0_3.length c_p0_3]⟩], [⟨b3, 48, [.int .i64 p1_0, .int .i64 p1_1, .int .i64 p1_2, .int .i64 p1_3]⟩], [⟨b7, 24, [.int .i64 p0_0, .int .i64 p0_1, .int .i64 p0_2, .slice a_p0_3 p0_3.length c_p0_3]⟩], L18, L32, [⟨b34, 24, [.int .i64 y23, .int .i64 y24, .int .i64 y25, .slice a29 ((y26).length) c30]⟩]]) (fun _ h => h) ?_)
                      refine WK_seq ?_
                      refine WK_region ?_
                      refine WO_pure tbok 2 [(3, .pointer (some ⟨b2, 0, none⟩)), (4, .pointer (some ⟨b3, 0, none⟩)), (6, .bool false), (117, .slice a15 ((y12).length) c16), (118, .pointer (some ⟨b3, 0, none⟩))] rfl ⟨rfl, rfl, rfl, rfl, rfl, trivial⟩ ?_
                      refine WO_loadB tbok 1 rfl rfl rfl rfl (fun _ h => h) rfl rfl ?_
                      refine WO_pure tbok 1 [(3, .pointer (some ⟨b2, 0, none⟩)), (4, .pointer (some ⟨b3, 0, none⟩)), (6, .bool false), (117, .slice a15 ((y12).length) c16), (119, .int .i64 p1_0), (120, .pointer (some ⟨b3, 1, none⟩))] rfl ⟨rfl, rfl, rfl, rfl, rfl, rfl, trivial⟩ ?_
                      refine WO_loadB tbok 1 rfl rfl rfl rfl (fun _ h => h) rfl rfl ?_
                      refine WO_pure tbok 1 [(3, .pointer (some ⟨b2, 0, none⟩)), (4, .pointer (some ⟨b3, 0, none⟩)), (6, .bool false), (117, .slice a15 ((y12).length) c16), (119, .int .i64 p1_0), (121, .int .i64 p1_1), (122, .pointer (some ⟨b3, 2, none⟩))] rfl ⟨rfl, rfl, rfl, rfl, rfl, rfl, rfl, trivial⟩ ?_
                      refine WO_loadB tbok 1 rfl rfl rfl rfl (fun _ h => h) rfl rfl ?_
                      refine WO_pure tbok 1 [(3, .pointer (some ⟨b2, 0, none⟩)), (4, .pointer (some ⟨b3, 0, none⟩)), (6, .bool false), (117, .slice a15 ((y12).length) c16), (119, .int .i64 p1_0), (121, .int .i64 p1_1), (123, .int .i64 p1_2), (124, .pointer (some ⟨b3, 3, none⟩))] rfl ⟨rfl, rfl, rfl, rfl, rfl, rfl, rfl, rfl, trivial⟩ ?_
                      refine WO_loadB tbok 1 rfl rfl rfl rfl (fun _ h => h) rfl rfl ?_
                      obtain ⟨⟨y65, y66⟩, hc67, hm⟩ := bind_some hm
                      refine WO_call0 (.tuple #[.int .i64 y65, .int .i64 y66]) rfl rfl trivial rfl rfl rfl rfl St_closed ⟨36, #[], #[], rfl, callable_36, fun w hw => ⟨_, hw.sat, raster_Sum_walk h22 hc67⟩⟩ ?_
                      refine WO_pure tbok 5 [(3, .pointer (some ⟨b2, 0, none⟩)), (4, .pointer (some ⟨b3, 0, none⟩)), (6, .bool false), (8, .int .i64 y66), (16, .int .i64 y65)] rfl ⟨rfl, rfl, rfl, rfl, rfl, trivial⟩ ?_
                      refine WO_end ?_
                      refine WK_seq ?_
                      refine WK_seq ?_
                      obtain ⟨s68, hx69, hm⟩ := bind_some hm
                      refine WK_meet [(3, .pointer (some ⟨b2, 0, none⟩)), (4, .pointer (some ⟨b3, 0, none⟩)), (6, .bool false), (8, .int .i64 y66), (16, .int .i64 y65), (180, .bool s68)] (St w0 m m20 [[⟨b2, 24, [.int .i64 p0_0, .int .i64 p0_1, .int .i64 p0_2, .slice a_p0_3 p0_3.length c_p0_3]⟩], [⟨b3, 48, [.int .i64 p1_0, .int .i64 p1_1, .int .i64 p1_2, .int .i64 p1_3]⟩], [⟨b7, 24, [.int .i64 p0_0, .int .i64 p0_1, .int .i64 p0_2, .slice a_p0_3 p0_3.length c_p0_3]⟩], L18, L32, [⟨b34, 24, [.int .i64 y23, .int .i64 y24, .int .i64 y25, .slice a29 ((y26).length) c30]⟩]]) ?_ (fun hk70 => ?_)
                      · refine WK_cond (b := s68) rfl (fun hb71 => ?_) (fun hb71 => ?_)
                        · have hm := ifT hb71 hm
                          refine WK_seq ?_
                          refine WK_region ?_
                          refine WO_pure tbok 3 [(3, .pointer (some ⟨b2, 0, none⟩)), (4, .pointer (some ⟨b3, 0, none⟩)), (6, .bool false), (8, .int .i64 y66), (16, .int .i64 y65), (183, .bool (y66 == 2))] rfl ⟨rfl, rfl, rfl, rfl, rfl, rfl, trivial⟩ ?_
                          refine WO_split (d := 183) (b := y66 == 2) rfl (fun hb72 => ?_) (fun hb72 => ?_)
                          · have hm := ifT hb72 hm
                            refine WO_pure tbok 4 [(3, .pointer (some ⟨b2, 0, none⟩)), (4, .pointer (some ⟨b3, 0, none⟩)), (6, .bool (y65 == 0)), (8, .int .i64 y66), (16, .int .i64 y65)] rfl ⟨rfl, rfl, rfl, rfl, rfl, trivial⟩ ?_
                            refine WO_end ?_
                            cases hm
                            exact WK_ret (ret_out (L := []) (RLc_tmp rfl RLc_nil) (List.nil_sublist _) rfl)
                          · have hm := ifF hb72 hm
                            refine WO_pure tbok 4 [(3, .pointer (some ⟨b2, 0, none⟩)), (4, .pointer (some ⟨b3, 0, none⟩)), (6, .bool false), (8, .int .i64 y66), (16, .int .i64 y65)] rfl ⟨rfl, rfl, rfl, rfl, rfl, trivial⟩ ?_
                            refine WO_end ?_
                            cases hm
                            exact WK_ret (ret_out (L := []) (RLc_tmp rfl RLc_nil) (List.nil_sublist _) rfl)
                        · have hm := ifF hb71 hm
                          refine WK_skip ?_
                          refine WK_seq ?_
                          refine WK_region ?_
                          refine WO_pure tbok 3 [(3, .pointer (some ⟨b2, 0, none⟩)), (4, .pointer (some ⟨b3, 0, none⟩)), (6, .bool false), (16, .int .i64 y65), (189, .bool (y66 == 0))] rfl ⟨rfl, rfl, rfl, rfl, rfl, trivial⟩ ?_
                          refine WO_split (d := 189) (b := y66 == 0) rfl (fun hb73 => ?_) (fun hb73 => ?_)
                          · have hm := ifT hb73 hm
                            refine WO_pure tbok 1 [(3, .pointer (some ⟨b2, 0, none⟩)), (4, .pointer (some ⟨b3, 0, none⟩)), (6, .bool false), (189, .bool true), (190, .int .i64 y65)] rfl ⟨rfl, rfl, rfl, rfl, rfl, trivial⟩ ?_
                            refine WO_loadB tbok 0 rfl rfl rfl rfl (fun _ h => h) rfl rfl ?_
                            refine WO_pure tbok 1 [(4, .pointer (some ⟨b3, 0, none⟩)), (6, .bool false), (189, .bool true), (190, .int .i64 y65), (191, .agg #[.int .i64 p0_0, .int .i64 p0_1, .int .i64 p0_2, .slice a_p0_3 p0_3.length c_p0_3]), (192, .pointer (some ⟨b3, 0, none⟩))] rfl ⟨rfl, rfl, rfl, rfl, rfl, rfl, trivial⟩ ?_
                            refine WO_loadB tbok 1 rfl rfl rfl rfl (fun _ h => h) rfl rfl ?_
                            refine WO_pure tbok 1 [(4, .pointer (some ⟨b3, 0, none⟩)), (6, .bool false), (189, .bool true), (190, .int .i64 y65), (191, .agg #[.int .i64 p0_0, .int .i64 p0_1, .int .i64 p0_2, .slice a_p0_3 p0_3.length c_p0_3]), (193, .int .i64 p1_0), (194, .pointer (some ⟨b3, 1, none⟩))] rfl ⟨rfl, rfl, rfl, rfl, rfl, rfl, rfl, trivial⟩ ?_
                            refine WO_loadB tbok 1 rfl rfl rfl rfl (fun _ h => h) rfl rfl ?_
                            refine WO_pure tbok 1 [(4, .pointer (some ⟨b3, 0, none⟩)), (6, .bool false), (189, .bool true), (190, .int .i64 y65), (191, .agg #[.int .i64 p0_0, .int .i64 p0_1, .int .i64 p0_2, .slice a_p0_3 p0_3.length c_p0_3]), (193, .int .i64 p1_0), (195, .int .i64 p1_1), (196, .pointer (some ⟨b3, 2, none⟩))] rfl ⟨rfl, rfl, rfl, rfl, rfl, rfl, rfl, rfl, trivial⟩ ?_
                            refine WO_loadB tbok 1 rfl rfl rfl rfl (fun _ h => h) rfl rfl ?_
                            refine WO_pure tbok 1 [(6, .bool false), (189, .bool true), (190, .int .i64 y65), (191, .agg #[.int .i64 p0_0, .int .i64 p0_1, .int .i64 p0_2, .slice a_p0_3 p0_3.length c_p0_3]), (193, .int .i64 p1_0), (195, .int .i64 p1_1), (197, .int .i64 p1_2), (198, .pointer (some ⟨b3, 3, none⟩))] rfl ⟨rfl, rfl, rfl, rfl, rfl, rfl, rfl, rfl, trivial⟩ ?_
                            refine WO_loadB tbok 1 rfl rfl rfl rfl (fun _ h => h) rfl rfl ?_
                            obtain ⟨y74, hc75, hm⟩ := bind_some hm
                            refine WO_call0 (.int .i64 y74) rfl rfl trivial rfl rfl rfl rfl St_closed ⟨35, #[], #[], rfl, callable_35, fun w hw => ⟨_, hw.sat, fiducialref13_Sum_walk (h_p0_3.mono (mono_FE _) hle21) hc75⟩⟩ ?_
                            refine WO_pure tbok 3 [(6, .bool (y65 == y74))] rfl ⟨rfl, trivial⟩ ?_
                            refine WO_end ?_
                            cases hm
                            exact WK_ret (ret_out (L := []) (RLc_tmp rfl RLc_nil) (List.nil_sublist _) rfl)
                          · have hm := ifF hb73 hm
                            refine WO_pure tbok 10 [(6, .bool false), (189, .bool false)] rfl ⟨rfl, rfl, trivial⟩ ?_
                            refine WO_skip rfl rfl ?_
                            refine WO_pure tbok 3 [(6, .bool false)] rfl ⟨rfl, trivial⟩ ?_
                            refine WO_end ?_
                            cases hm
                            exact WK_ret (ret_out (L := []) (RLc_tmp rfl RLc_nil) (List.nil_sublist _) rfl)
                      · refine WK_region ?_
                        refine WO_pure tbok 1 [(3, .pointer (some ⟨b2, 0, none⟩)), (4, .pointer (some ⟨b3, 0, none⟩)), (6, .bool false), (8, .int .i64 y66), (16, .int .i64 y65), (129, .pointer (some ⟨b3, 0, none⟩))] rfl ⟨rfl, rfl, rfl, rfl, rfl, rfl, trivial⟩ ?_
                        refine WO_loadB tbok 1 rfl rfl rfl rfl (fun _ h => h) rfl rfl ?_
                        refine WO_pure tbok 2 [(3, .pointer (some ⟨b2, 0, none⟩)), (4, .pointer (some ⟨b3, 0, none⟩)), (6, .bool false), (8, .int .i64 y66), (16, .int .i64 y65), (132, .bool (decide (p1_0 < 0)))] rfl ⟨rfl, rfl, rfl, rfl, rfl, rfl, trivial⟩ ?_
                        refine WO_split (d := 132) (b := decide (p1_0 < 0)) rfl (fun hb76 => ?_) (fun hb76 => ?_)
                        · have hx69 := ifT hb76 hx69
                          refine WO_pure tbok 48 [(3, .pointer (some ⟨b2, 0, none⟩)), (4, .pointer (some ⟨b3, 0, none⟩)), (6, .bool false), (8, .int .i64 y66), (16, .int .i64 y65), (180, .bool true)] rfl ⟨rfl, rfl, rfl, rfl, rfl, rfl, trivial⟩ ?_
                          refine WO_end ?_
                          cases hx69
                          refine WK.sub ?_ (WK.cls (fun _ h => h) hk70)
                          exact ⟨rfl, rfl, rfl, rfl, rfl, rfl, trivial⟩
                        · have hx69 := ifF hb76 hx69
                          refine WO_pure tbok 1 [(3, .pointer (some ⟨b2, 0, none⟩)), (4, .pointer (some ⟨b3, 0, none⟩)), (6, .bool false), (8, .int .i64 y66), (16, .int .i64 y65), (132, .bool false), (133, .pointer (some ⟨b3, 1, none⟩))] rfl ⟨rfl, rfl, rfl, rfl, rfl, rfl, rfl, trivial⟩ ?_
                          refine WO_loadB tbok 1 rfl rfl rfl rfl (fun _ h => h) rfl rfl ?_
                          refine WO_pure tbok 3 [(3, .pointer (some ⟨b2, 0, none⟩)), (4, .pointer (some ⟨b3, 0, none⟩)), (6, .bool false), (8, .int .i64 y66), (16, .int .i64 y65), (137, .bool (decide (p1_1 < 0)))] rfl ⟨rfl, rfl, rfl, rfl, rfl, rfl, trivial⟩ ?_
                          refine WO_split (d := 137) (b := decide (p1_1 < 0)) rfl (fun hb77 => ?_) (fun hb77 => ?_)
                          · have hx69 := ifT hb77 hx69
                            refine WO_pure tbok 43 [(3, .pointer (some ⟨b2, 0, none⟩)), (4, .pointer (some ⟨b3, 0, none⟩)), (6, .bool false), (8, .int .i64 y66), (16, .int .i64 y65), (180, .bool true)] rfl ⟨rfl, rfl, rfl, rfl, rfl, rfl, trivial⟩ ?_
                            refine WO_end ?_
                            cases hx69
                            refine WK.sub ?_ (WK.cls (fun _ h => h) hk70)
                            exact ⟨rfl, rfl, rfl, rfl, rfl, rfl, trivial⟩
                          · have hx69 := ifF hb77 hx69
                            refine WO_pure tbok 1 [(3, .pointer (some ⟨b2, 0, none⟩)), (4, .pointer (some ⟨b3, 0, none⟩)), (6, .bool false), (8, .int .i64 y66), (16, .int .i64 y65), (137, .bool false), (138, .pointer (some ⟨b3, 2, none⟩))] rfl ⟨rfl, rfl, rfl, rfl, rfl, rfl, rfl, trivial⟩ ?_
                            refine WO_loadB tbok 1 rfl rfl rfl rfl (fun _ h => h) rfl rfl ?_
                            refine WO_pure tbok 3 [(3, .pointer (some ⟨b2, 0, none⟩)), (4, .pointer (some ⟨b3, 0, none⟩)), (6, .bool false), (8, .int .i64 y66), (16, .int .i64 y65), (142, .bool (decide (p1_2 < 0)))] rfl ⟨rfl, rfl, rfl, rfl, rfl, rfl, trivial⟩ ?_
                            refine WO_split (d := 142) (b := decide (p1_2 < 0)) rfl (fun hb78 => ?_) (fun hb78 => ?_)
                            · have hx69 := ifT hb78 hx69
                              refine WO_pure tbok 38 [(3, .pointer (some ⟨b2, 0, none⟩)), (4, .pointer (some ⟨b3, 0, none⟩)), (6, .bool false), (8, .int .i64 y66), (16, .int .i64 y65), (180, .bool true)] rfl ⟨rfl, rfl, rfl, rfl, rfl, rfl, trivial⟩ ?_
                              refine WO_end ?_
                              cases hx69
                              refine WK.sub ?_ (WK.cls (fun _ h => h) hk70)
                              exact ⟨rfl, rfl, rfl, rfl, rfl, rfl, trivial⟩
                            · have hx69 := ifF hb78 hx69
                              refine WO_pure tbok 1 [(3, .pointer (some ⟨b2, 0, none⟩)), (4, .pointer (some ⟨b3, 0, none⟩)), (6, .bool false), (8, .int .i64 y66), (16, .int .i64 y65), (142, .bool false), (143, .pointer (some ⟨b3, 3, none⟩))] rfl ⟨rfl, rfl, rfl, rfl, rfl, rfl, rfl, trivial⟩ ?_
                              refine WO_loadB tbok 1 rfl rfl rfl rfl (fun _ h => h) rfl rfl ?_
                              refine WO_pure tbok 3 [(3, .pointer (some ⟨b2, 0, none⟩)), (4, .pointer (some ⟨b3, 0, none⟩)), (6, .bool false), (8, .int .i64 y66), (16, .int .i64 y65), (147, .bool (decide (p1_3 < 0)))] rfl ⟨rfl, rfl, rfl, rfl, rfl, rfl, trivial⟩ ?_
                              refine WO_split (d := 147) (b := decide (p1_3 < 0)) rfl (fun hb79 => ?_) (fun hb79 => ?_)
                              · have hx69 := ifT hb79 hx69
                                refine WO_pure tbok 33 [(3, .pointer (some ⟨b2, 0, none⟩)), (4, .pointer (some ⟨b3, 0, none⟩)), (6, .bool false), (8, .int .i64 y66), (16, .int .i64 y65), (180, .bool true)] rfl ⟨rfl, rfl, rfl, rfl, rfl, rfl, trivial⟩ ?_
                                refine WO_end ?_
                                cases hx69
                                refine WK.sub ?_ (WK.cls (fun _ h => h) hk70)
                                exact ⟨rfl, rfl, rfl, rfl, rfl, rfl, trivial⟩
                              · have hx69 := ifF hb79 hx69
                                refine WO_pure tbok 1 [(3, .pointer (some ⟨b2, 0, none⟩)), (4, .pointer (some ⟨b3, 0, none⟩)), (6, .bool false), (8, .int .i64 y66), (16, .int .i64 y65), (147, .bool false), (148, .pointer (some ⟨b3, 0, none⟩))] rfl ⟨rfl, rfl, rfl, rfl, rfl, rfl, rfl, trivial⟩ ?_
                                refine WO_loadB tbok 1 rfl rfl rfl rfl (fun _ h => h) rfl rfl ?_
                                refine WO_pure tbok 1 [(3, .pointer (some ⟨b2, 0, none⟩)), (4, .pointer (some ⟨b3, 0, none⟩)), (6, .bool false), (8, .int .i64 y66), (16, .int .i64 y65), (147, .bool false), (149, .int .i64 p1_0), (150, .pointer (some ⟨b2, 0, none⟩))] rfl ⟨rfl, rfl, rfl, rfl, rfl, rfl, rfl, rfl, trivial⟩ ?_
                                refine WO_loadB tbok 0 rfl rfl rfl rfl (fun _ h => h) rfl rfl ?_
                                refine WO_pure tbok 3 [(3, .pointer (some ⟨b2, 0, none⟩)), (4, .pointer (some ⟨b3, 0, none⟩)), (6, .bool false), (8, .int .i64 y66), (16, .int .i64 y65), (154, .bool (decide (p0_0 < p1_0)))] rfl ⟨rfl, rfl, rfl, rfl, rfl, rfl, trivial⟩ ?_
                                refine WO_split (d := 154) (b := decide (p0_0 < p1_0)) rfl (fun hb80 => ?_) (fun hb80 => ?_)
                                · have hx69 := ifT hb80 hx69
                                  refine WO_pure tbok 26 [(3, .pointer (some ⟨b2, 0, none⟩)), (4, .pointer (some ⟨b3, 0, none⟩)), (6, .bool false), (8, .int .i64 y66), (16, .int .i64 y65), (180, .bool true)] rfl ⟨rfl, rfl, rfl, rfl, rfl, rfl, trivial⟩ ?_
                                  refine WO_end ?_
                                  cases hx69
                                  refine WK.sub ?_ (WK.cls (fun _ h => h) hk70)
                                  exact ⟨rfl, rfl, rfl, rfl, rfl, rfl, trivial⟩
                                · have hx69 := ifF hb80 hx69
                                  refine WO_pure tbok 1 [(3, .pointer (some ⟨b2, 0, none⟩)), (4, .pointer (some ⟨b3, 0, none⟩)), (6, .bool false), (8, .int .i64 y66), (16, .int .i64 y65), (154, .bool false), (155, .pointer (some ⟨b3, 1, none⟩))] rfl ⟨rfl, rfl, rfl, rfl, rfl, rfl, rfl, trivial⟩ ?_
                                  refine WO_loadB tbok 1 rfl rfl rfl rfl (fun _ h => h) rfl rfl ?_
                                  refine WO_pure tbok 1 [(3, .pointer (some ⟨b2, 0, none⟩)), (4, .pointer (some ⟨b3, 0, none⟩)), (6, .bool false), (8, .int .i64 y66), (16, .int .i64 y65), (154, .bool false), (156, .int .i64 p1_1), (157, .pointer (some ⟨b2, 1, none⟩))] rfl ⟨rfl, rfl, rfl, rfl, rfl, rfl, rfl, rfl, trivial⟩ ?_
                                  refine WO_loadB tbok 0 rfl rfl rfl rfl (fun _ h => h) rfl rfl ?_
                                  refine WO_pure tbok 3 [(3, .pointer (some ⟨b2, 0, none⟩)), (4, .pointer (some ⟨b3, 0, none⟩)), (6, .bool false), (8, .int .i64 y66), (16, .int .i64 y65), (161, .bool (decide (p0_1 < p1_1)))] rfl ⟨rfl, rfl, rfl, rfl, rfl, rfl, trivial⟩ ?_
                                  refine WO_split (d := 161) (b := decide (p0_1 < p1_1)) rfl (fun hb81 => ?_) (fun hb81 => ?_)
                                  · have hx69 := ifT hb81 hx69
                                    refine WO_pure tbok 19 [(3, .pointer (some ⟨b2, 0, none⟩)), (4, .pointer (some ⟨b3, 0, none⟩)), (6, .bool false), (8, .int .i64 y66), (16, .int .i64 y65), (180, .bool true)] rfl ⟨rfl, rfl, rfl, rfl, rfl, rfl, trivial⟩ ?_
                                    refine WO_end ?_
                                    cases hx69
                                    refine WK.sub ?_ (WK.cls (fun _ h => h) hk70)
                                    exact ⟨rfl, rfl, rfl, rfl, rfl, rfl, trivial⟩
                                  · have hx69 := ifF hb81 hx69
                                    refine WO_pure tbok 1 [(3, .pointer (some ⟨b2, 0, none⟩)), (4, .pointer (some ⟨b3, 0, none⟩)), (6, .bool false), (8, .int .i64 y66), (16, .int .i64 y65), (161, .bool false), (162, .pointer (some ⟨b3, 2, none⟩))] rfl ⟨rfl, rfl, rfl, rfl, rfl, rfl, rfl, trivial⟩ ?_
                                    refine WO_loadB tbok 1 rfl rfl rfl rfl (fun _ h => h) rfl rfl ?_
                                    refine WO_pure tbok 1 [(3, .pointer (some ⟨b2, 0, none⟩)), (4, .pointer (some ⟨b3, 0, none⟩)), (6, .bool false), (8, .int .i64 y66), (16, .int .i64 y65), (161, .bool false), (163, .int .i64 p1_2), (164, .pointer (some ⟨b2, 0, none⟩))] rfl ⟨rfl, rfl, rfl, rfl, rfl, rfl, rfl, rfl, trivial⟩ ?_
                                    refine WO_loadB tbok 0 rfl rfl rfl rfl (fun _ h => h) rfl rfl ?_
                                    refine WO_pure tbok 1 [(3, .pointer (some ⟨b2, 0, none⟩)), (4, .pointer (some ⟨b3, 0, none⟩)), (6, .bool false), (8, .int .i64 y66), (16, .int .i64 y65), (161, .bool false), (163, .int .i64 p1_2), (165, .int .i64 p0_0), (166, .pointer (some ⟨b3, 0, none⟩))] rfl ⟨rfl, rfl, rfl, rfl, rfl, rfl, rfl, rfl, rfl, trivial⟩ ?_
                                    refine WO_loadB tbok 1 rfl rfl rfl rfl (fun _ h => h) rfl rfl ?_
                                    refine WO_pure tbok 4 [(3, .pointer (some ⟨b2, 0, none⟩)), (4, .pointer (some ⟨b3, 0, none⟩)), (6, .bool false), (8, .int .i64 y66), (16, .int .i64 y65), (171, .bool (decide ((w64 (p0_0 - p1_0)) < p1_2)))] rfl ⟨rfl, rfl, rfl, rfl, rfl, rfl, trivial⟩ ?_
                                    refine WO_split (d := 171) (b := decide ((w64 (p0_0 - p1_0)) < p1_2)) rfl (fun hb82 => ?_) (fun hb82 => ?_)
                                    · have hx69 := ifT hb82 hx69
                                      refine WO_pure tbok 9 [(3, .pointer (some ⟨b2, 0, none⟩)), (4, .pointer (some ⟨b3, 0, none⟩)), (6, .bool false), (8, .int .i64 y66), (16, .int .i64 y65), (180, .bool true)] rfl ⟨rfl, rfl, rfl, rfl, rfl, rfl, trivial⟩ ?_
                                      refine WO_end ?_
                                      cases hx69
                                      refine WK.sub ?_ (WK.cls (fun _ h => h) hk70)
                                      exact ⟨rfl, rfl, rfl, rfl, rfl, rfl, trivial⟩
                                    · have hx69 := ifF hb82 hx69
                                      refine WO_pure tbok 1 [(3, .pointer (some ⟨b2, 0, none⟩)), (4, .pointer (some ⟨b3, 0, none⟩)), (6, .bool false), (8, .int .i64 y66), (16, .int .i64 y65), (171, .bool false), (172, .pointer (some ⟨b3, 3, none⟩))] rfl ⟨rfl, rfl, rfl, rfl, rfl, rfl, rfl, trivial⟩ ?_
                                      refine WO_loadB tbok 1 rfl rfl rfl rfl (fun _ h => h) rfl rfl ?_
                                      refine WO_pure tbok 1 [(3, .pointer (some ⟨b2, 0, none⟩)), (4, .pointer (some ⟨b3, 0, none⟩)), (6, .bool false), (8, .int .i64 y66), (16, .int .i64 y65), (171, .bool false), (173, .int .i64 p1_3), (174, .pointer (some ⟨b2, 1, none⟩))] rfl ⟨rfl, rfl, rfl, rfl, rfl, rfl, rfl, rfl, trivial⟩ ?_
                                      refine WO_loadB tbok 0 rfl rfl rfl rfl (fun _ h => h) rfl rfl ?_
                                      refine WO_pure tbok 1 [(3, .pointer (some ⟨b2, 0, none⟩)), (4, .pointer (some ⟨b3, 0, none⟩)), (6, .bool false), (8, .int .i64 y66), (16, .int .i64 y65), (171, .bool false), (173, .int .i64 p1_3), (175, .int .i64 p0_1), (176, .pointer (some ⟨b3, 1, none⟩))] rfl ⟨rfl, rfl, rfl, rfl, rfl, rfl, rfl, rfl, rfl, trivial⟩ ?_
                                      refine WO_loadB tbok 1 rfl rfl rfl rfl (fun _ h => h) rfl rfl ?_
                                      refine WO_pure tbok 3 [(3, .pointer (some ⟨b2, 0, none⟩)), (4, .pointer (some ⟨b3, 0, none⟩)), (6, .bool false), (8, .int .i64 y66), (16, .int .i64 y65), (180, .bool (decide ((w64 (p0_1 - p1_1)) < p1_3)))] rfl ⟨rfl, rfl, rfl, rfl, rfl, rfl, trivial⟩ ?_
                                      refine WO_end ?_
                                      cases hx69
                                      refine WK.sub ?_ (WK.cls (fun _ h => h) hk70)
                                      exact ⟨rfl, rfl, rfl, rfl, rfl, rfl, trivial⟩
                    · refine WK_block ?_
                      refine WK_loop (S := Int) (G := Unit) (fun s => fiduciallaw13_RasterSums_s1 p0_0 p0_1 p0_2 p0_3 y12 s) (fun s g => [(3, .pointer (some ⟨b2, 0, none⟩)), (4, .pointer (some ⟨b3, 0, none⟩)), (6, .bool false), (7, .slice a15 ((y12).length) c16), (88, .slice a15 ((y12).length) c16), (89, .int .i64 ((y12).length : Int)), (90, .int .i64 s)]) (fun s g => St w0 m m20 [[⟨b2, 24, [.int .i64 p0_0, .int .i64 p0_1, .int .i64 p0_2, .slice a_p0_3 p0_3.length c_p0_3]⟩], [⟨b3, 48, [.int .i64 p1_0, .int .i64 p1_1, .int .i64 p1_2, .int .i64 p1_3]⟩], [⟨b7, 24, [.int .i64 p0_0, .int .i64 p0_1, .int .i64 p0_2, .slice a_p0_3 p0_3.length c_p0_3]⟩], L18, L32, [⟨b34, 24, [.int .i64 y23, .int .i64 y24, .int .i64 y25, .slice a29 ((y26).length) c30]⟩]]) (fun s g => True) FUEL 0 () x56 hx57 trivial ⟨rfl, rfl, rfl, rfl, rfl, rfl, rfl, trivial⟩ (fun _ h => h) ?_
                      rintro s55 ⟨⟩ o60 fl61 hm59 - hn62 hd63
                      have hm59 : fiduciallaw13_RasterSums_s1 p0_0 p0_1 p0_2 p0_3 y12 s55 = some o60 := hm59
                      unfold fiduciallaw13_RasterSums_s1 at hm59
                      refine WK.sub (e' := [(3, .pointer (some ⟨b2, 0, none⟩)), (4, .pointer (some ⟨b3, 0, none⟩)), (6, .bool false), (7, .slice a15 ((y12).length) c16), (88, .slice a15 ((y12).length) c16), (89, .int .i64 ((y12).length : Int)), (90, .int .i64 s55)]) ⟨rfl, rfl, rfl, rfl, rfl, rfl, rfl, trivial⟩ (WK.cls (C' := St w0 m m20 [[⟨b2, 24, [.int .i64 p0_0, .int .i64 p0_1, .int .i64 p0_2, .slice a_p0_3 p0_3.length c_p0_3]⟩], [⟨b3, 48, [.int .i64 p1_0, .int .i64 p1_1, .int .i64 p1_2, .int .i64 p1_3]⟩], [⟨b7, 24, [.int .i64 p0_0, .int .i64 p0_1, .int .i64 p0_2, .slice a_p0_3 p0_3.length c_p0_3]⟩], L18, L32, [⟨b34, 24, [.int .i64 y23, .int .i64 y24, .int .i64 y25, .slice a29 ((y26).length) c30]⟩]]) (fun _ h => h) ?_)
                      refine WK_seq ?_
                      refine WK_region ?_
                      refine WO_pure tbok 1 [(3, .pointer (some ⟨b2, 0, none⟩)), (4, .pointer (some ⟨b3, 0, none⟩)), (6, .bool false), (7, .slice a15 ((y12).length) c16), (88, .slice a15 ((y12).length) c16), (89, .int .i64 ((y12).length : Int)), (90, .int .i64 s55), (91, .bool (decide (s55 < ((y12).length : Int))))] rfl ⟨rfl, rfl, rfl, rfl, rfl, rfl, rfl, rfl, trivial⟩ ?_
                      refine WO_end ?_
                      refine WK_seq ?_
                      refine WK_cond (b := decide (s55 < ((y12).length : Int))) rfl (fun hb83 => ?_) (fun hb83 => ?_)
                      · have hm59 := ifT hb83 hm59
                        refine WK_skip ?_
                        refine WK_seq ?_
                        refine WK_block ?_
                        refine WK_seq ?_
                        refine WK_region ?_
                        refine WO_pure tbok 1 [(3, .pointer (some ⟨b2, 0, none⟩)), (4, .pointer (some ⟨b3, 0, none⟩)), (6, .bool false), (7, .slice a15 ((y12).length) c16), (88, .slice a15 ((y12).length) c16), (89, .int .i64 ((y12).length : Int)), (90, .int .i64 s55), (92, .int .i64 s55)] rfl ⟨rfl, rfl, rfl, rfl, rfl, rfl, rfl, rfl, trivial⟩ ?_
                        obtain ⟨v84, hy85, hm59⟩ := bind_some hm59
                        obtain ⟨hc86, hy85⟩ := ix_some hy85
                        refine WO_index tbok rfl rfl rfl rfl rfl rfl rfl rfl (SlR.addr h22) hc86 ?_
                        refine WO_loadR tbok rfl rfl rfl rfl (fun _ h => St.sat h) h22 hy85 rfl rfl (fun a87 c88 h89 => ?_)
                        refine WO_pure tbok 2 [(3, .pointer (some ⟨b2, 0, none⟩)), (4, .pointer (some ⟨b3, 0, none⟩)), (6, .bool false), (7, .slice a15 ((y12).length) c16), (12, .int .i64 s55), (13, .slice a87 ((v84).length) c88), (88, .slice a15 ((y12).length) c16), (89, .int .i64 ((y12).length : Int)), (90, .int .i64 s55)] rfl ⟨rfl, rfl, rfl, rfl, rfl, rfl, rfl, rfl, rfl, trivial⟩ ?_
                        refine WO_end ?_
                        refine WK_seq ?_
                        refine WK_seq ?_
                        refine WK_region ?_
                        refine WO_pure tbok 3 [(3, .pointer (some ⟨b2, 0, none⟩)), (4, .pointer (some ⟨b3, 0, none⟩)), (6, .bool false), (7, .slice a15 ((y12).length) c16), (12, .int .i64 s55), (13, .slice a87 ((v84).length) c88), (88, .slice a15 ((y12).length) c16), (89, .int .i64 ((y12).length : Int)), (90, .int .i64 s55), (96, .int .i64 ((v84).length : Int)), (97, .pointer (some ⟨b2, 0, none⟩))] rfl ⟨rfl, rfl, rfl, rfl, rfl, rfl, rfl, rfl, rfl, rfl, rfl, trivial⟩ ?_
                        refine WO_loadB tbok 0 rfl rfl rfl rfl (fun _ h => h) rfl rfl ?_
                        refine WO_pure tbok 2 [(3, .pointer (some ⟨b2, 0, none⟩)), (4, .pointer (some ⟨b3, 0, none⟩)), (6, .bool false), (7, .slice a15 ((y12).length) c16), (12, .int .i64 s55), (13, .slice a87 ((v84).length) c88), (88, .slice a15 ((y12).length) c16), (89, .int .i64 ((y12).length : Int)), (90, .int .i64 s55), (100, .bool (((v84).length : Int) != (w64 (p0_0 + 1))))] rfl ⟨rfl, rfl, rfl, rfl, rfl, rfl, rfl, rfl, rfl, rfl, trivial⟩ ?_
                        refine WO_end ?_
                        refine WK_cond (b := ((v84).length : Int) != (w64 (p0_0 + 1))) rfl (fun hb91 => ?_) (fun hb91 => ?_)
                        · have hm59 := ifT hb91 hm59
                          refine WK_seq ?_
                          refine WK_region ?_
                          refine WO_pure tbok 1 [(3, .pointer (some ⟨b2, 0, none⟩)), (4, .pointer (some ⟨b3, 0, none⟩)), (6, .bool false), (7, .slice a15 ((y12).length) c16), (12, .int .i64 s55), (13, .slice a87 ((v84).length) c88), (88, .slice a15 ((y12).length) c16), (89, .int .i64 ((y12).length : Int)), (90, .int .i64 s55)] rfl ⟨rfl, rfl, rfl, rfl, rfl, rfl, rfl, rfl, rfl, trivial⟩ ?_
                          refine WO_end ?_
                          cases hm59
                          have hq := hd63 _ rfl
                          subst hq
                          have hm : some _ = some _ := hm
                          cases hm
                          exact WK_ret (ret_out (L := []) (RLc_tmp rfl RLc_nil) (List.nil_sublist _) rfl)
                        · have hm59 := ifF hb91 hm59
                          refine WK_skip ?_
                          refine WK_seq ?_
                          refine WK_region ?_
                          refine WO_pure tbok 3 [(3, .pointer (some ⟨b2, 0, none⟩)), (4, .pointer (some ⟨b3, 0, none⟩)), (6, .bool false), (7, .slice a15 ((y12).length) c16), (12, .int .i64 s55), (88, .slice a15 ((y12).length) c16), (89, .int .i64 ((y12).length : Int)), (90, .int .i64 s55), (101, .slice a87 ((v84).length) c88), (102, .int .i64 ((v84).length : Int)), (103, .int .i64 0)] rfl ⟨rfl, rfl, rfl, rfl, rfl, rfl, rfl, rfl, rfl, rfl, rfl, trivial⟩ ?_
                          refine WO_end ?_
                          obtain ⟨x93, hx94, hm59⟩ := bind_some hm59
                          refine WK_join (β := Unit × Unit) (fun p => Sum.inr p.1 = x93) (fun p => [(3, .pointer (some ⟨b2, 0, none⟩)), (4, .pointer (some ⟨b3, 0, none⟩)), (6, .bool false), (7, .slice a15 ((y12).length) c16), (88, .slice a15 ((y12).length) c16), (89, .int .i64 ((y12).length : Int)), (90, .int .i64 s55)]) (fun p => St w0 m m20 [[⟨b2, 24, [.int .i64 p0_0, .int .i64 p0_1, .int .i64 p0_2, .slice a_p0_3 p0_3.length c_p0_3]⟩], [⟨b3, 48, [.int .i64 p1_0, .int .i64 p1_1, .int .i64 p1_2, .int .i64 p1_3]⟩], [⟨b7, 24, [.int .i64 p0_0, .int .i64 p0_1, .int .i64 p0_2, .slice a_p0_3 p0_3.length c_p0_3]⟩], L18, L32, [⟨b34, 24, [.int .i64 y23, .int .i64 y24, .int .i64 y25, .slice a29 ((y26).length) c30]⟩]]) ?_ (fun hk95 => ?_)
                          · rintro ⟨⟨⟩, ⟨⟩⟩ hq101
                            subst hq101
                            refine WK.sub (e' := [(3, .pointer (some ⟨b2, 0, none⟩)), (4, .pointer (some ⟨b3, 0, none⟩)), (6, .bool false), (7, .slice a15 ((y12).length) c16), (88, .slice a15 ((y12).length) c16), (89, .int .i64 ((y12).length : Int)), (90, .int .i64 s55)]) ⟨rfl, rfl, rfl, rfl, rfl, rfl, rfl, trivial⟩ (WK.cls (C' := St w0 m m20 [[⟨b2, 24, [.int .i64 p0_0, .int .i64 p0_1, .int .i64 p0_2, .slice a_p0_3 p0_3.length c_p0_3]⟩], [⟨b3, 48, [.int .i64 p1_0, .int .i64 p1_1, .int .i64 p1_2, .int .i64 p1_3]⟩], [⟨b7, 24, [.int .i64 p0_0, .int .i64 p0_1, .int .i64 p0_2, .slice a_p0_3 p0_3.length c_p0_3]⟩], L18, L32, [⟨b34, 24, [.int .i64 y23, .int .i64 y24, .int .i64 y25, .slice a29 ((y26).length) c30]⟩]]) (fun _ h => h) ?_)
                            refine WK_blk ?_
                            refine WK_region ?_
                            refine WO_pure tbok 2 [(3, .pointer (some ⟨b2, 0, none⟩)), (4, .pointer (some ⟨b3, 0, none⟩)), (6, .bool false), (7, .slice a15 ((y12).length) c16), (88, .slice a15 ((y12).length) c16), (89, .int .i64 ((y12).length : Int)), (90, .int .i64 (w64 (s55 + 1)))] rfl ⟨rfl, rfl, rfl, rfl, rfl, rfl, rfl, trivial⟩ ?_
                            refine WO_end ?_
                            cases hm59
                            refine WK.sub ?_ (WK.cls (fun _ h => h) (hn62 _ () rfl trivial))
                            exact ⟨rfl, rfl, rfl, rfl, rfl, rfl, rfl, trivial⟩
                          · refine WK_block ?_
                            refine WK_loop (S := Int) (G := Unit) (fun s => fiduciallaw13_RasterSums_s2 p0_0 p0_1 p0_2 p0_3 s55 v84 s) (fun s g => [(3, .pointer (some ⟨b2, 0, none⟩)), (4, .pointer (some ⟨b3, 0, none⟩)), (6, .bool false), (7, .slice a15 ((y12).length) c16), (12, .int .i64 s55), (88, .slice a15 ((y12).length) c16), (89, .int .i64 ((y12).length : Int)), (90, .int .i64 s55), (101, .slice a87 ((v84).length) c88), (102, .int .i64 ((v84).length : Int)), (103, .int .i64 s)]) (fun s g => St w0 m m20 [[⟨b2, 24, [.int .i64 p0_0, .int .i64 p0_1, .int .i64 p0_2, .slice a_p0_3 p0_3.length c_p0_3]⟩], [⟨b3, 48, [.int .i64 p1_0, .int .i64 p1_1, .int .i64 p1_2, .int .i64 p1_3]⟩], [⟨b7, 24, [.int .i64 p0_0, .int .i64 p0_1, .int .i64 p0_2, .slice a_p0_3 p0_3.length c_p0_3]⟩], L18, L32, [⟨b34, 24, [.int .i64 y23, .int .i64 y24, .int .i64 y25, .slice a29 ((y26).length) c30]⟩]]) (fun s g => True) FUEL 0 () x93 hx94 trivial ⟨rfl, rfl, rfl, rfl, rfl, rfl, rfl, rfl, rfl, rfl, rfl, trivial⟩ (fun _ h => h) ?_
                            rintro s92 ⟨⟩ o97 fl98 hm96 - hn99 hd100
                            have hm96 : fiduciallaw13_RasterSums_s2 p0_0 p0_1 p0_2 p0_3 s55 v84 s92 = some o97 := hm96
                            unfold fiduciallaw13_RasterSums_s2 at hm96
                            refine WK.sub (e' := [(3, .pointer (some ⟨b2, 0, none⟩)), (4, .pointer (some ⟨b3, 0, none⟩)), (6, .bool false), (7, .slice a15 ((y12).length) c16), (12, .int .i64 s55), (88, .slice a15 ((y12).length) c16), (89, .int .i64 ((y12).length : Int)), (90, .int .i64 s55), (101, .slice a87 ((v84).length) c88), (102, .int .i64 ((v84).length : Int)), (103, .int .i64 s92)]) ⟨rfl, rfl, rfl, rfl, rfl, rfl, rfl, rfl, rfl, rfl, rfl, trivial⟩ (WK.cls (C' := St w0 m m20 [[⟨b2, 24, [.int .i64 p0_0, .int .i64 p0_1, .int .i64 p0_2, .slice a_p0_3 p0_3.length c_p0_3]⟩], [⟨b3, 48, [.int .i64 p1_0, .int .i64 p1_1, .int .i64 p1_2, .int .i64 p1_3]⟩], [⟨b7, 24, [.int .i64 p0_0, .int .i64 p0_1, .int .i64 p0_2, .slice a_p0_3 p0_3.length c_p0_3]⟩], L18, L32, [⟨b34, 24, [.int .i64 y23, .int .i64 y24, .int .i64 y25, .slice a29 ((y26).length) c30]⟩]]) (fun _ h => h) ?_)
                            refine WK_seq ?_
                            refine WK_region ?_
                            refine WO_pure tbok 1 [(3, .pointer (some ⟨b2, 0, none⟩)), (4, .pointer (some ⟨b3, 0, none⟩)), (6, .bool false), (7, .slice a15 ((y12).length) c16), (12, .int .i64 s55), (88, .slice a15 ((y12).length) c16), (89, .int .i64 ((y12).length : Int)), (90, .int .i64 s55), (101, .slice a87 ((v84).length) c88), (102, .int .i64 ((v84).length : Int)), (103, .int .i64 s92), (104, .bool (decide (s92 < ((v84).length : Int))))] rfl ⟨rfl, rfl, rfl, rfl, rfl, rfl, rfl, rfl, rfl, rfl, rfl, rfl, trivial⟩ ?_
                            refine WO_end ?_
                            refine WK_seq ?_
                            refine WK_cond (b := decide (s92 < ((v84).length : Int))) rfl (fun hb102 => ?_) (fun hb102 => ?_)
                            · have hm96 := ifT hb102 hm96
                              refine WK_skip ?_
                              refine WK_seq ?_
                              refine WK_block ?_
                              refine WK_seq ?_
                              refine WK_region ?_
                              refine WO_pure tbok 1 [(3, .pointer (some ⟨b2, 0, none⟩)), (4, .pointer (some ⟨b3, 0, none⟩)), (6, .bool false), (7, .slice a15 ((y12).length) c16), (12, .int .i64 s55), (88, .slice a15 ((y12).length) c16), (89, .int .i64 ((y12).length : Int)), (90, .int .i64 s55), (101, .slice a87 ((v84).length) c88), (102, .int .i64 ((v84).length : Int)), (103, .int .i64 s92), (105, .int .i64 s92)] rfl ⟨rfl, rfl, rfl, rfl, rfl, rfl, rfl, rfl, rfl, rfl, rfl, rfl, trivial⟩ ?_
                              obtain ⟨v103, hy104, hm96⟩ := bind_some hm96
                              obtain ⟨hc105, hy104⟩ := ix_some hy104
                              refine WO_index tbok rfl rfl rfl rfl rfl rfl rfl rfl (SlR.addr h89) hc105 ?_
                              refine WO_loadE tbok rfl rfl rfl rfl (fun _ h => St.sat h) h89 hy104 rfl ?_
                              refine WO_pure tbok 2 [(3, .pointer (some ⟨b2, 0, none⟩)), (4, .pointer (some ⟨b3, 0, none⟩)), (6, .bool false), (7, .slice a15 ((y12).length) c16), (12, .int .i64 s55), (14, .int .i64 s92), (15, .int .i64 v103), (88, .slice a15 ((y12).length) c16), (89, .int .i64 ((y12).length : Int)), (90, .int .i64 s55), (101, .slice a87 ((v84).length) c88), (102, .int .i64 ((v84).length : Int)), (103, .int .i64 s92)] rfl ⟨rfl, rfl, rfl, rfl, rfl, rfl, rfl, rfl, rfl, rfl, rfl, rfl, rfl, trivial⟩ ?_
                              refine WO_end ?_
                              refine WK_seq ?_
                              refine WK_region ?_
                              refine WO_pure tbok 1 [(3, .pointer (some ⟨b2, 0, none⟩)), (4, .pointer (some ⟨b3, 0, none⟩)), (6, .bool false), (7, .slice a15 ((y12).length) c16), (12, .int .i64 s55), (14, .int .i64 s92), (88, .slice a15 ((y12).length) c16), (89, .int .i64 ((y12).length : Int)), (90, .int .i64 s55), (101, .slice a87 ((v84).length) c88), (102, .int .i64 ((v84).length : Int)), (103, .int .i64 s92), (108, .int .i64 v103)] rfl ⟨rfl, rfl, rfl, rfl, rfl, rfl, rfl, rfl, rfl, rfl, rfl, rfl, rfl, trivial⟩ ?_
                              refine WO_loadB tbok 0 rfl rfl rfl rfl (fun _ h => h) rfl rfl ?_
                              refine WO_pure tbok 2 [(3, .pointer (some ⟨b2, 0, none⟩)), (4, .pointer (some ⟨b3, 0, none⟩)), (6, .bool false), (7, .slice a15 ((y12).length) c16), (12, .int .i64 s55), (88, .slice a15 ((y12).length) c16), (89, .int .i64 ((y12).length : Int)), (90, .int .i64 s55), (101, .slice a87 ((v84).length) c88), (102, .int .i64 ((v84).length : Int)), (103, .int .i64 s92), (108, .int .i64 v103), (109, .agg #[.int .i64 p0_0, .int .i64 p0_1, .int .i64 p0_2, .slice a_p0_3 p0_3.length c_p0_3]), (110, .int .i64 s92), (111, .int .i64 s55)] rfl ⟨rfl, rfl, rfl, rfl, rfl, rfl, rfl, rfl, rfl, rfl, rfl, rfl, rfl, rfl, rfl, trivial⟩ ?_
                              obtain ⟨y106, hc107, hm96⟩ := bind_some hm96
                              refine WO_call0 (.int .i64 y106) rfl rfl trivial rfl rfl rfl rfl St_closed ⟨35, #[], #[], rfl, callable_35, fun w hw => ⟨_, hw.sat, fiducialref13_Sum_walk (h_p0_3.mono (mono_FE _) hle21) hc107⟩⟩ ?_
                              refine WO_pure tbok 1 [(3, .pointer (some ⟨b2, 0, none⟩)), (4, .pointer (some ⟨b3, 0, none⟩)), (6, .bool false), (7, .slice a15 ((y12).length) c16), (12, .int .i64 s55), (88, .slice a15 ((y12).length) c16), (89, .int .i64 ((y12).length : Int)), (90, .int .i64 s55), (101, .slice a87 ((v84).length) c88), (102, .int .i64 ((v84).length : Int)), (103, .int .i64 s92), (113, .bool (v103 != y106))] rfl ⟨rfl, rfl, rfl, rfl, rfl, rfl, rfl, rfl, rfl, rfl, rfl, rfl, trivial⟩ ?_
                              refine WO_end ?_
                              refine WK_cond (b := v103 != y106) rfl (fun hb108 => ?_) (fun hb108 => ?_)
                              · have hm96 := ifT hb108 hm96
                                refine WK_seq ?_
                                refine WK_region ?_
                                refine WO_pure tbok 1 [(3, .pointer (some ⟨b2, 0, none⟩)), (4, .pointer (some ⟨b3, 0, none⟩)), (6, .bool false), (7, .slice a15 ((y12).length) c16), (12, .int .i64 s55), (88, .slice a15 ((y12).length) c16), (89, .int .i64 ((y12).length : Int)), (90, .int .i64 s55), (101, .slice a87 ((v84).length) c88), (102, .int .i64 ((v84).length : Int)), (103, .int .i64 s92)] rfl ⟨rfl, rfl, rfl, rfl, rfl, rfl, rfl, rfl, rfl, rfl, rfl, trivial⟩ ?_
                                refine WO_end ?_
                                cases hm96
                                have hq := hd100 _ rfl
                                subst hq
                                have hm59 : some _ = some _ := hm59
                                cases hm59
                                have hq := hd63 _ rfl
                                subst hq
                                have hm : some _ = some _ := hm
                                cases hm
                                exact WK_ret (ret_out (L := []) (RLc_tmp rfl RLc_nil) (List.nil_sublist _) rfl)
                              · have hm96 := ifF hb108 hm96
                                refine WK_skip ?_
                                refine WK_blk ?_
                                refine WK_region ?_
                                refine WO_pure tbok 2 [(3, .pointer (some ⟨b2, 0, none⟩)), (4, .pointer (some ⟨b3, 0, none⟩)), (6, .bool false), (7, .slice a15 ((y12).length) c16), (12, .int .i64 s55), (88, .slice a15 ((y12).length) c16), (89, .int .i64 ((y12).length : Int)), (90, .int .i64 s55), (101, .slice a87 ((v84).length) c88), (102, .int .i64 ((v84).length : Int)), (103, .int .i64 (w64 (s92 + 1)))] rfl ⟨rfl, rfl, rfl, rfl, rfl, rfl, rfl, rfl, rfl, rfl, rfl, trivial⟩ ?_
                                refine WO_end ?_
                                cases hm96
                                refine WK.sub ?_ (WK.cls (fun _ h => h) (hn99 _ () rfl trivial))
                                exact ⟨rfl, rfl, rfl, rfl, rfl, rfl, rfl, rfl, rfl, rfl, rfl, trivial⟩
                            · have hm96 := ifF hb102 hm96
                              refine WK_exit rfl ?_
                              cases hm96
                              refine WK.sub ?_ (WK.cls (fun _ h => h) (hk95 ((), ()) (hd100 _ rfl)))
                              exact ⟨rfl, rfl, rfl, rfl, rfl, rfl, rfl, trivial⟩
                      · have hm59 := ifF hb83 hm59
                        refine WK_exit rfl ?_
                        cases hm59
                        refine WK.sub ?_ (WK.cls (fun _ h => h) (hk58 ((), ()) (hd63 _ rfl)))
                        exact ⟨rfl, rfl, rfl, rfl, trivial⟩
                · refine WK_region ?_
                  refine WO_pure tbok 3 [(3, .pointer (some ⟨b2, 0, none⟩)), (4, .pointer (some ⟨b3, 0, none⟩)), (6, .bool false), (7, .slice a15 ((y12).length) c16), (80, .bool (y13 != 0))] rfl ⟨rfl, rfl, rfl, rfl, rfl, trivial⟩ ?_
                  refine WO_split (d := 80) (b := y13 != 0) rfl (fun hb109 => ?_) (fun hb109 => ?_)
                  · have hx52 := ifT hb109 hx52
                    refine WO_pure tbok 7 [(3, .pointer (some ⟨b2, 0, none⟩)), (4, .pointer (some ⟨b3, 0, none⟩)), (6, .bool false), (7, .slice a15 ((y12).length) c16), (87, .bool true)] rfl ⟨rfl, rfl, rfl, rfl, rfl, trivial⟩ ?_
                    refine WO_end ?_
                    cases hx52
                    refine WK.sub ?_ (WK.cls (fun _ h => h) hk53)
                    exact ⟨rfl, rfl, rfl, rfl, rfl, trivial⟩
                  · have hx52 := ifF hb109 hx52
                    refine WO_pure tbok 3 [(3, .pointer (some ⟨b2, 0, none⟩)), (4, .pointer (some ⟨b3, 0, none⟩)), (6, .bool false), (7, .slice a15 ((y12).length) c16), (80, .bool false), (82, .int .i64 ((y12).length : Int)), (83, .pointer (some ⟨b2, 1, none⟩))] rfl ⟨rfl, rfl, rfl, rfl, rfl, rfl, rfl, trivial⟩ ?_
                    refine WO_loadB tbok 0 rfl rfl rfl rfl (fun _ h => h) rfl rfl ?_
                    refine WO_pure tbok 3 [(3, .pointer (some ⟨b2, 0, none⟩)), (4, .pointer (some ⟨b3, 0, none⟩)), (6, .bool false), (7, .slice a15 ((y12).length) c16), (87, .bool (((y12).length : Int) != (w64 (p0_1 + 1))))] rfl ⟨rfl, rfl, rfl, rfl, rfl, trivial⟩ ?_
                    refine WO_end ?_
                    cases hx52
                    refine WK.sub ?_ (WK.cls (fun _ h => h) hk53)
                    exact ⟨rfl, rfl, rfl, rfl, rfl, trivial⟩
            · refine WK_region ?_
              refine WO_pure tbok 3 [(3, .pointer (some ⟨b2, 0, none⟩)), (4, .pointer (some ⟨b3, 0, none⟩)), (6, .bool false), (7, .slice a15 ((y12).length) c16), (8, .int .i64 y13), (9, .pointer (some ⟨b34, 0, none⟩)), (63, .bool (y27 != 2))] rfl ⟨rfl, rfl, rfl, rfl, rfl, rfl, rfl, trivial⟩ ?_
              refine WO_split (d := 63) (b := y27 != 2) rfl (fun hb110 => ?_) (fun hb110 => ?_)
              · have hx48 := ifT hb110 hx48
                refine WO_pure tbok 1 [(3, .pointer (some ⟨b2, 0, none⟩)), (4, .pointer (some ⟨b3, 0, none⟩)), (6, .bool false), (7, .slice a15 ((y12).length) c16), (8, .int .i64 y13), (63, .bool true)] rfl ⟨rfl, rfl, rfl, rfl, rfl, rfl, trivial⟩ ?_
                refine WO_skip rfl rfl ?_
                refine WO_pure tbok 2 [(3, .pointer (some ⟨b2, 0, none⟩)), (4, .pointer (some ⟨b3, 0, none⟩)), (6, .bool false), (7, .slice a15 ((y12).length) c16), (8, .int .i64 y13), (67, .bool true)] rfl ⟨rfl, rfl, rfl, rfl, rfl, rfl, trivial⟩ ?_
                refine WO_end ?_
                cases hx48
                refine WK.sub ?_ (WK.cls (fun _ h => h) hk49)
                exact ⟨rfl, rfl, rfl, rfl, rfl, rfl, trivial⟩
              · have hx48 := ifF hb110 hx48
                refine WO_loadB tbok 5 rfl rfl rfl rfl (fun _ h => h) rfl rfl ?_
                obtain ⟨y111, hc112, hx48⟩ := bind_some hx48
                refine WO_call0 (.bool y111) rfl rfl trivial rfl rfl rfl rfl St_closed ⟨16, #[], #[], rfl, callable_16, fun w hw => ⟨_, hw.satV, fiduciallaw13_empty_walk (OwnE.rd (E := (I1 .i64)) (k := 1) (fun _ => rfl) hL32 (fun _ hx => hw.memV (i := 4) rfl hx)) hc112⟩⟩ ?_
                refine WO_pure tbok 2 [(3, .pointer (some ⟨b2, 0, none⟩)), (4, .pointer (some ⟨b3, 0, none⟩)), (6, .bool false), (7, .slice a15 ((y12).length) c16), (8, .int .i64 y13), (67, .bool (!y111))] rfl ⟨rfl, rfl, rfl, rfl, rfl, rfl, trivial⟩ ?_
                refine WO_end ?_
                cases hx48
                refine WK.sub ?_ (WK.cls (fun _ h => h) hk49)
                exact ⟨rfl, rfl, rfl, rfl, rfl, rfl, trivial⟩
          · have hm := ifF hb46 hm
            refine WK_seq ?_
            obtain ⟨s113, hx114, hm⟩ := bind_some hm
            refine WK_meet [(3, .pointer (some ⟨b2, 0, none⟩)), (4, .pointer (some ⟨b3, 0, none⟩)), (6, .bool false), (7, .slice a15 ((y12).length) c16), (8, .int .i64 y13), (77, .bool s113)] (St w0 m m20 [[⟨b2, 24, [.int .i64 p0_0, .int .i64 p0_1, .int .i64 p0_2, .slice a_p0_3 p0_3.length c_p0_3]⟩], [⟨b3, 48, [.int .i64 p1_0, .int .i64 p1_1, .int .i64 p1_2, .int .i64 p1_3]⟩], [⟨b7, 24, [.int .i64 p0_0, .int .i64 p0_1, .int .i64 p0_2, .slice a_p0_3 p0_3.length c_p0_3]⟩], L18, L32, [⟨b34, 24, [.int .i64 y23, .int .i64 y24, .int .i64 y25, .slice a29 ((y26).length) c30]⟩]]) ?_ (fun hk115 => ?_)
            · refine WK_cond (b := s113) rfl (fun hb116 => ?_) (fun hb116 => ?_)
              · have hm := ifT hb116 hm
                refine WK_seq ?_
                refine WK_region ?_
                refine WO_pure tbok 1 [(3, .pointer (some ⟨b2, 0, none⟩)), (4, .pointer (some ⟨b3, 0, none⟩)), (6, .bool false), (7, .slice a15 ((y12).length) c16), (8, .int .i64 y13)] rfl ⟨rfl, rfl, rfl, rfl, rfl, trivial⟩ ?_
                refine WO_end ?_
                cases hm
                exact WK_ret (ret_out (L := []) (RLc_tmp rfl RLc_nil) (List.nil_sublist _) rfl)
              · have hm := ifF hb116 hm
                refine WK_skip ?_
                refine WK_seq ?_
                refine WK_seq ?_
                obtain ⟨s117, hx118, hm⟩ := bind_some hm
                refine WK_meet [(3, .pointer (some ⟨b2, 0, none⟩)), (4, .pointer (some ⟨b3, 0, none⟩)), (6, .bool false), (7, .slice a15 ((y12).length) c16), (87, .bool s117)] (St w0 m m20 [[⟨b2, 24, [.int .i64 p0_0, .int .i64 p0_1, .int .i64 p0_2, .slice a_p0_3 p0_3.length c_p0_3]⟩], [⟨b3, 48, [.int .i64 p1_0, .int .i64 p1_1, .int .i64 p1_2, .int .i64 p1_3]⟩], [⟨b7, 24, [.int .i64 p0_0, .int .i64 p0_1, .int .i64 p0_2, .slice a_p0_3 p0_3.length c_p0_3]⟩], L18, L32, [⟨b34, 24, [.int .i64 y23, .int .i64 y24, .int .i64 y25, .slice a29 ((y26).length) c30]⟩]]) ?_ (fun hk119 => ?_)
                · refine WK_cond (b := s117) rfl (fun hb120 => ?_) (fun hb120 => ?_)
                  · have hm := ifT hb120 hm
                    refine WK_seq ?_
                    refine WK_region ?_
                    refine WO_pure tbok 1 [(3, .pointer (some ⟨b2, 0, none⟩)), (4, .pointer (some ⟨b3, 0, none⟩)), (6, .bool false), (7, .slice a15 ((y12).length) c16)] rfl ⟨rfl, rfl, rfl, rfl, trivial⟩ ?_
                    refine WO_end ?_
                    cases hm
                    exact WK_ret (ret_out (L := []) (RLc_tmp rfl RLc_nil) (List.nil_sublist _) rfl)
                  · have hm := ifF hb120 hm
                    refine WK_skip ?_
                    refine WK_seq ?_
                    refine WK_seq ?_
                    refine WK_region ?_
                    refine WO_pure tbok 3 [(3, .pointer (some ⟨b2, 0, none⟩)), (4, .pointer (some ⟨b3, 0, none⟩)), (6, .bool false), (7, .slice a15 ((y12).length) c16), (88, .slice a15 ((y12).length) c16), (89, .int .i64 ((y12).length : Int)), (90, .int .i64 0)] rfl ⟨rfl, rfl, rfl, rfl, rfl, rfl, rfl, trivial⟩ ?_
                    refine WO_end ?_
                    obtain ⟨x122, hx123, hm⟩ := bind_some hm
                    refine WK_join (β := Unit × Unit) (fun p => Sum.inr p.1 = x122) (fun p => [(3, .pointer (some ⟨b2, 0, none⟩)), (4, .pointer (some ⟨b3, 0, none⟩)), (6, .bool false), (7, .slice a15 ((y12).length) c16)]) (fun p => St w0 m m20 [[⟨b2, 24, [.int .i64 p0_0, .int .i64 p0_1, .int .i64 p0_2, .slice a_p0_3 p0_3.length c_p0_3]⟩], [⟨b3, 48, [.int .i64 p1_0, .int .i64 p1_1, .int .i64 p1_2, .int .i64 p1_3]⟩], [⟨b7, 24, [.int .i64 p0_0, .int .i64 p0_1, .int .i64 p0_2, .slice a_p0_3 p0_3.length c_p0_3]⟩], L18, L32, [⟨b34, 24, [.int .i64 y23, .int .i64 y24, .int .i64 y25, .slice a29 ((y26).length) c30]⟩]]) ?_ (fun hk124 => ?_)
                    · rintro ⟨⟨⟩, ⟨⟩⟩ hq130
                      subst hq130
                      refine WK.sub (e' := [(3, .pointer (some ⟨b2, 0, none⟩)), (4, .pointer (some ⟨b3, 0, none⟩)), (6, .bool false), (7, .slice a15 ((y12).length) c16)]) ⟨rfl, rfl, rfl, rfl, trivial⟩ (WK.cls (C' := St w0 m m20 [[⟨b2, 24, [.int .i64 p0_0, .int .i64 p0_1, .int .i64 p0_2, .slice a_p0_3 p0_3.length c_p0_3]⟩], [⟨b3, 48, [.int .i64 p1_0, .int .i64 p1_1, .int .i64 p1_2, .int .i64 p1_3]⟩], [⟨b7, 24, [.int .i64 p0_0, .int .i64 p0_1, .int .i64 p0_2, .slice a_p0_3 p0_3.length c_p0_3]⟩], L18, L32, [⟨b34, 24, [.int .i64 y23, .int .i64 y24, .int .i64 y25, .slice a29 ((y26).length) c30]⟩]]) (fun _ h => h) ?_)
                      refine WK_seq ?_
                      refine WK_region ?_
                      refine WO_pure tbok 2 [(3, .pointer (some ⟨b2, 0, none⟩)), (4, .pointer (some ⟨b3, 0, none⟩)), (6, .bool false), (117, .slice a15 ((y12).length) c16), (118, .pointer (some ⟨b3, 0, none⟩))] rfl ⟨rfl, rfl, rfl, rfl, rfl, trivial⟩ ?_
                      refine WO_loadB tbok 1 rfl rfl rfl rfl (fun _ h => h) rfl rfl ?_
                      refine WO_pure tbok 1 [(3, .pointer (some ⟨b2, 0, none⟩)), (4, .pointer (some ⟨b3, 0, none⟩)), (6, .bool false), (117, .slice a15 ((y12).length) c16), (119, .int .i64 p1_0), (120, .pointer (some ⟨b3, 1, none⟩))] rfl ⟨rfl, rfl, rfl, rfl, rfl, rfl, trivial⟩ ?_
                      refine WO_loadB tbok 1 rfl rfl rfl rfl (fun _ h => h) rfl rfl ?_
                      refine WO_pure tbok 1 [(3, .pointer (some ⟨b2, 0, none⟩)), (4, .pointer (some ⟨b3, 0, none⟩)), (6, .bool false), (117, .slice a15 ((y12).length) c16), (119, .int .i64 p1_0), (121, .int .i64 p1_1), (122, .pointer (some ⟨b3, 2, none⟩))] rfl ⟨rfl, rfl, rfl, rfl, rfl, rfl, rfl, trivial⟩ ?_
                      refine WO_loadB tbok 1 rfl rfl rfl rfl (fun _ h => h) rfl rfl ?_
                      refine WO_pure tbok 1 [(3, .pointer (some ⟨b2, 0, none⟩)), (4, .pointer (some ⟨b3, 0, none⟩)), (6, .bool false), (117, .slice a15 ((y12).length) c16), (119, .int .i64 p1_0), (121, .int .i64 p1_1), (123, .int .i64 p1_2), (124, .pointer (some ⟨b3, 3, none⟩))] rfl ⟨rfl, rfl, rfl, rfl, rfl, rfl, rfl, rfl, trivial⟩ ?_
                      refine WO_loadB tbok 1 rfl rfl rfl rfl (fun _ h => h) rfl rfl ?_
                      obtain ⟨⟨y131, y132⟩, hc133, hm⟩ := bind_some hm
                      refine WO_call0 (.tuple #[.int .i64 y131, .int .i64 y132]) rfl rfl trivial rfl rfl rfl rfl St_closed ⟨36, #[], #[], rfl, callable_36, fun w hw => ⟨_, hw.sat, raster_Sum_walk h22 hc133⟩⟩ ?_
                      refine WO_pure tbok 5 [(3, .pointer (some ⟨b2, 0, none⟩)), (4, .pointer (some ⟨b3, 0, none⟩)), (6, .bool false), (8, .int .i64 y132), (16, .int .i64 y131)] rfl ⟨rfl, rfl, rfl, rfl, rfl, trivial⟩ ?_
                      refine WO_end ?_
                      refine WK_seq ?_
                      refine WK_seq ?_
                      obtain ⟨s134, hx135, hm⟩ := bind_some hm
                      refine WK_meet [(3, .pointer (some ⟨b2, 0, none⟩)), (4, .pointer (some ⟨b3, 0, none⟩)), (6, .bool false), (8, .int .i64 y132), (16, .int .i64 y131), (180, .bool s134)] (St w0 m m20 [[⟨b2, 24, [.int .i64 p0_0, .int .i64 p0_1, .int .i64 p0_2, .slice a_p0_3 p0_3.length c_p0_3]⟩], [⟨b3, 48, [.int .i64 p1_0, .int .i64 p1_1, .int .i64 p1_2, .int .i64 p1_3]⟩], [⟨b7, 24, [.int .i64 p0_0, .int .i64 p0_1, .int .i64 p0_2, .slice a_p0_3 p0_3.length c_p0_3]⟩], L18, L32, [⟨b34, 24, [.int .i64 y23, .int .i64 y24, .int .i64 y25, .slice a29 ((y26).length) c30]⟩]]) ?_ (fun hk136 => ?_)
                      · refine WK_cond (b := s134) rfl (fun hb137 => ?_) (fun hb137 => ?_)
                        · have hm := ifT hb137 hm
                          refine WK_seq ?_
                          refine WK_region ?_
                          refine WO_pure tbok 3 [(3, .pointer (some ⟨b2, 0, none⟩)), (4, .pointer (some ⟨b3, 0, none⟩)), (6, .bool false), (8, .int .i64 y132), (16, .int .i64 y131), (183, .bool (y132 == 2))] rfl ⟨rfl, rfl, rfl, rfl, rfl, rfl, trivial⟩ ?_
                          refine WO_split (d := 183) (b := y132 == 2) rfl (fun hb138 => ?_) (fun hb138 => ?_)
                          · have hm := ifT hb138 hm
                            refine WO_pure tbok 4 [(3, .pointer (some ⟨b2, 0, none⟩)), (4, .pointer (some ⟨b3, 0, none⟩)), (6, .bool (y131 == 0)), (8, .int .i64 y132), (16, .int .i64 y131)] rfl ⟨rfl, rfl, rfl, rfl, rfl, trivial⟩ ?_
                            refine WO_end ?_
                            cases hm
                            exact WK_ret (ret_out (L := []) (RLc_tmp rfl RLc_nil) (List.nil_sublist _) rfl)
                          · have hm := ifF hb138 hm
                            refine WO_pure tbok 4 [(3, .pointer (some ⟨b2, 0, none⟩)), (4, .pointer (some ⟨b3, 0, none⟩)), (6, .bool false), (8, .int .i64 y132), (16, .int .i64 y131)] rfl ⟨rfl, rfl, rfl, rfl, rfl, trivial⟩ ?_
                            refine WO_end ?_
                            cases hm
                            exact WK_ret (ret_out (L := []) (RLc_tmp rfl RLc_nil) (List.nil_sublist _) rfl)
                        · have hm := ifF hb137 hm
                          refine WK_skip ?_
                          refine WK_seq ?_
                          refine WK_region ?_
                          refine WO_pure tbok 3 [(3, .pointer (some ⟨b2, 0, none⟩)), (4, .pointer (some ⟨b3, 0, none⟩)), (6, .bool false), (16, .int .i64 y131), (189, .bool (y132 == 0))] rfl ⟨rfl, rfl, rfl, rfl, rfl, trivial⟩ ?_
                          refine WO_split (d := 189) (b := y132 == 0) rfl (fun hb139 => ?_) (fun hb139 => ?_)
                          · have hm := ifT hb139 hm
                            refine WO_pure tbok 1 [(3, .pointer (some ⟨b2, 0, none⟩)), (4, .pointer (some ⟨b3, 0, none⟩)), (6, .bool false), (189, .bool true), (190, .int .i64 y131)] rfl ⟨rfl, rfl, rfl, rfl, rfl, trivial⟩ ?_
                            refine WO_loadB tbok 0 rfl rfl rfl rfl (fun _ h => h) rfl rfl ?_
                            refine WO_pure tbok 1 [(4, .pointer (some ⟨b3, 0, none⟩)), (6, .bool false), (189, .bool true), (190, .int .i64 y131), (191, .agg #[.int .i64 p0_0, .int .i64 p0_1, .int .i64 p0_2, .slice a_p0_3 p0_3.length c_p0_3]), (192, .pointer (some ⟨b3, 0, none⟩))] rfl ⟨rfl, rfl, rfl, rfl, rfl, rfl, trivial⟩ ?_
                            refine WO_loadB tbok 1 rfl rfl rfl rfl (fun _ h => h) rfl rfl ?_
                            refine WO_pure tbok 1 [(4, .pointer (some ⟨b3, 0, none⟩)), (6, .bool false), (189, .bool true), (190, .int .i64 y131), (191, .agg #[.int .i64 p0_0, .int .i64 p0_1, .int .i64 p0_2, .slice a_p0_3 p0_3.length c_p0_3]), (193, .int .i64 p1_0), (194, .pointer (some ⟨b3, 1, none⟩))] rfl ⟨rfl, rfl, rfl, rfl, rfl, rfl, rfl, trivial⟩ ?_
                            refine WO_loadB tbok 1 rfl rfl rfl rfl (fun _ h => h) rfl rfl ?_
                            refine WO_pure tbok 1 [(4, .pointer (some ⟨b3, 0, none⟩)), (6, .bool false), (189, .bool true), (190, .int .i64 y131), (191, .agg #[.int .i64 p0_0, .int .i64 p0_1, .int .i64 p0_2, .slice a_p0_3 p0_3.length c_p0_3]), (193, .int .i64 p1_0), (195, .int .i64 p1_1), (196, .pointer (some ⟨b3, 2, none⟩))] rfl ⟨rfl, rfl, rfl, rfl, rfl, rfl, rfl, rfl, trivial⟩ ?_
                            refine WO_loadB tbok 1 rfl rfl rfl rfl (fun _ h => h) rfl rfl ?_
                            refine WO_pure tbok 1 [(6, .bool false), (189, .bool true), (190, .int .i64 y131), (191, .agg #[.int .i64 p0_0, .int .i64 p0_1, .int .i64 p0_2, .slice a_p0_3 p0_3.length c_p0_3]), (193, .int .i64 p1_0), (195, .int .i64 p1_1), (197, .int .i64 p1_2), (198, .pointer (some ⟨b3, 3, none⟩))] rfl ⟨rfl, rfl, rfl, rfl, rfl, rfl, rfl, rfl, trivial⟩ ?_
                            refine WO_loadB tbok 1 rfl rfl rfl rfl (fun _ h => h) rfl rfl ?_
                            obtain ⟨y140, hc141, hm⟩ := bind_some hm
                            refine WO_call0 (.int .i64 y140) rfl rfl trivial rfl rfl rfl rfl St_closed ⟨35, #[], #[], rfl, callable_35, fun w hw => ⟨_, hw.sat, fiducialref13_Sum_walk (h_p0_3.mono (mono_FE _) hle21) hc141⟩⟩ ?_
                            refine WO_pure tbok 3 [(6, .bool (y131 == y140))] rfl ⟨rfl, trivial⟩ ?_
                            refine WO_end ?_
                            cases hm
                            exact WK_ret (ret_out (L := []) (RLc_tmp rfl RLc_nil) (List.nil_sublist _) rfl)
                          · have hm := ifF hb139 hm
                            refine WO_pure tbok 10 [(6, .bool false), (189, .bool false)] rfl ⟨rfl, rfl, trivial⟩ ?_
                            refine WO_skip rfl rfl ?_
                            refine WO_pure tbok 3 [(6, .bool false)] rfl ⟨rfl, trivial⟩ ?_
                            refine WO_end ?_
                            cases hm
                            exact WK_ret (ret_out (L := []) (RLc_tmp rfl RLc_nil) (List.nil_sublist _) rfl)
                      · refine WK_region ?_
                        refine WO_pure tbok 1 [(3, .pointer (some ⟨b2, 0, none⟩)), (4, .pointer (some ⟨b3, 0, none⟩)), (6, .bool false), (8, .int .i64 y132), (16, .int .i64 y131), (129, .pointer (some ⟨b3, 0, none⟩))] rfl ⟨rfl, rfl, rfl, rfl, rfl, rfl, trivial⟩ ?_
                        refine WO_loadB tbok 1 rfl rfl rfl rfl (fun _ h => h) rfl rfl ?_
                        refine WO_pure tbok 2 [(3, .pointer (some ⟨b2, 0, none⟩)), (4, .pointer (some ⟨b3, 0, none⟩)), (6, .bool false), (8, .int .i64 y132), (16, .int .i64 y131), (132, .bool (decide (p1_0 < 0)))] rfl ⟨rfl, rfl, rfl, rfl, rfl, rfl, trivial⟩ ?_
                        refine WO_split (d := 132) (b := decide (p1_0 < 0)) rfl (fun hb142 => ?_) (fun hb142 => ?_)
                        · have hx135 := ifT hb142 hx135
                          refine WO_pure tbok 48 [(3, .pointer (some ⟨b2, 0, none⟩)), (4, .pointer (some ⟨b3, 0, none⟩)), (6, .bool false), (8, .int .i64 y132), (16, .int .i64 y131), (180, .bool true)] rfl ⟨rfl, rfl, rfl, rfl, rfl, rfl, trivial⟩ ?_
                          refine WO_end ?_
                          cases hx135
                          refine WK.sub ?_ (WK.cls (fun _ h => h) hk136)
                          exact ⟨rfl, rfl, rfl, rfl, rfl, rfl, trivial⟩
                        · have hx135 := ifF hb142 hx135
                          refine WO_pure tbok 1 [(3, .pointer (some ⟨b2, 0, none⟩)), (4, .pointer (some ⟨b3, 0, none⟩)), (6, .bool false), (8, .int .i64 y132), (16, .int .i64 y131), (132, .bool false), (133, .pointer (some ⟨b3, 1, none⟩))] rfl ⟨rfl, rfl, rfl, rfl, rfl, rfl, rfl, trivial⟩ ?_
                          refine WO_loadB tbok 1 rfl rfl rfl rfl (fun _ h => h) rfl rfl ?_
                          refine WO_pure tbok 3 [(3, .pointer (some ⟨b2, 0, none⟩)), (4, .pointer (some ⟨b3, 0, none⟩)), (6, .bool false), (8, .int .i64 y132), (16, .int .i64 y131), (137, .bool (decide (p1_1 < 0)))] rfl ⟨rfl, rfl, rfl, rfl, rfl, rfl, trivial⟩ ?_
                          refine WO_split (d := 137) (b := decide (p1_1 < 0)) rfl (fun hb143 => ?_) (fun hb143 => ?_)
                          · have hx135 := ifT hb143 hx135
                            refine WO_pure tbok 43 [(3, .pointer (some ⟨b2, 0, none⟩)), (4, .pointer (some ⟨b3, 0, none⟩)), (6, .bool false), (8, .int .i64 y132), (16, .int .i64 y131), (180, .bool true)] rfl ⟨rfl, rfl, rfl, rfl, rfl, rfl, trivial⟩ ?_
                            refine WO_end ?_
                            cases hx135
                            refine WK.sub ?_ (WK.cls (fun _ h => h) hk136)
                            exact ⟨rfl, rfl, rfl, rfl, rfl, rfl, trivial⟩
                          · have hx135 := ifF hb143 hx135
                            refine WO_pure tbok 1 [(3, .pointer (some ⟨b2, 0, none⟩)), (4, .pointer (some ⟨b3, 0, none⟩)), (6, .bool false), (8, .int .i64 y132), (16, .int .i64 y131), (137, .bool false), (138, .pointer (some ⟨b3, 2, none⟩))] rfl ⟨rfl, rfl, rfl, rfl, rfl, rfl, rfl, trivial⟩ ?_
                            refine WO_loadB tbok 1 rfl rfl rfl rfl (fun _ h => h) rfl rfl ?_
                            refine WO_pure tbok 3 [(3, .pointer (some ⟨b2, 0, none⟩)), (4, .pointer (some ⟨b3, 0, none⟩)), (6, .bool false), (8, .int .i64 y132), (16, .int .i64 y131), (142, .bool (decide (p1_2 < 0)))] rfl ⟨rfl, rfl, rfl, rfl, rfl, rfl, trivial⟩ ?_
                            refine WO_split (d := 142) (b := decide (p1_2 < 0)) rfl (fun hb144 => ?_) (fun hb144 => ?_)
                            · have hx135 := ifT hb144 hx135
                              refine WO_pure tbok 38 [(3, .pointer (some ⟨b2, 0, none⟩)), (4, .pointer (some ⟨b3, 0, none⟩)), (6, .bool false), (8, .int .i64 y132), (16, .int .i64 y131), (180, .bool true)] rfl ⟨rfl, rfl, rfl, rfl, rfl, rfl, trivial⟩ ?_
                              refine WO_end ?_
                              cases hx135
                              refine WK.sub ?_ (WK.cls (fun _ h => h) hk136)
                              exact ⟨rfl, rfl, rfl, rfl, rfl, rfl, trivial⟩
                            · have hx135 := ifF hb144 hx135
                              refine WO_pure tbok 1 [(3, .pointer (some ⟨b2, 0, none⟩)), (4, .pointer (some ⟨b3, 0, none⟩)), (6, .bool false), (8, .int .i64 y132), (16, .int .i64 y131), (142, .bool false), (143, .pointer (some ⟨b3, 3, none⟩))] rfl ⟨rfl, rfl, rfl, rfl, rfl, rfl, rfl, trivial⟩ ?_
                              refine WO_loadB tbok 1 rfl rfl rfl rfl (fun _ h => h) rfl rfl ?_
                              refine WO_pure tbok 3 [(3, .pointer (some ⟨b2, 0, none⟩)), (4, .pointer (some ⟨b3, 0, none⟩)), (6, .bool false), (8, .int .i64 y132), (16, .int .i64 y131), (147, .bool (decide (p1_3 < 0)))] rfl ⟨rfl, rfl, rfl, rfl, rfl, rfl, trivial⟩ ?_
                              refine WO_split (d := 147) (b := decide (p1_3 < 0)) rfl (fun hb145 => ?_) (fun hb145 => ?_)
                              · have hx135 := ifT hb145 hx135
                                refine WO_pure tbok 33 [(3, .pointer (some ⟨b2, 0, none⟩)), (4, .pointer (some ⟨b3, 0, none⟩)), (6, .bool false), (8, .int .i64 y132), (16, .int .i64 y131), (180, .bool true)] rfl ⟨rfl, rfl, rfl, rfl, rfl, rfl, trivial⟩ ?_
                                refine WO_end ?_
                                cases hx135
                                refine WK.sub ?_ (WK.cls (fun _ h => h) hk136)
                                exact ⟨rfl, rfl, rfl, rfl, rfl, rfl, trivial⟩
                              · have hx135 := ifF hb145 hx135
                                refine WO_pure tbok 1 [(3, .pointer (some ⟨b2, 0, none⟩)), (4, .pointer (some ⟨b3, 0, none⟩)), (6, .bool false), (8, .int .i64 y132), (16, .int .i64 y131), (147, .bool false), (148, .pointer (some ⟨b3, 0, none⟩))] rfl ⟨rfl, rfl, rfl, rfl, rfl, rfl, rfl, trivial⟩ ?_
                                refine WO_loadB tbok 1 rfl rfl rfl rfl (fun _ h => h) rfl rfl ?_
                                refine WO_pure tbok 1 [(3, .pointer (some ⟨b2, 0, none⟩)), (4, .pointer (some ⟨b3, 0, none⟩)), (6, .bool false), (8, .int .i64 y132), (16, .int .i64 y131), (147, .bool false), (149, .int .i64 p1_0), (150, .pointer (some ⟨b2, 0, none⟩))] rfl ⟨rfl, rfl, rfl, rfl, rfl, rfl, rfl, rfl, trivial⟩ ?_
                                refine WO_loadB tbok 0 rfl rfl rfl rfl (fun _ h => h) rfl rfl ?_
                                refine WO_pure tbok 3 [(3, .pointer (some ⟨b2, 0, none⟩)), (4, .pointer (some ⟨b3, 0, none⟩)), (6, .bool false), (8, .int .i64 y132), (16, .int .i64 y131), (154, .bool (decide (p0_0 < p1_0)))] rfl ⟨rfl, rfl, rfl, rfl, rfl, rfl, trivial⟩ ?_
                                refine WO_split (d := 154) (b := decide (p0_0 < p1_0)) rfl (fun hb146 => ?_) (fun hb146 => ?_)
                                · have hx135 := ifT hb146 hx135
                                  refine WO_pure tbok 26 [(3, .pointer (some ⟨b2, 0, none⟩)), (4, .pointer (some ⟨b3, 0, none⟩)), (6, .bool false), (8, .int .i64 y132), (16, .int .i64 y131), (180, .bool true)] rfl ⟨rfl, rfl, rfl, rfl, rfl, rfl, trivial⟩ ?_
                                  refine WO_end ?_
                                  cases hx135
                                  refine WK.sub ?_ (WK.cls (fun _ h => h) hk136)
                                  exact ⟨rfl, rfl, rfl, rfl, rfl, rfl, trivial⟩
                                · have hx135 := ifF hb146 hx135
                                  refine WO_pure tbok 1 [(3, .pointer (some ⟨b2, 0, none⟩)), (4, .pointer (some ⟨b3, 0, none⟩)), (6, .bool false), (8, .int .i64 y132), (16, .int .i64 y131), (154, .bool false), (155, .pointer (some ⟨b3, 1, none⟩))] rfl ⟨rfl, rfl, rfl, rfl, rfl, rfl, rfl, trivial⟩ ?_
                                  refine WO_loadB tbok 1 rfl rfl rfl rfl (fun _ h => h) rfl rfl ?_
                                  refine WO_pure tbok 1 [(3, .pointer (some ⟨b2, 0, none⟩)), (4, .pointer (some ⟨b3, 0, none⟩)), (6, .bool false), (8, .int .i64 y132), (16, .int .i64 y131), (154, .bool false), (156, .int .i64 p1_1), (157, .pointer (some ⟨b2, 1, none⟩))] rfl ⟨rfl, rfl, rfl, rfl, rfl, rfl, rfl, rfl, trivial⟩ ?_
                                  refine WO_loadB tbok 0 rfl rfl rfl rfl (fun _ h => h) rfl rfl ?_
                                  refine WO_pure tbok 3 [(3, .pointer (some ⟨b2, 0, none⟩)), (4, .pointer (some ⟨b3, 0, none⟩)), (6, .bool false), (8, .int .i64 y132), (16, .int .i64 y131), (161, .bool (decide (p0_1 < p1_1)))] rfl ⟨rfl, rfl, rfl, rfl, rfl, rfl, trivial⟩ ?_
                                  refine WO_split (d := 161) (b := decide (p0_1 < p1_1)) rfl (fun hb147 => ?_) (fun hb147 => ?_)
                                  · have hx135 := ifT hb147 hx135
                                    refine WO_pure tbok 19 [(3, .pointer (some ⟨b2, 0, none⟩)), (4, .pointer (some ⟨b3, 0, none⟩)), (6, .bool false), (8, .int .i64 y132), (16, .int .i64 y131), (180, .bool true)] rfl ⟨rfl, rfl, rfl, rfl, rfl, rfl, trivial⟩ ?_
                                    refine WO_end ?_
                                    cases hx135
                                    refine WK.sub ?_ (WK.cls (fun _ h => h) hk136)
                                    exact ⟨rfl, rfl, rfl, rfl, rfl, rfl, trivial⟩
                                  · have hx135 := ifF hb147 hx135
                                    refine WO_pure tbok 1 [(3, .pointer (some ⟨b2, 0, none⟩)), (4, .pointer (some ⟨b3, 0, none⟩)), (6, .bool false), (8, .int .i64 y132), (16, .int .i64 y131), (161, .bool false), (162, .pointer (some ⟨b3, 2, none⟩))] rfl ⟨rfl, rfl, rfl, rfl, rfl, rfl, rfl, trivial⟩ ?_
                                    refine WO_loadB tbok 1 rfl rfl rfl rfl (fun _ h => h) rfl rfl ?_
                                    refine WO_pure tbok 1 [(3, .pointer (some ⟨b2, 0, none⟩)), (4, .pointer (some ⟨b3, 0, none⟩)), (6, .bool false), (8, .int .i64 y132), (16, .int .i64 y131), (161, .bool false), (163, .int .i64 p1_2), (164, .pointer (some ⟨b2, 0, none⟩))] rfl ⟨rfl, rfl, rfl, rfl, rfl, rfl, rfl, rfl, trivial⟩ ?_
                                    refine WO_loadB tbok 0 rfl rfl rfl rfl (fun _ h => h) rfl rfl ?_
                                    refine WO_pure tbok 1 [(3, .pointer (some ⟨b2, 0, none⟩)), (4, .pointer (some ⟨b3, 0, none⟩)), (6, .bool false), (8, .int .i64 y132), (16, .int .i64 y131), (161, .bool false), (163, .int .i64 p1_2), (165, .int .i64 p0_0), (166, .pointer (some ⟨b3, 0, none⟩))] rfl ⟨rfl, rfl, rfl, rfl, rfl, rfl, rfl, rfl, rfl, trivial⟩ ?_
                                    refine WO_loadB tbok 1 rfl rfl rfl rfl (fun _ h => h) rfl rfl ?_
                                    refine WO_pure tbok 4 [(3, .pointer (some ⟨b2, 0, none⟩)), (4, .pointer (some ⟨b3, 0, none⟩)), (6, .bool false), (8, .int .i64 y132), (16, .int .i64 y131), (171, .bool (decide ((w64 (p0_0 - p1_0)) < p1_2)))] rfl ⟨rfl, rfl, rfl, rfl, rfl, rfl, trivial⟩ ?_
                                    refine WO_split (d := 171) (b := decide ((w64 (p0_0 - p1_0)) < p1_2)) rfl (fun hb148 => ?_) (fun hb148 => ?_)
                                    · have hx135 := ifT hb148 hx135
                                      refine WO_pure tbok 9 [(3, .pointer (some ⟨b2, 0, none⟩)), (4, .pointer (some ⟨b3, 0, none⟩)), (6, .bool false), (8, .int .i64 y132), (16, .int .i64 y131), (180, .bool true)] rfl ⟨rfl, rfl, rfl, rfl, rfl, rfl, trivial⟩ ?_
                                      refine WO_end ?_
                                      cases hx135
                                      refine WK.sub ?_ (WK.cls (fun _ h => h) hk136)
                                      exact ⟨rfl, rfl, rfl, rfl, rfl, rfl, trivial⟩
                                    · have hx135 := ifF hb148 hx135
                                      refine WO_pure tbok 1 [(3, .pointer (some ⟨b2, 0, none⟩)), (4, .pointer (some ⟨b3, 0, none⟩)), (6, .bool false), (8, .int .i64 y132), (16, .int .i64 y131), (171, .bool false), (172, .pointer (some ⟨b3, 3, none⟩))] rfl ⟨rfl, rfl, rfl, rfl, rfl, rfl, rfl, trivial⟩ ?_
                                      refine WO_loadB tbok 1 rfl rfl rfl rfl (fun _ h => h) rfl rfl ?_
                                      refine WO_pure tbok 1 [(3, .pointer (some ⟨b2, 0, none⟩)), (4, .pointer (some ⟨b3, 0, none⟩)), (6, .bool false), (8, .int .i64 y132), (16, .int .i64 y131), (171, .bool false), (173, .int .i64 p1_3), (174, .pointer (some ⟨b2, 1, none⟩))] rfl ⟨rfl, rfl, rfl, rfl, rfl, rfl, rfl, rfl, trivial⟩ ?_
                                      refine WO_loadB tbok 0 rfl rfl rfl rfl (fun _ h => h) rfl rfl ?_
                                      refine WO_pure tbok 1 [(3, .pointer (some ⟨b2, 0, none⟩)), (4, .pointer (some ⟨b3, 0, none⟩)), (6, .bool false), (8, .int .i64 y132), (16, .int .i64 y131), (171, .bool false), (173, .int .i64 p1_3), (175, .int .i64 p0_1), (176, .pointer (some ⟨b3, 1, none⟩))] rfl ⟨rfl, rfl, rfl, rfl, rfl, rfl, rfl, rfl, rfl, trivial⟩ ?_
                                      refine WO_loadB tbok 1 rfl rfl rfl rfl (fun _ h => h) rfl rfl ?_
                                      refine WO_pure tbok 3 [(3, .pointer (some ⟨b2, 0, none⟩)), (4, .pointer (some ⟨b3, 0, none⟩)), (6, .bool false), (8, .int .i64 y132), (16, .int .i64 y131), (180, .bool (decide ((w64 (p0_1 - p1_1)) < p1_3)))] rfl ⟨rfl, rfl, rfl, rfl, rfl, rfl, trivial⟩ ?_
                                      refine WO_end ?_
                                      cases hx135
                                      refine WK.sub ?_ (WK.cls (fun _ h => h) hk136)
                                      exact ⟨rfl, rfl, rfl, rfl, rfl, rfl, trivial⟩
                    · refine WK_block ?_
                      refine WK_loop (S := Int) (G := Unit) (fun s => fiduciallaw13_RasterSums_s3 p0_0 p0_1 p0_2 p0_3 y12 s) (fun s g => [(3, .pointer (some ⟨b2, 0, none⟩)), (4, .pointer (some ⟨b3, 0, none⟩)), (6, .bool false), (7, .slice a15 ((y12).length) c16), (88, .slice a15 ((y12).length) c16), (89, .int .i64 ((y12).length : Int)), (90, .int .i64 s)]) (fun s g => St w0 m m20 [[⟨b2, 24, [.int .i64 p0_0, .int .i64 p0_1, .int .i64 p0_2, .slice a_p0_3 p0_3.length c_p0_3]⟩], [⟨b3, 48, [.int .i64 p1_0, .int .i64 p1_1, .int .i64 p1_2, .int .i64 p1_3]⟩], [⟨b7, 24, [.int .i64 p0_0, .int .i64 p0_1, .int .i64 p0_2, .slice a_p0_3 p0_3.length c_p0_3]⟩], L18, L32, [⟨b34, 24, [.int .i64 y23, .int .i64 y24, .int .i64 y25, .slice a29 ((y26).length) c30]⟩]]) (fun s g => True) FUEL 0 () x122 hx123 trivial ⟨rfl, rfl, rfl, rfl, rfl, rfl, rfl, trivial⟩ (fun _ h => h) ?_
                      rintro s121 ⟨⟩ o126 fl127 hm125 - hn128 hd129
                      have hm125 : fiduciallaw13_RasterSums_s3 p0_0 p0_1 p0_2 p0_3 y12 s121 = some o126 := hm125
                      unfold fiduciallaw13_RasterSums_s3 at hm125
                      refine WK.sub (e' := [(3, .pointer (some ⟨b2, 0, none⟩)), (4, .pointer (some ⟨b3, 0, none⟩)), (6, .bool false), (7, .slice a15 ((y12).length) c16), (88, .slice a15 ((y12).length) c16), (89, .int .i64 ((y12).length : Int)), (90, .int .i64 s121)]) ⟨rfl, rfl, rfl, rfl, rfl, rfl, rfl, trivial⟩ (WK.cls (C' := St w0 m m20 [[⟨b2, 24, [.int .i64 p0_0, .int .i64 p0_1, .int .i64 p0_2, .slice a_p0_3 p0_3.length c_p0_3]⟩], [⟨b3, 48, [.int .i64 p1_0, .int .i64 p1_1, .int .i64 p1_2, .int .i64 p1_3]⟩], [⟨b7, 24, [.int .i64 p0_0, .int .i64 p0_1, .int .i64 p0_2, .slice a_p0_3 p0_3.length c_p0_3]⟩], L18, L32, [⟨b34, 24, [.int .i64 y23, .int .i64 y24, .int .i64 y25, .slice a29 ((y26).length) c30]⟩]]) (fun _ h => h) ?_)
                      refine WK_seq ?_
                      refine WK_region ?_
                      refine WO_pure tbok 1 [(3, .pointer (some ⟨b2, 0, none⟩)), (4, .pointer (some ⟨b3, 0, none⟩)), (6, .bool false), (7, .slice a15 ((y12).length) c16), (88, .slice a15 ((y12).length) c16), (89, .int .i64 ((y12).length : Int)), (90, .int .i64 s121), (91, .bool (decide (s121 < ((y12).length : Int))))] rfl ⟨rfl, rfl, rfl, rfl, rfl, rfl, rfl, rfl, trivial⟩ ?_
                      refine WO_end ?_
                      refine WK_seq ?_
                      refine WK_cond (b := decide (s121 < ((y12).length : Int))) rfl (fun hb149 => ?_) (fun hb149 => ?_)
                      · have hm125 := ifT hb149 hm125
                        refine WK_skip ?_
                        refine WK_seq ?_
                        refine WK_block ?_
                        refine WK_seq ?_
                        refine WK_region ?_
                        refine WO_pure tbok 1 [(3, .pointer (some ⟨b2, 0, none⟩)), (4, .pointer (some ⟨b3, 0, none⟩)), (6, .bool false), (7, .slice a15 ((y12).length) c16), (88, .slice a15 ((y12).length) c16), (89, .int .i64 ((y12).length : Int)), (90, .int .i64 s121), (92, .int .i64 s121)] rfl ⟨rfl, rfl, rfl, rfl, rfl, rfl, rfl, rfl, trivial⟩ ?_
                        obtain ⟨v150, hy151, hm125⟩ := bind_some hm125
                        obtain ⟨hc152, hy151⟩ := ix_some hy151
                        refine WO_index tbok rfl rfl rfl rfl rfl rfl rfl rfl (SlR.addr h22) hc152 ?_
                        refine WO_loadR tbok rfl rfl rfl rfl (fun _ h => St.sat h) h22 hy151 rfl rfl (fun a153 c154 h155 => ?_)
                        refine WO_pure tbok 2 [(3, .pointer (some ⟨b2, 0, none⟩)), (4, .pointer (some ⟨b3, 0, none⟩)), (6, .bool false), (7, .slice a15 ((y12).length) c16), (12, .int .i64 s121), (13, .slice a153 ((v150).length) c154), (88, .slice a15 ((y12).length) c16), (89, .int .i64 ((y12).length : Int)), (90, .int .i64 s121)] rfl ⟨rfl, rfl, rfl, rfl, rfl, rfl, rfl, rfl, rfl, trivial⟩ ?_
                        refine WO_end ?_
                        refine WK_seq ?_
                        refine WK_seq ?_
                        refine WK_region ?_
                        refine WO_pure tbok 3 [(3, .pointer (some ⟨b2, 0, none⟩)), (4, .pointer (some ⟨b3, 0, none⟩)), (6, .bool false), (7, .slice a15 ((y12).length) c16), (12, .int .i64 s121), (13, .slice a153 ((v150).length) c154), (88, .slice a15 ((y12).length) c16), (89, .int .i64 ((y12).length : Int)), (90, .int .i64 s121), (96, .int .i64 ((v150).length : Int)), (97, .pointer (some ⟨b2, 0, none⟩))] rfl ⟨rfl, rfl, rfl, rfl, rfl, rfl, rfl, rfl, rfl, rfl, rfl, trivial⟩ ?_
                        refine WO_loadB tbok 0 rfl rfl rfl rfl (fun _ h => h) rfl rfl ?_
                        refine WO_pure tbok 2 [(3, .pointer (some ⟨b2, 0, none⟩)), (4, .pointer (some ⟨b3, 0, none⟩)), (6, .bool false), (7, .slice a15 ((y12).length) c16), (12, .int .i64 s121), (13, .slice a153 ((v150).length) c154), (88, .slice a15 ((y12).length) c16), (89, .int .i64 ((y12).length : Int)), (90, .int .i64 s121), (100, .bool (((v150).length : Int) != (w64 (p0_0 + 1))))] rfl ⟨rfl, rfl, rfl, rfl, rfl, rfl, rfl, rfl, rfl, rfl, trivial⟩ ?_
                        refine WO_end ?_
                        refine WK_cond (b := ((v150).length : Int) != (w64 (p0_0 + 1))) rfl (fun hb157 => ?_) (fun hb157 => ?_)
                        · have hm125 := ifT hb157 hm125
                          refine WK_seq ?_
                          refine WK_region ?_
                          refine WO_pure tbok 1 [(3, .pointer (some ⟨b2, 0, none⟩)), (4, .pointer (some ⟨b3, 0, none⟩)), (6, .bool false), (7, .slice a15 ((y12).length) c16), (12, .int .i64 s121), (13, .slice a153 ((v150).length) c154), (88, .slice a15 ((y12).length) c16), (89, .int .i64 ((y12).length : Int)), (90, .int .i64 s121)] rfl ⟨rfl, rfl, rfl, rfl, rfl, rfl, rfl, rfl, rfl, trivial⟩ ?_
                          refine WO_end ?_
                          cases hm125
                          have hq := hd129 _ rfl
                          subst hq
                          have hm : some _ = some _ := hm
                          cases hm
                          exact WK_ret (ret_out (L := []) (RLc_tmp rfl RLc_nil) (List.nil_sublist _) rfl)
                        · have hm125 := ifF hb157 hm125
                          refine WK_skip ?_
                          refine WK_seq ?_
                          refine WK_region ?_
                          refine WO_pure tbok 3 [(3, .pointer (some ⟨b2, 0, none⟩)), (4, .pointer (some ⟨b3, 0, none⟩)), (6, .bool false), (7, .slice a15 ((y12).length) c16), (12, .int .i64 s121), (88, .slice a15 ((y12).length) c16), (89, .int .i64 ((y12).length : Int)), (90, .int .i64 s121), (101, .slice a153 ((v150).length) c154), (102, .int .i64 ((v150).length : Int)), (103, .int .i64 0)] rfl ⟨rfl, rfl, rfl, rfl, rfl, rfl, rfl, rfl, rfl, rfl, rfl, trivial⟩ ?_
                          refine WO_end ?_
                          obtain ⟨x159, hx160, hm125⟩ := bind_some hm125
                          refine WK_join (β := Unit × Unit) (fun p => Sum.inr p.1 = x159) (fun p => [(3, .pointer (some ⟨b2, 0, none⟩)), (4, .pointer (some ⟨b3, 0, none⟩)), (6, .bool false), (7, .slice a15 ((y12).length) c16), (88, .slice a15 ((y12).length) c16), (89, .int .i64 ((y12).length : Int)), (90, .int .i64 s121)]) (fun p => St w0 m m20 [[⟨b2, 24, [.int .i64 p0_0, .int .i64 p0_1, .int .i64 p0_2, .slice a_p0_3 p0_3.length c_p0_3]⟩], [⟨b3, 48, [.int .i64 p1_0, .int .i64 p1_1, .int .i64 p1_2, .int .i64 p1_3]⟩], [⟨b7, 24, [.int .i64 p0_0, .int .i64 p0_1, .int .i64 p0_2, .slice a_p0_3 p0_3.length c_p0_3]⟩], L18, L32, [⟨b34, 24, [.int .i64 y23, .int .i64 y24, .int .i64 y25, .slice a29 ((y26).length) c30]⟩]]) ?_ (fun hk161 => ?_)
                          · rintro ⟨⟨⟩, ⟨⟩⟩ hq167
                            subst hq167
                            refine WK.sub (e' := [(3, .pointer (some ⟨b2, 0, none⟩)), (4, .pointer (some ⟨b3, 0, none⟩)), (6, .bool false), (7, .slice a15 ((y12).length) c16), (88, .slice a15 ((y12).length) c16), (89, .int .i64 ((y12).length : Int)), (90, .int .i64 s121)]) ⟨rfl, rfl, rfl, rfl, rfl, rfl, rfl, trivial⟩ (WK.cls (C' := St w0 m m20 [[⟨b2, 24, [.int .i64 p0_0, .int .i64 p0_1, .int .i64 p0_2, .slice a_p0_3 p0_3.length c_p0_3]⟩], [⟨b3, 48, [.int .i64 p1_0, .int .i64 p1_1, .int .i64 p1_2, .int .i64 p1_3]⟩], [⟨b7, 24, [.int .i64 p0_0, .int .i64 p0_1, .int .i64 p0_2, .slice a_p0_3 p0_3.length c_p0_3]⟩], L18, L32, [⟨b34, 24, [.int .i64 y23, .int .i64 y24, .int .i64 y25, .slice a29 ((y26).length) c30]⟩]]) (fun _ h => h) ?_)
                            refine WK_blk ?_
                            refine WK_region ?_
                            refine WO_pure tbok 2 [(3, .pointer (some ⟨b2, 0, none⟩)), (4, .pointer (some ⟨b3, 0, none⟩)), (6, .bool false), (7, .slice a15 ((y12).length) c16), (88, .slice a15 ((y12).length) c16), (89, .int .i64 ((y12).length : Int)), (90, .int .i64 (w64 (s121 + 1)))] rfl ⟨rfl, rfl, rfl, rfl, rfl, rfl, rfl, trivial⟩ ?_
                            refine WO_end ?_
                            cases hm125
                            refine WK.sub ?_ (WK.cls (fun _ h => h) (hn128 _ () rfl trivial))
                            exact ⟨rfl, rfl, rfl, rfl, rfl, rfl, rfl, trivial⟩
                          · refine WK_block ?_
                            refine WK_loop (S := Int) (G := Unit) (fun s => fiduciallaw13_RasterSums_s4 p0_0 p0_1 p0_2 p0_3 s121 v150 s) (fun s g => [(3, .pointer (some ⟨b2, 0, none⟩)), (4, .pointer (some ⟨b3, 0, none⟩)), (6, .bool false), (7, .slice a15 ((y12).length) c16), (12, .int .i64 s121), (88, .slice a15 ((y12).length) c16), (89, .int .i64 ((y12).length : Int)), (90, .int .i64 s121), (101, .slice a153 ((v150).length) c154), (102, .int .i64 ((v150).length : Int)), (103, .int .i64 s)]) (fun s g => St w0 m m20 [[⟨b2, 24, [.int .i64 p0_0, .int .i64 p0_1, .int .i64 p0_2, .slice a_p0_3 p0_3.length c_p0_3]⟩], [⟨b3, 48, [.int .i64 p1_0, .int .i64 p1_1, .int .i64 p1_2, .int .i64 p1_3]⟩], [⟨b7, 24, [.int .i64 p0_0, .int .i64 p0_1, .int .i64 p0_2, .slice a_p0_3 p0_3.length c_p0_3]⟩], L18, L32, [⟨b34, 24, [.int .i64 y23, .int .i64 y24, .int .i64 y25, .slice a29 ((y26).length) c30]⟩]]) (fun s g => True) FUEL 0 () x159 hx160 trivial ⟨rfl, rfl, rfl, rfl, rfl, rfl, rfl, rfl, rfl, rfl, rfl, trivial⟩ (fun _ h => h) ?_
                            rintro s158 ⟨⟩ o163 fl164 hm162 - hn165 hd166
                            have hm162 : fiduciallaw13_RasterSums_s4 p0_0 p0_1 p0_2 p0_3 s121 v150 s158 = some o163 := hm162
                            unfold fiduciallaw13_RasterSums_s4 at hm162
                            refine WK.sub (e' := [(3, .pointer (some ⟨b2, 0, none⟩)), (4, .pointer (some ⟨b3, 0, none⟩)), (6, .bool false), (7, .slice a15 ((y12).length) c16), (12, .int .i64 s121), (88, .slice a15 ((y12).length) c16), (89, .int .i64 ((y12).length : Int)), (90, .int .i64 s121), (101, .slice a153 ((v150).length) c154), (102, .int .i64 ((v150).length : Int)), (103, .int .i64 s158)]) ⟨rfl, rfl, rfl, rfl, rfl, rfl, rfl, rfl, rfl, rfl, rfl, trivial⟩ (WK.cls (C' := St w0 m m20 [[⟨b2, 24, [.int .i64 p0_0, .int .i64 p0_1, .int .i64 p0_2, .slice a_p0_3 p0_3.length c_p0_3]⟩], [⟨b3, 48, [.int .i64 p1_0, .int .i64 p1_1, .int .i64 p1_2, .int .i64 p1_3]⟩], [⟨b7, 24, [.int .i64 p0_0, .int .i64 p0_1, .int .i64 p0_2, .slice a_p0_3 p0_3.length c_p0_3]⟩], L18, L32, [⟨b34, 24, [.int .i64 y23, .int .i64 y24, .int .i64 y25, .slice a29 ((y26).length) c30]⟩]]) (fun _ h => h) ?_)
                            refine WK_seq ?_
                            refine WK_region ?_
                            refine WO_pure tbok 1 [(3, .pointer (some ⟨b2, 0, none⟩)), (4, .pointer (some ⟨b3, 0, none⟩)), (6, .bool false), (7, .slice a15 ((y12).length) c16), (12, .int .i64 s121), (88, .slice a15 ((y12).length) c16), (89, .int .i64 ((y12).length : Int)), (90, .int .i64 s121), (101, .slice a153 ((v150).length) c154), (102, .int .i64 ((v150).length : Int)), (103, .int .i64 s158), (104, .bool (decide (s158 < ((v150).length : Int))))] rfl ⟨rfl, rfl, rfl, rfl, rfl, rfl, rfl, rfl, rfl, rfl, rfl, rfl, trivial⟩ ?_
                            refine WO_end ?_
                            refine WK_seq ?_
                            refine WK_cond (b := decide (s158 < ((v150).length : Int))) rfl (fun hb168 => ?_) (fun hb168 => ?_)
                            · have hm162 := ifT hb168 hm162
                              refine WK_skip ?_
                              refine WK_seq ?_
                              refine WK_block ?_
                              refine WK_seq ?_
                              refine WK_region ?_
                              refine WO_pure tbok 1 [(3, .pointer (some ⟨b2, 0, none⟩)), (4, .pointer (some ⟨b3, 0, none⟩)), (6, .bool false), (7, .slice a15 ((y12).length) c16), (12, .int .i64 s121), (88, .slice a15 ((y12).length) c16), (89, .int .i64 ((y12).length : Int)), (90, .int .i64 s121), (101, .slice a153 ((v150).length) c154), (102, .int .i64 ((v150).length : Int)), (103, .int .i64 s158), (105, .int .i64 s158)] rfl ⟨rfl, rfl, rfl, rfl, rfl, rfl, rfl, rfl, rfl, rfl, rfl, rfl, trivial⟩ ?_
                              obtain ⟨v169, hy170, hm162⟩ := bind_some hm162
                              obtain ⟨hc171, hy170⟩ := ix_some hy170
                              refine WO_index tbok rfl rfl rfl rfl rfl rfl rfl rfl (SlR.addr h155) hc171 ?_
                              refine WO_loadE tbok rfl rfl rfl rfl (fun _ h => St.sat h) h155 hy170 rfl ?_
                              refine WO_pure tbok 2 [(3, .pointer (some ⟨b2, 0, none⟩)), (4, .pointer (some ⟨b3, 0, none⟩)), (6, .bool false), (7, .slice a15 ((y12).length) c16), (12, .int .i64 s121), (14, .int .i64 s158), (15, .int .i64 v169), (88, .slice a15 ((y12).length) c16), (89, .int .i64 ((y12).length : Int)), (90, .int .i64 s121), (101, .slice a153 ((v150).length) c154), (102, .int .i64 ((v150).length : Int)), (103, .int .i64 s158)] rfl ⟨rfl, rfl, rfl, rfl, rfl, rfl, rfl, rfl, rfl, rfl, rfl, rfl, rfl, trivial⟩ ?_
                              refine WO_end ?_
                              refine WK_seq ?_
                              refine WK_region ?_
                              refine WO_pure tbok 1 [(3, .pointer (some ⟨b2, 0, none⟩)), (4, .pointer (some ⟨b3, 0, none⟩)), (6, .bool false), (7, .slice a15 ((y12).length) c16), (12, .int .i64 s121), (14, .int .i64 s158), (88, .slice a15 ((y12).length) c16), (89, .int .i64 ((y12).length : Int)), (90, .int .i64 s121), (101, .slice a153 ((v150).length) c154), (102, .int .i64 ((v150).length : Int)), (103, .int .i64 s158), (108, .int .i64 v169)] rfl ⟨rfl, rfl, rfl, rfl, rfl, rfl, rfl, rfl, rfl, rfl, rfl, rfl, rfl, trivial⟩ ?_
                              refine WO_loadB tbok 0 rfl rfl rfl rfl (fun _ h => h) rfl rfl ?_
                              refine WO_pure tbok 2 [(3, .pointer (some ⟨b2, 0, none⟩)), (4, .pointer (some ⟨b3, 0, none⟩)), (6, .bool false), (7, .slice a15 ((y12).length) c16), (12, .int .i64 s121), (88, .slice a15 ((y12).length) c16), (89, .int .i64 ((y12).length : Int)), (90, .int .i64 s121), (101, .slice a153 ((v150).length) c154), (102, .int .i64 ((v150).length : Int)), (103, .int .i64 s158), (108, .int .i64 v169), (109, .agg #[.int .i64 p0_0, .int .i64 p0_1, .int .i64 p0_2, .slice a_p0_3 p0_3.length c_p0_3]), (110, .int .i64 s158), (111, .int .i64 s121)] rfl ⟨rfl, rfl, rfl, rfl, rfl, rfl, rfl, rfl, rfl, rfl, rfl, rfl, rfl, rfl, rfl, trivial⟩ ?_
                              obtain ⟨y172, hc173, hm162⟩ := bind_some hm162
                              refine WO_call0 (.int .i64 y172) rfl rfl trivial rfl rfl rfl rfl St_closed ⟨35, #[], #[], rfl, callable_35, fun w hw => ⟨_, hw.sat, fiducialref13_Sum_walk (h_p0_3.mono (mono_FE _) hle21) hc173⟩⟩ ?_
                              refine WO_pure tbok 1 [(3, .pointer (some ⟨b2, 0, none⟩)), (4, .pointer (some ⟨b3, 0, none⟩)), (6, .bool false), (7, .slice a15 ((y12).length) c16), (12, .int .i64 s121), (88, .slice a15 ((y12).length) c16), (89, .int .i64 ((y12).length : Int)), (90, .int .i64 s121), (101, .slice a153 ((v150).length) c154), (102, .int .i64 ((v150).length : Int)), (103, .int .i64 s158), (113, .bool (v169 != y172))] rfl ⟨rfl, rfl, rfl, rfl, rfl, rfl, rfl, rfl, rfl, rfl, rfl, rfl, trivial⟩ ?_
                              refine WO_end ?_
                              refine WK_cond (b := v169 != y172) rfl (fun hb174 => ?_) (fun hb174 => ?_)
                              · have hm162 := ifT hb174 hm162
                                refine WK_seq ?_
                                refine WK_region ?_
                                refine WO_pure tbok 1 [(3, .pointer (some ⟨b2, 0, none⟩)), (4, .pointer (some ⟨b3, 0, none⟩)), (6, .bool false), (7, .slice a15 ((y12).length) c16), (12, .int .i64 s121), (88, .slice a15 ((y12).length) c16), (89, .int .i64 ((y12).length : Int)), (90, .int .i64 s121), (101, .slice a153 ((v150).length) c154), (102, .int .i64 ((v150).length : Int)), (103, .int .i64 s158)] rfl ⟨rfl, rfl, rfl, rfl, rfl, rfl, rfl, rfl, rfl, rfl, rfl, trivial⟩ ?_
                                refine WO_end ?_
                                cases hm162
                                have hq := hd166 _ rfl
                                subst hq
                                have hm125 : some _ = some _ := hm125
                                cases hm125
                                have hq := hd129 _ rfl
                                subst hq
                                have hm : some _ = some _ := hm
                                cases hm
                                exact WK_ret (ret_out (L := []) (RLc_tmp rfl RLc_nil) (List.nil_sublist _) rfl)
                              · have hm162 := ifF hb174 hm162
                                refine WK_skip ?_
                                refine WK_blk ?_
                                refine WK_region ?_
                                refine WO_pure tbok 2 [(3, .pointer (some ⟨b2, 0, none⟩)), (4, .pointer (some ⟨b3, 0, none⟩)), (6, .bool false), (7, .slice a15 ((y12).length) c16), (12, .int .i64 s121), (88, .slice a15 ((y12).length) c16), (89, .int .i64 ((y12).length : Int)), (90, .int .i64 s121), (101, .slice a153 ((v150).length) c154), (102, .int .i64 ((v150).length : Int)), (103, .int .i64 (w64 (s158 + 1)))] rfl ⟨rfl, rfl, rfl, rfl, rfl, rfl, rfl, rfl, rfl, rfl, rfl, trivial⟩ ?_
                                refine WO_end ?_
                                cases hm162
                                refine WK.sub ?_ (WK.cls (fun _ h => h) (hn165 _ () rfl trivial))
                                exact ⟨rfl, rfl, rfl, rfl, rfl, rfl, rfl, rfl, rfl, rfl, rfl, trivial⟩
                            · have hm162 := ifF hb168 hm162
                              refine WK_exit rfl ?_
                              cases hm162
                              refine WK.sub ?_ (WK.cls (fun _ h => h) (hk161 ((), ()) (hd166 _ rfl)))
                              exact ⟨rfl, rfl, rfl, rfl, rfl, rfl, rfl, trivial⟩
                      · have hm125 := ifF hb149 hm125
                        refine WK_exit rfl ?_
                        cases hm125
                        refine WK.sub ?_ (WK.cls (fun _ h => h) (hk124 ((), ()) (hd129 _ rfl)))
                        exact ⟨rfl, rfl, rfl, rfl, trivial⟩
                · refine WK_region ?_
                  refine WO_pure tbok 3 [(3, .pointer (some ⟨b2, 0, none⟩)), (4, .pointer (some ⟨b3, 0, none⟩)), (6, .bool false), (7, .slice a15 ((y12).length) c16), (80, .bool (y13 != 0))] rfl ⟨rfl, rfl, rfl, rfl, rfl, trivial⟩ ?_
                  refine WO_split (d := 80) (b := y13 != 0) rfl (fun hb175 => ?_) (fun hb175 => ?_)
                  · have hx118 := ifT hb175 hx118
                    refine WO_pure tbok 7 [(3, .pointer (some ⟨b2, 0, none⟩)), (4, .pointer (some ⟨b3, 0, none⟩)), (6, .bool false), (7, .slice a15 ((y12).length) c16), (87, .bool true)] rfl ⟨rfl, rfl, rfl, rfl, rfl, trivial⟩ ?_
                    refine WO_end ?_
                    cases hx118
                    refine WK.sub ?_ (WK.cls (fun _ h => h) hk119)
                    exact ⟨rfl, rfl, rfl, rfl, rfl, trivial⟩
                  · have hx118 := ifF hb175 hx118
                    refine WO_pure tbok 3 [(3, .pointer (some ⟨b2, 0, none⟩)), (4, .pointer (some ⟨b3, 0, none⟩)), (6, .bool false), (7, .slice a15 ((y12).length) c16), (80, .bool false), (82, .int .i64 ((y12).length : Int)), (83, .pointer (some ⟨b2, 1, none⟩))] rfl ⟨rfl, rfl, rfl, rfl, rfl, rfl, rfl, trivial⟩ ?_
                    refine WO_loadB tbok 0 rfl rfl rfl rfl (fun _ h => h) rfl rfl ?_
                    refine WO_pure tbok 3 [(3, .pointer (some ⟨b2, 0, none⟩)), (4, .pointer (some ⟨b3, 0, none⟩)), (6, .bool false), (7, .slice a15 ((y12).length) c16), (87, .bool (((y12).length : Int) != (w64 (p0_1 + 1))))] rfl ⟨rfl, rfl, rfl, rfl, rfl, trivial⟩ ?_
                    refine WO_end ?_
                    cases hx118
                    refine WK.sub ?_ (WK.cls (fun _ h => h) hk119)
                    exact ⟨rfl, rfl, rfl, rfl, rfl, trivial⟩
            · refine WK_draw 10 [0, 1, 2, 3, 4, 5, 6, 7, 8, 9] follows_ok (by kernel_rfl) St_closed ?_
              refine WO_pure tbok 3 [(2, .int .i64 p2), (3, .pointer (some ⟨b2, 0, none⟩)), (4, .pointer (some ⟨b3, 0, none⟩)), (6, .bool false), (7, .slice a15 ((y12).length) c16), (8, .int .i64 y13), (9, .pointer (some ⟨b34, 0, none⟩)), (70, .bool (y27 != 0))] rfl ⟨rfl, rfl, rfl, rfl, rfl, rfl, rfl, rfl, trivial⟩ ?_
              refine WO_split (d := 70) (b := y27 != 0) rfl (fun hb176 => ?_) (fun hb176 => ?_)
              · have hx114 := ifT hb176 hx114
                refine WO_pure tbok 3 [(3, .pointer (some ⟨b2, 0, none⟩)), (4, .pointer (some ⟨b3, 0, none⟩)), (6, .bool false), (7, .slice a15 ((y12).length) c16), (8, .int .i64 y13), (70, .bool true)] rfl ⟨rfl, rfl, rfl, rfl, rfl, rfl, trivial⟩ ?_
                refine WO_skip rfl rfl ?_
                refine WO_skip rfl rfl ?_
                refine WO_pure tbok 2 [(3, .pointer (some ⟨b2, 0, none⟩)), (4, .pointer (some ⟨b3, 0, none⟩)), (6, .bool false), (7, .slice a15 ((y12).length) c16), (8, .int .i64 y13), (77, .bool true)] rfl ⟨rfl, rfl, rfl, rfl, rfl, rfl, trivial⟩ ?_
                refine WO_tail ?_
                refine WO_end ?_
                cases hx114
                refine WK.sub ?_ (WK.cls (fun _ h => h) hk115)
                exact ⟨rfl, rfl, rfl, rfl, rfl, rfl, trivial⟩
              · have hx114 := ifF hb176 hx114
                refine WO_loadB tbok 5 rfl rfl rfl rfl (fun _ h => h) rfl rfl ?_
                refine WO_loadB tbok 0 rfl rfl rfl rfl (fun _ h => h) rfl rfl ?_
                refine WO_pure tbok 1 [(3, .pointer (some ⟨b2, 0, none⟩)), (4, .pointer (some ⟨b3, 0, none⟩)), (6, .bool false), (7, .slice a15 ((y12).length) c16), (8, .int .i64 y13), (70, .bool false), (71, .agg #[.int .i64 y23, .int .i64 y24, .int .i64 y25, .slice a29 ((y26).length) c30]), (72, .agg #[.int .i64 p0_0, .int .i64 p0_1, .int .i64 p0_2, .slice a_p0_3 p0_3.length c_p0_3]), (73, .int .i64 p2)] rfl ⟨rfl, rfl, rfl, rfl, rfl, rfl, rfl, rfl, rfl, trivial⟩ ?_
                obtain ⟨⟨y177, y178, y179, y180⟩, hc181, hx114⟩ := bind_some hx114
                refine WO_call1 (fiducialref13_Rescale_Q (y177, y178, y179, y180)) rfl rfl St_closed rfl rfl rfl rfl ⟨34, #[], #[], rfl, callable_34, fun w hw => ⟨_, hw.sat, fiducialref13_Rescale_walk (h_p0_3.mono (mono_FE _) hle21) hc181⟩⟩ (fun v186 L185 hq => ?_)
                obtain ⟨a182, qa182, c183, rfl, hL185⟩ := hq
                obtain rfl := OwnE.qlen hL185
                refine WO.cls (C' := St w0 m m20 [[⟨b2, 24, [.int .i64 p0_0, .int .i64 p0_1, .int .i64 p0_2, .slice a_p0_3 p0_3.length c_p0_3]⟩], [⟨b3, 48, [.int .i64 p1_0, .int .i64 p1_1, .int .i64 p1_2, .int .i64 p1_3]⟩], [⟨b7, 24, [.int .i64 p0_0, .int .i64 p0_1, .int .i64 p0_2, .slice a_p0_3 p0_3.length c_p0_3]⟩], L18, L32, [⟨b34, 24, [.int .i64 y23, .int .i64 y24, .int .i64 y25, .slice a29 ((y26).length) c30]⟩], L185]) (fun _ h => h) ?_
                obtain ⟨y187, hc188, hx114⟩ := bind_some hx114
                refine WO_call0 (.bool y187) rfl rfl St_closed rfl rfl rfl rfl St_closed ⟨17, #[], #[], rfl, callable_17, fun w hw => ⟨_, hw.satV, fiducialref13_Equal_walk (OwnE.rd (E := (I1 .i64)) (k := 1) (fun _ => rfl) hL32 (fun _ hx => hw.memV (i := 4) rfl hx)) (OwnE.rd (E := (I1 .i64)) (k := 1) (fun _ => rfl) hL185 (fun _ hx => hw.memV (i := 6) rfl hx)) hc188⟩⟩ ?_
                refine WO_pure tbok 2 [(3, .pointer (some ⟨b2, 0, none⟩)), (4, .pointer (some ⟨b3, 0, none⟩)), (6, .bool false), (7, .slice a15 ((y12).length) c16), (8, .int .i64 y13), (77, .bool (!y187))] rfl ⟨rfl, rfl, rfl, rfl, rfl, rfl, trivial⟩ ?_
                refine WO_tail ?_
                refine WO_end ?_
                cases hx114
                refine WK.sub ?_ (WK.cls (fun _ h => St.take 6 h) hk115)
                exact ⟨rfl, rfl, rfl, rfl, rfl, rfl, trivial⟩
        · refine WK_region ?_
          refine WO_pure tbok 3 [(2, .int .i64 p2), (3, .pointer (some ⟨b2, 0, none⟩)), (4, .pointer (some ⟨b3, 0, none⟩)), (6, .bool false), (7, .slice a15 ((y12).length) c16), (8, .int .i64 y13), (9, .pointer (some ⟨b34, 0, none⟩)), (10, .int .i64 y27), (57, .bool (decide (p2 < 1)))] rfl ⟨rfl, rfl, rfl, rfl, rfl, rfl, rfl, rfl, rfl, trivial⟩ ?_
          refine WO_split (d := 57) (b := decide (p2 < 1)) rfl (fun hb189 => ?_) (fun hb189 => ?_)
          · have hx44 := ifT hb189 hx44
            refine WO_pure tbok 3 [(2, .int .i64 p2), (3, .pointer (some ⟨b2, 0, none⟩)), (4, .pointer (some ⟨b3, 0, none⟩)), (6, .bool false), (7, .slice a15 ((y12).length) c16), (8, .int .i64 y13), (9, .pointer (some ⟨b34, 0, none⟩)), (10, .int .i64 y27), (60, .bool true)] rfl ⟨rfl, rfl, rfl, rfl, rfl, rfl, rfl, rfl, rfl, trivial⟩ ?_
            refine WO_end ?_
            cases hx44
            refine WK.sub ?_ (WK.cls (fun _ h => h) hk45)
            exact ⟨rfl, rfl, rfl, rfl, rfl, rfl, rfl, rfl, rfl, trivial⟩
          · have hx44 := ifF hb189 hx44
            refine WO_pure tbok 3 [(2, .int .i64 p2), (3, .pointer (some ⟨b2, 0, none⟩)), (4, .pointer (some ⟨b3, 0, none⟩)), (6, .bool false), (7, .slice a15 ((y12).length) c16), (8, .int .i64 y13), (9, .pointer (some ⟨b34, 0, none⟩)), (10, .int .i64 y27), (60, .bool (decide (65535 < p2)))] rfl ⟨rfl, rfl, rfl, rfl, rfl, rfl, rfl, rfl, rfl, trivial⟩ ?_
            refine WO_end ?_
            cases hx44
            refine WK.sub ?_ (WK.cls (fun _ h => h) hk45)
            exact ⟨rfl, rfl, rfl, rfl, rfl, rfl, rfl, rfl, rfl, trivial⟩
theorem raster_has_walk {m : Mu} {p0_0 : Int} {p0_1 : Int} {p0_2 : Int} {p0_3 : List Int} {p1 : Int} {p2 : Int} {a_p0_3 : Option Addr} {q_p0_3 c_p0_3 : Nat} (h_p0_3 : SlR (FE (I1 .i64)) 1 m (.slice a_p0_3 q_p0_3 c_p0_3) p0_3) {r : Bool} (hm : raster_has p0_0 p0_1 p0_2 p0_3 p1 p2 = some r) :
    Go.E.Spec Try.prog 62 [.agg #[.int .i64 p0_0, .int .i64 p0_1, .int .i64 p0_2, .slice a_p0_3 q_p0_3 c_p0_3], .int .i64 p1, .int .i64 p2] m (fun v _ _ => v = .bool r) := by
  refine Spec_enter Try.func62 rfl rfl rfl (fun w0 => ?_)
  refine WK.sub (e' := [(0, .agg #[.int .i64 p0_0, .int .i64 p0_1, .int .i64 p0_2, .slice a_p0_3 q_p0_3 c_p0_3]), (1, .int .i64 p1), (2, .int .i64 p2)]) ⟨rfl, rfl, rfl, trivial⟩ ?_
  obtain rfl := SlR.qlen h_p0_3
  refine WK.sub (e' := [(0, .agg #[.int .i64 p0_0, .int .i64 p0_1, .int .i64 p0_2, .slice a_p0_3 p0_3.length c_p0_3]), (1, .int .i64 p1), (2, .int .i64 p2)]) ⟨rfl, rfl, rfl, trivial⟩ ?_
  unfold raster_has at hm
  refine WK_seq ?_
  refine WK_region ?_
  refine WO_box [.int .i64 p0_0, .int .i64 p0_1, .int .i64 p0_2, .slice a_p0_3 p0_3.length c_p0_3] rfl rfl trivial rfl rfl rfl (fun b2 => ?_)
  refine WO.cls (C' := St w0 m m [[⟨b2, 24, [.int .i64 p0_0, .int .i64 p0_1, .int .i64 p0_2, .slice a_p0_3 p0_3.length c_p0_3]⟩]]) (fun _ h => h) ?_
  refine WO_pure tbok 1 [(1, .int .i64 p1), (2, .int .i64 p2), (3, .pointer (some ⟨b2, 0, none⟩)), (6, .bool false)] rfl ⟨rfl, rfl, rfl, rfl, trivial⟩ ?_
  refine WO_end ?_
  refine WK_seq ?_
  refine WK_region ?_
  refine WO_pure tbok 3 [(1, .int .i64 p1), (2, .int .i64 p2), (3, .pointer (some ⟨b2, 0, none⟩)), (6, .bool false), (9, .bool (decide (0 ≤ p1)))] rfl ⟨rfl, rfl, rfl, rfl, rfl, trivial⟩ ?_
  refine WO_split (d := 9) (b := decide (0 ≤ p1)) rfl (fun hb3 => ?_) (fun hb3 => ?_)
  · have hm := ifT hb3 hm
    refine WO_pure tbok 2 [(2, .int .i64 p2), (3, .pointer (some ⟨b2, 0, none⟩)), (6, .bool false), (9, .bool true), (10, .int .i64 p1), (11, .pointer (some ⟨b2, 0, none⟩))] rfl ⟨rfl, rfl, rfl, rfl, rfl, rfl, trivial⟩ ?_
    refine WO_loadB tbok 0 rfl rfl rfl rfl (fun _ h => h) rfl rfl ?_
    refine WO_pure tbok 3 [(2, .int .i64 p2), (3, .pointer (some ⟨b2, 0, none⟩)), (6, .bool false), (15, .bool (decide (p1 < p0_0)))] rfl ⟨rfl, rfl, rfl, rfl, trivial⟩ ?_
    refine WO_split (d := 15) (b := decide (p1 < p0_0)) rfl (fun hb4 => ?_) (fun hb4 => ?_)
    · have hm := ifT hb4 hm
      refine WO_pure tbok 4 [(2, .int .i64 p2), (3, .pointer (some ⟨b2, 0, none⟩)), (6, .bool false), (19, .bool (decide (0 ≤ p2)))] rfl ⟨rfl, rfl, rfl, rfl, trivial⟩ ?_
      refine WO_split (d := 19) (b := decide (0 ≤ p2)) rfl (fun hb5 => ?_) (fun hb5 => ?_)
      · have hm := ifT hb5 hm
        refine WO_pure tbok 2 [(6, .bool false), (19, .bool true), (20, .int .i64 p2), (21, .pointer (some ⟨b2, 1, none⟩))] rfl ⟨rfl, rfl, rfl, rfl, trivial⟩ ?_
        refine WO_loadB tbok 0 rfl rfl rfl rfl (fun _ h => h) rfl rfl ?_
        refine WO_pure tbok 3 [(6, .bool (decide (p2 < p0_1)))] rfl ⟨rfl, trivial⟩ ?_
        refine WO_end ?_
        cases hm
        exact WK_ret (ret_out (L := []) (RLc_tmp rfl RLc_nil) (List.nil_sublist _) rfl)
      · have hm := ifF hb5 hm
        refine WO_pure tbok 6 [(6, .bool false)] rfl ⟨rfl, trivial⟩ ?_
        refine WO_end ?_
        cases hm
        exact WK_ret (ret_out (L := []) (RLc_tmp rfl RLc_nil) (List.nil_sublist _) rfl)
    · have hm := ifF hb4 hm
      refine WO_pure tbok 10 [(6, .bool false)] rfl ⟨rfl, trivial⟩ ?_
      refine WO_end ?_
      cases hm
      exact WK_ret (ret_out (L := []) (RLc_tmp rfl RLc_nil) (List.nil_sublist _) rfl)
  · have hm := ifF hb3 hm
    refine WO_pure tbok 16 [(6, .bool false)] rfl ⟨rfl, trivial⟩ ?_
    refine WO_end ?_
    cases hm
    exact WK_ret (ret_out (L := []) (RLc_tmp rfl RLc_nil) (List.nil_sublist _) rfl)
theorem raster_Paste_c1_walk {m : Mu} {p0 : Int} {p1 : Int} {q0_0 : Int} {q0_1 : Int} {q0_2 : Int} {q0_3 : List Int} {q1_0 : Int} {q2_0 : Int} {q3_0 : Int} {q3_1 : Int} {q3_2 : Int} {q3_3 : List Int} {a_q0_3 : Option Addr} {q_q0_3 c_q0_3 : Nat} {b_q0 : Nat} {b_q1 : Nat} {b_q2 : Nat} {a_q3_3 : Option Addr} {q_q3_3 c_q3_3 : Nat} {b_q3 : Nat} (hb_q0 : m b_q0 = some (Ent.obj ⟨b_q0, 24, [.int .i64 q0_0, .int .i64 q0_1, .int .i64 q0_2, .slice a_q0_3 q_q0_3 c_q0_3]⟩)) (h_q0_3 : SlR (FE (I1 .i64)) 1 m (.slice a_q0_3 q_q0_3 c_q0_3) q0_3) (hb_q1 : m b_q1 = some (Ent.obj ⟨b_q1, 3, [.int .i64 q1_0]⟩)) (hb_q2 : m b_q2 = some (Ent.obj ⟨b_q2, 3, [.int .i64 q2_0]⟩)) (hb_q3 : m b_q3 = some (Ent.obj ⟨b_q3, 24, [.int .i64 q3_0, .int .i64 q3_1, .int .i64 q3_2, .slice a_q3_3 q_q3_3 c_q3_3]⟩)) (h_q3_3 : SlR (FE (I1 .i64)) 1 m (.slice a_q3_3 q_q3_3 c_q3_3) q3_3) {r : Int} (hm : raster_Paste_c1 p0 p1 q0_0 q0_1 q0_2 q0_3 q1_0 q2_0 q3_0 q3_1 q3_2 q3_3 = some r) :
    Go.E.Spec Try.prog 61 [.int .i64 p0, .int .i64 p1, .pointer (some ⟨b_q0, 0, none⟩), .pointer (some ⟨b_q1, 0, none⟩), .pointer (some ⟨b_q2, 0, none⟩), .pointer (some ⟨b_q3, 0, none⟩)] m (fun v _ _ => v = .int .i64 r) := by
  refine Spec_enter Try.func61 rfl rfl rfl (fun w0 => ?_)
  refine WK.sub (e' := [(0, .int .i64 p0), (1, .int .i64 p1), (2, .pointer (some ⟨b_q0, 0, none⟩)), (3, .pointer (some ⟨b_q1, 0, none⟩)), (4, .pointer (some ⟨b_q2, 0, none⟩)), (5, .pointer (some ⟨b_q3, 0, none⟩))]) ⟨rfl, rfl, rfl, rfl, rfl, rfl, trivial⟩ ?_
  obtain rfl := SlR.qlen h_q0_3
  obtain rfl := SlR.qlen h_q3_3
  refine WK.sub (e' := [(0, .int .i64 p0), (1, .int .i64 p1), (2, .pointer (some ⟨b_q0, 0, none⟩)), (3, .pointer (some ⟨b_q1, 0, none⟩)), (4, .pointer (some ⟨b_q2, 0, none⟩)), (5, .pointer (some ⟨b_q3, 0, none⟩))]) ⟨rfl, rfl, rfl, rfl, rfl, rfl, trivial⟩ ?_
  unfold raster_Paste_c1 at hm
  refine WK_seq ?_
  refine WK_region ?_
  refine WO_pure tbok 1 [(0, .int .i64 p0), (1, .int .i64 p1), (2, .pointer (some ⟨b_q0, 0, none⟩)), (3, .pointer (some ⟨b_q1, 0, none⟩)), (4, .pointer (some ⟨b_q2, 0, none⟩)), (5, .pointer (some ⟨b_q3, 0, none⟩)), (8, .int .i64 0)] rfl ⟨rfl, rfl, rfl, rfl, rfl, rfl, rfl, trivial⟩ ?_
  refine WO_end ?_
  refine WK_seq ?_
  refine WK_seq ?_
  refine WK_region ?_
  refine WO_loadM tbok rfl rfl rfl rfl (fun _ h => St.sat h) hb_q0 rfl ?_
  refine WO_pure tbok 1 [(0, .int .i64 p0), (1, .int .i64 p1), (2, .pointer (some ⟨b_q0, 0, none⟩)), (3, .pointer (some ⟨b_q1, 0, none⟩)), (4, .pointer (some ⟨b_q2, 0, none⟩)), (5, .pointer (some ⟨b_q3, 0, none⟩)), (8, .int .i64 0), (9, .agg #[.int .i64 q0_0, .int .i64 q0_1, .int .i64 q0_2, .slice a_q0_3 q0_3.length c_q0_3]), (10, .int .i64 p0)] rfl ⟨rfl, rfl, rfl, rfl, rfl, rfl, rfl, rfl, rfl, trivial⟩ ?_
  refine WO_loadM tbok rfl rfl rfl rfl (fun _ h => St.sat h) hb_q1 rfl ?_
  refine WO_pure tbok 2 [(0, .int .i64 p0), (1, .int .i64 p1), (2, .pointer (some ⟨b_q0, 0, none⟩)), (3, .pointer (some ⟨b_q1, 0, none⟩)), (4, .pointer (some ⟨b_q2, 0, none⟩)), (5, .pointer (some ⟨b_q3, 0, none⟩)), (8, .int .i64 0), (9, .agg #[.int .i64 q0_0, .int .i64 q0_1, .int .i64 q0_2, .slice a_q0_3 q0_3.length c_q0_3]), (12, .int .i64 (w64 (p0 - q1_0))), (13, .int .i64 p1)] rfl ⟨rfl, rfl, rfl, rfl, rfl, rfl, rfl, rfl, rfl, rfl, trivial⟩ ?_
  refine WO_loadM tbok rfl rfl rfl rfl (fun _ h => St.sat h) hb_q2 rfl ?_
  refine WO_pure tbok 1 [(0, .int .i64 p0), (1, .int .i64 p1), (2, .pointer (some ⟨b_q0, 0, none⟩)), (3, .pointer (some ⟨b_q1, 0, none⟩)), (4, .pointer (some ⟨b_q2, 0, none⟩)), (5, .pointer (some ⟨b_q3, 0, none⟩)), (8, .int .i64 0), (9, .agg #[.int .i64 q0_0, .int .i64 q0_1, .int .i64 q0_2, .slice a_q0_3 q0_3.length c_q0_3]), (12, .int .i64 (w64 (p0 - q1_0))), (15, .int .i64 (w64 (p1 - q2_0)))] rfl ⟨rfl, rfl, rfl, rfl, rfl, rfl, rfl, rfl, rfl, rfl, trivial⟩ ?_
  obtain ⟨y3, hc4, hm⟩ := bind_some hm
  refine WO_call0 (.bool y3) rfl rfl trivial rfl rfl rfl rfl St_closed ⟨62, #[], #[], rfl, callable_62, fun w hw => ⟨_, hw.sat, raster_has_walk h_q0_3 hc4⟩⟩ ?_
  refine WO_end ?_
  refine WK_cond (b := y3) rfl (fun hb5 => ?_) (fun hb5 => ?_)
  · have hm := ifT hb5 hm
    refine WK_seq ?_
    refine WK_region ?_
    refine WO_loadM tbok rfl rfl rfl rfl (fun _ h => St.sat h) hb_q0 rfl ?_
    refine WO_pure tbok 1 [(0, .int .i64 p0), (1, .int .i64 p1), (3, .pointer (some ⟨b_q1, 0, none⟩)), (4, .pointer (some ⟨b_q2, 0, none⟩)), (5, .pointer (some ⟨b_q3, 0, none⟩)), (8, .int .i64 0), (17, .agg #[.int .i64 q0_0, .int .i64 q0_1, .int .i64 q0_2, .slice a_q0_3 q0_3.length c_q0_3]), (18, .int .i64 p0)] rfl ⟨rfl, rfl, rfl, rfl, rfl, rfl, rfl, rfl, trivial⟩ ?_
    refine WO_loadM tbok rfl rfl rfl rfl (fun _ h => St.sat h) hb_q1 rfl ?_
    refine WO_pure tbok 2 [(0, .int .i64 p0), (1, .int .i64 p1), (4, .pointer (some ⟨b_q2, 0, none⟩)), (5, .pointer (some ⟨b_q3, 0, none⟩)), (8, .int .i64 0), (17, .agg #[.int .i64 q0_0, .int .i64 q0_1, .int .i64 q0_2, .slice a_q0_3 q0_3.length c_q0_3]), (20, .int .i64 (w64 (p0 - q1_0))), (21, .int .i64 p1)] rfl ⟨rfl, rfl, rfl, rfl, rfl, rfl, rfl, rfl, trivial⟩ ?_
    refine WO_loadM tbok rfl rfl rfl rfl (fun _ h => St.sat h) hb_q2 rfl ?_
    refine WO_pure tbok 1 [(0, .int .i64 p0), (1, .int .i64 p1), (5, .pointer (some ⟨b_q3, 0, none⟩)), (8, .int .i64 0), (17, .agg #[.int .i64 q0_0, .int .i64 q0_1, .int .i64 q0_2, .slice a_q0_3 q0_3.length c_q0_3]), (20, .int .i64 (w64 (p0 - q1_0))), (23, .int .i64 (w64 (p1 - q2_0)))] rfl ⟨rfl, rfl, rfl, rfl, rfl, rfl, rfl, trivial⟩ ?_
    obtain ⟨y6, hc7, hm⟩ := bind_some hm
    refine WO_call0 (.int .i64 y6) rfl rfl trivial rfl rfl rfl rfl St_closed ⟨50, #[], #[], rfl, callable_50, fun w hw => ⟨_, hw.sat, raster_at_walk h_q0_3 hc7⟩⟩ ?_
    refine WO_pure tbok 1 [(0, .int .i64 p0), (1, .int .i64 p1), (5, .pointer (some ⟨b_q3, 0, none⟩)), (8, .int .i64 y6)] rfl ⟨rfl, rfl, rfl, rfl, trivial⟩ ?_
    refine WO_end ?_
    cases hm
    exact WK_ret (ret_out (L := []) (RLc_tmp rfl RLc_nil) (List.nil_sublist _) rfl)
  · have hm := ifF hb5 hm
    refine WK_skip ?_
    refine WK_seq ?_
    refine WK_region ?_
    refine WO_loadM tbok rfl rfl rfl rfl (fun _ h => St.sat h) hb_q3 rfl ?_
    refine WO_pure tbok 2 [(8, .int .i64 0), (25, .agg #[.int .i64 q3_0, .int .i64 q3_1, .int .i64 q3_2, .slice a_q3_3 q3_3.length c_q3_3]), (26, .int .i64 p0), (27, .int .i64 p1)] rfl ⟨rfl, rfl, rfl, rfl, trivial⟩ ?_
    obtain ⟨y8, hc9, hm⟩ := bind_some hm
    refine WO_call0 (.int .i64 y8) rfl rfl trivial rfl rfl rfl rfl St_closed ⟨50, #[], #[], rfl, callable_50, fun w hw => ⟨_, hw.sat, raster_at_walk h_q3_3 hc9⟩⟩ ?_
    refine WO_pure tbok 1 [(8, .int .i64 y8)] rfl ⟨rfl, trivial⟩ ?_
    refine WO_end ?_
    cases hm
    exact WK_ret (ret_out (L := []) (RLc_tmp rfl RLc_nil) (List.nil_sublist _) rfl)
def raster_Paste_Q (r : Int × Int × Int × List Int × Int) : Value → List Ent → Prop := fun v L => ∃ (a0 : Option Addr) (q0 c0 : Nat), v = .tuple #[.agg #[.int .i64 r.1, .int .i64 r.2.1, .int .i64 r.2.2.1, .slice a0 q0 c0], .int .i64 r.2.2.2.2] ∧ OwnE 3 1 (I1 .i64) (.slice a0 q0 c0) r.2.2.2.1 L
theorem raster_Paste_walk {m : Mu} {p0_0 : Int} {p0_1 : Int} {p0_2 : Int} {p0_3 : List Int} {p1_0 : Int} {p1_1 : Int} {p1_2 : Int} {p1_3 : List Int} {p2 : Int} {p3 : Int} {a_p0_3 : Option Addr} {q_p0_3 c_p0_3 : Nat} {a_p1_3 : Option Addr} {q_p1_3 c_p1_3 : Nat} (h_p0_3 : SlR (FE (I1 .i64)) 1 m (.slice a_p0_3 q_p0_3 c_p0_3) p0_3) (h_p1_3 : SlR (FE (I1 .i64)) 1 m (.slice a_p1_3 q_p1_3 c_p1_3) p1_3) {r : Int × Int × Int × List Int × Int} (hm : raster_Paste p0_0 p0_1 p0_2 p0_3 p1_0 p1_1 p1_2 p1_3 p2 p3 = some r) :
    Go.E.Spec Try.prog 37 [.agg #[.int .i64 p0_0, .int .i64 p0_1, .int .i64 p0_2, .slice a_p0_3 q_p0_3 c_p0_3], .agg #[.int .i64 p1_0, .int .i64 p1_1, .int .i64 p1_2, .slice a_p1_3 q_p1_3 c_p1_3], .int .i64 p2, .int .i64 p3] m (fun v _ L => raster_Paste_Q r v L) := by
  refine Spec_enter Try.func37 rfl rfl rfl (fun w0 => ?_)
  refine WK.sub (e' := [(0, .agg #[.int .i64 p0_0, .int .i64 p0_1, .int .i64 p0_2, .slice a_p0_3 q_p0_3 c_p0_3]), (1, .agg #[.int .i64 p1_0, .int .i64 p1_1, .int .i64 p1_2, .slice a_p1_3 q_p1_3 c_p1_3]), (2, .int .i64 p2), (3, .int .i64 p3)]) ⟨rfl, rfl, rfl, rfl, trivial⟩ ?_
  obtain rfl := SlR.qlen h_p0_3
  obtain rfl := SlR.qlen h_p1_3
  refine WK.sub (e' := [(0, .agg #[.int .i64 p0_0, .int .i64 p0_1, .int .i64 p0_2, .slice a_p0_3 p0_3.length c_p0_3]), (1, .agg #[.int .i64 p1_0, .int .i64 p1_1, .int .i64 p1_2, .slice a_p1_3 p1_3.length c_p1_3]), (2, .int .i64 p2), (3, .int .i64 p3)]) ⟨rfl, rfl, rfl, rfl, trivial⟩ ?_
  unfold raster_Paste at hm
  refine WK_seq ?_
  refine WK_region ?_
  refine WO_box [.int .i64 p0_0, .int .i64 p0_1, .int .i64 p0_2, .slice a_p0_3 p0_3.length c_p0_3] rfl rfl trivial rfl rfl rfl (fun b3 => ?_)
  refine WO.cls (C' := St w0 m m [[⟨b3, 24, [.int .i64 p0_0, .int .i64 p0_1, .int .i64 p0_2, .slice a_p0_3 p0_3.length c_p0_3]⟩]]) (fun _ h => h) ?_
  refine WO_box [.int .i64 p1_0, .int .i64 p1_1, .int .i64 p1_2, .slice a_p1_3 p1_3.length c_p1_3] rfl rfl trivial rfl rfl rfl (fun b4 => ?_)
  refine WO.cls (C' := St w0 m m [[⟨b3, 24, [.int .i64 p0_0, .int .i64 p0_1, .int .i64 p0_2, .slice a_p0_3 p0_3.length c_p0_3]⟩], [⟨b4, 24, [.int .i64 p1_0, .int .i64 p1_1, .int .i64 p1_2, .slice a_p1_3 p1_3.length c_p1_3]⟩]]) (fun _ h => h) ?_
  refine WO_box [.int .i64 p2] rfl rfl trivial rfl rfl rfl (fun b5 => ?_)
  refine WO.cls (C' := St w0 m m [[⟨b3, 24, [.int .i64 p0_0, .int .i64 p0_1, .int .i64 p0_2, .slice a_p0_3 p0_3.length c_p0_3]⟩], [⟨b4, 24, [.int .i64 p1_0, .int .i64 p1_1, .int .i64 p1_2, .slice a_p1_3 p1_3.length c_p1_3]⟩], [⟨b5, 3, [.int .i64 p2]⟩]]) (fun _ h => h) ?_
  refine WO_box [.int .i64 p3] rfl rfl trivial rfl rfl rfl (fun b6 => ?_)
  refine WO.cls (C' := St w0 m m [[⟨b3, 24, [.int .i64 p0_0, .int .i64 p0_1, .int .i64 p0_2, .slice a_p0_3 p0_3.length c_p0_3]⟩], [⟨b4, 24, [.int .i64 p1_0, .int .i64 p1_1, .int .i64 p1_2, .slice a_p1_3 p1_3.length c_p1_3]⟩], [⟨b5, 3, [.int .i64 p2]⟩], [⟨b6, 3, [.int .i64 p3]⟩]]) (fun _ h => h) ?_
  refine WO_alloc tbok [.int .i64 0, .int .i64 0, .int .i64 0, .slice none 0 0] rfl rfl trivial rfl rfl rfl rfl (fun b7 => ?_)
  refine WO.cls (C' := St w0 m m [[⟨b3, 24, [.int .i64 p0_0, .int .i64 p0_1, .int .i64 p0_2, .slice a_p0_3 p0_3.length c_p0_3]⟩], [⟨b4, 24, [.int .i64 p1_0, .int .i64 p1_1, .int .i64 p1_2, .slice a_p1_3 p1_3.length c_p1_3]⟩], [⟨b5, 3, [.int .i64 p2]⟩], [⟨b6, 3, [.int .i64 p3]⟩], [⟨b7, 24, [.int .i64 0, .int .i64 0, .int .i64 0, .slice none 0 0]⟩]]) (fun _ h => h) ?_
  refine WO_pure tbok 1 [(4, .pointer (some ⟨b3, 0, none⟩)), (5, .pointer (some ⟨b4, 0, none⟩)), (6, .pointer (some ⟨b5, 0, none⟩)), (7, .pointer (some ⟨b6, 0, none⟩)), (8, .pointer (some ⟨b7, 0, none⟩)), (9, .int .i64 0)] rfl ⟨rfl, rfl, rfl, rfl, rfl, rfl, trivial⟩ ?_
  refine WO_end ?_
  refine WK_seq ?_
  refine WK_seq ?_
  refine WK_region ?_
  refine WO_loadB tbok 0 rfl rfl rfl rfl (fun _ h => h) rfl rfl ?_
  refine WO_loadB tbok 1 rfl rfl rfl rfl (fun _ h => h) rfl rfl ?_
  refine WO_bsliceX (E := V4) (El := El24) tbok (fun _ => rfl) (by decide) [.agg #[.int .i64 p0_0, .int .i64 p0_1, .int .i64 p0_2, .slice a_p0_3 p0_3.length c_p0_3], .agg #[.int .i64 p1_0, .int .i64 p1_1, .int .i64 p1_2, .slice a_p1_3 p1_3.length c_p1_3]] [(.int .i64 p0_0, .int .i64 p0_1, .int .i64 p0_2, .slice a_p0_3 p0_3.length c_p0_3), (.int .i64 p1_0, .int .i64 p1_1, .int .i64 p1_2, .slice a_p1_3 p1_3.length c_p1_3)] ([(p0_0, p0_1, p0_2, p0_3), (p1_0, p1_1, p1_2, p1_3)] : List (Int × Int × Int × List Int)) rfl rfl trivial rfl rfl rfl rfl rfl rfl rfl rfl rfl rfl rfl rfl ⟨⟨_, _, _, rfl, h_p0_3⟩, ⟨_, _, _, rfl, h_p1_3⟩, trivial⟩ (fun b8 hb8 => ?_)
  refine WO.cls (C' := St w0 m m [[⟨b3, 24, [.int .i64 p0_0, .int .i64 p0_1, .int .i64 p0_2, .slice a_p0_3 p0_3.length c_p0_3]⟩], [⟨b4, 24, [.int .i64 p1_0, .int .i64 p1_1, .int .i64 p1_2, .slice a_p1_3 p1_3.length c_p1_3]⟩], [⟨b5, 3, [.int .i64 p2]⟩], [⟨b6, 3, [.int .i64 p3]⟩], [⟨b7, 24, [.int .i64 0, .int .i64 0, .int .i64 0, .slice none 0 0]⟩], [⟨b8, 24, [.int .i64 p0_0, .int .i64 p0_1, .int .i64 p0_2, .slice a_p0_3 p0_3.length c_p0_3, .int .i64 p1_0, .int .i64 p1_1, .int .i64 p1_2, .slice a_p1_3 p1_3.length c_p1_3]⟩]]) (fun _ h => h) ?_
  refine WO_pure tbok 2 [(4, .pointer (some ⟨b3, 0, none⟩)), (5, .pointer (some ⟨b4, 0, none⟩)), (6, .pointer (some ⟨b5, 0, none⟩)), (7, .pointer (some ⟨b6, 0, none⟩)), (8, .pointer (some ⟨b7, 0, none⟩)), (9, .int .i64 0), (15, .slice (some ⟨b8, 0, none⟩) 2 2), (16, .int .i64 2), (17, .int .i64 0)] rfl ⟨rfl, rfl, rfl, rfl, rfl, rfl, rfl, rfl, rfl, trivial⟩ ?_
  refine WO_end ?_
  obtain ⟨x11, hx12, hm⟩ := bind_some hm
  refine WK_join (β := Unit × Unit) (fun p => Sum.inr p.1 = x11) (fun p => [(4, .pointer (some ⟨b3, 0, none⟩)), (5, .pointer (some ⟨b4, 0, none⟩)), (6, .pointer (some ⟨b5, 0, none⟩)), (7, .pointer (some ⟨b6, 0, none⟩)), (8, .pointer (some ⟨b7, 0, none⟩)), (9, .int .i64 0)]) (fun p => St w0 m m [[⟨b3, 24, [.int .i64 p0_0, .int .i64 p0_1, .int .i64 p0_2, .slice a_p0_3 p0_3.length c_p0_3]⟩], [⟨b4, 24, [.int .i64 p1_0, .int .i64 p1_1, .int .i64 p1_2, .slice a_p1_3 p1_3.length c_p1_3]⟩], [⟨b5, 3, [.int .i64 p2]⟩], [⟨b6, 3, [.int .i64 p3]⟩], [⟨b7, 24, [.int .i64 0, .int .i64 0, .int .i64 0, .slice none 0 0]⟩], [⟨b8, 24, [.int .i64 p0_0, .int .i64 p0_1, .int .i64 p0_2, .slice a_p0_3 p0_3.length c_p0_3, .int .i64 p1_0, .int .i64 p1_1, .int .i64 p1_2, .slice a_p1_3 p1_3.length c_p1_3]⟩]]) ?_ (fun hk13 => ?_)
  · rintro ⟨⟨⟩, ⟨⟩⟩ hq19
    subst hq19
    refine WK.sub (e' := [(4, .pointer (some ⟨b3, 0, none⟩)), (5, .pointer (some ⟨b4, 0, none⟩)), (6, .pointer (some ⟨b5, 0, none⟩)), (7, .pointer (some ⟨b6, 0, none⟩)), (8, .pointer (some ⟨b7, 0, none⟩)), (9, .int .i64 0)]) ⟨rfl, rfl, rfl, rfl, rfl, rfl, trivial⟩ (WK.cls (C' := St w0 m m [[⟨b3, 24, [.int .i64 p0_0, .int .i64 p0_1, .int .i64 p0_2, .slice a_p0_3 p0_3.length c_p0_3]⟩], [⟨b4, 24, [.int .i64 p1_0, .int .i64 p1_1, .int .i64 p1_2, .slice a_p1_3 p1_3.length c_p1_3]⟩], [⟨b5, 3, [.int .i64 p2]⟩], [⟨b6, 3, [.int .i64 p3]⟩], [⟨b7, 24, [.int .i64 0, .int .i64 0, .int .i64 0, .slice none 0 0]⟩], [⟨b8, 24, [.int .i64 p0_0, .int .i64 p0_1, .int .i64 p0_2, .slice a_p0_3 p0_3.length c_p0_3, .int .i64 p1_0, .int .i64 p1_1, .int .i64 p1_2, .slice a_p1_3 p1_3.length c_p1_3]⟩]]) (fun _ h => h) ?_)
    refine WK_seq ?_
    refine WK_seq ?_
    refine WK_region ?_
    refine WO_pure tbok 1 [(4, .pointer (some ⟨b3, 0, none⟩)), (5, .pointer (some ⟨b4, 0, none⟩)), (6, .pointer (some ⟨b5, 0, none⟩)), (7, .pointer (some ⟨b6, 0, none⟩)), (8, .pointer (some ⟨b7, 0, none⟩)), (9, .int .i64 0), (28, .pointer (some ⟨b3, 2, none⟩))] rfl ⟨rfl, rfl, rfl, rfl, rfl, rfl, rfl, trivial⟩ ?_
    refine WO_loadB tbok 0 rfl rfl rfl rfl (fun _ h => h) rfl rfl ?_
    refine WO_pure tbok 1 [(4, .pointer (some ⟨b3, 0, none⟩)), (5, .pointer (some ⟨b4, 0, none⟩)), (6, .pointer (some ⟨b5, 0, none⟩)), (7, .pointer (some ⟨b6, 0, none⟩)), (8, .pointer (some ⟨b7, 0, none⟩)), (9, .int .i64 0), (29, .int .i64 p0_2), (30, .pointer (some ⟨b4, 2, none⟩))] rfl ⟨rfl, rfl, rfl, rfl, rfl, rfl, rfl, rfl, trivial⟩ ?_
    refine WO_loadB tbok 1 rfl rfl rfl rfl (fun _ h => h) rfl rfl ?_
    refine WO_pure tbok 1 [(4, .pointer (some ⟨b3, 0, none⟩)), (5, .pointer (some ⟨b4, 0, none⟩)), (6, .pointer (some ⟨b5, 0, none⟩)), (7, .pointer (some ⟨b6, 0, none⟩)), (8, .pointer (some ⟨b7, 0, none⟩)), (9, .int .i64 0), (32, .bool (p0_2 != p1_2))] rfl ⟨rfl, rfl, rfl, rfl, rfl, rfl, rfl, trivial⟩ ?_
    refine WO_end ?_
    refine WK_cond (b := p0_2 != p1_2) rfl (fun hb20 => ?_) (fun hb20 => ?_)
    · have hm := ifT hb20 hm
      refine WK_seq ?_
      refine WK_region ?_
      refine WO_pure tbok 1 [(4, .pointer (some ⟨b3, 0, none⟩)), (5, .pointer (some ⟨b4, 0, none⟩)), (6, .pointer (some ⟨b5, 0, none⟩)), (7, .pointer (some ⟨b6, 0, none⟩)), (8, .pointer (some ⟨b7, 0, none⟩)), (9, .int .i64 0), (33, .agg #[.int .i64 0, .int .i64 0, .int .i64 0, .slice none 0 0])] rfl ⟨rfl, rfl, rfl, rfl, rfl, rfl, rfl, trivial⟩ ?_
      refine WO_storeB tbok 4 [.int .i64 0, .int .i64 0, .int .i64 0, .slice none 0 0] rfl rfl rfl rfl rfl rfl rfl ?_
      refine WO.cls (C' := St w0 m m [[⟨b3, 24, [.int .i64 p0_0, .int .i64 p0_1, .int .i64 p0_2, .slice a_p0_3 p0_3.length c_p0_3]⟩], [⟨b4, 24, [.int .i64 p1_0, .int .i64 p1_1, .int .i64 p1_2, .slice a_p1_3 p1_3.length c_p1_3]⟩], [⟨b5, 3, [.int .i64 p2]⟩], [⟨b6, 3, [.int .i64 p3]⟩], [⟨b7, 24, [.int .i64 0, .int .i64 0, .int .i64 0, .slice none 0 0]⟩], [⟨b8, 24, [.int .i64 p0_0, .int .i64 p0_1, .int .i64 p0_2, .slice a_p0_3 p0_3.length c_p0_3, .int .i64 p1_0, .int .i64 p1_1, .int .i64 p1_2, .slice a_p1_3 p1_3.length c_p1_3]⟩]]) (fun _ h => h) ?_
      refine WO_pure tbok 1 [(4, .pointer (some ⟨b3, 0, none⟩)), (5, .pointer (some ⟨b4, 0, none⟩)), (6, .pointer (some ⟨b5, 0, none⟩)), (7, .pointer (some ⟨b6, 0, none⟩)), (8, .pointer (some ⟨b7, 0, none⟩)), (9, .int .i64 4)] rfl ⟨rfl, rfl, rfl, rfl, rfl, rfl, trivial⟩ ?_
      refine WO_end ?_
      cases hm
      exact WK_ret (ret_out (L := []) (RLc_cell tbok 4 rfl rfl rfl (RLc_tmp rfl RLc_nil)) (List.nil_sublist _) ⟨none, 0, 0, rfl, (OwnE.nil none)⟩)
    · have hm := ifF hb20 hm
      refine WK_skip ?_
      refine WK_seq ?_
      refine WK_seq ?_
      obtain ⟨s21, hx22, hm⟩ := bind_some hm
      refine WK_meet [(4, .pointer (some ⟨b3, 0, none⟩)), (5, .pointer (some ⟨b4, 0, none⟩)), (6, .pointer (some ⟨b5, 0, none⟩)), (7, .pointer (some ⟨b6, 0, none⟩)), (8, .pointer (some ⟨b7, 0, none⟩)), (9, .int .i64 0), (43, .bool s21)] (St w0 m m [[⟨b3, 24, [.int .i64 p0_0, .int .i64 p0_1, .int .i64 p0_2, .slice a_p0_3 p0_3.length c_p0_3]⟩], [⟨b4, 24, [.int .i64 p1_0, .int .i64 p1_1, .int .i64 p1_2, .slice a_p1_3 p1_3.length c_p1_3]⟩], [⟨b5, 3, [.int .i64 p2]⟩], [⟨b6, 3, [.int .i64 p3]⟩], [⟨b7, 24, [.int .i64 0, .int .i64 0, .int .i64 0, .slice none 0 0]⟩], [⟨b8, 24, [.int .i64 p0_0, .int .i64 p0_1, .int .i64 p0_2, .slice a_p0_3 p0_3.length c_p0_3, .int .i64 p1_0, .int .i64 p1_1, .int .i64 p1_2, .slice a_p1_3 p1_3.length c_p1_3]⟩]]) ?_ (fun hk23 => ?_)
      · refine WK_cond (b := s21) rfl (fun hb24 => ?_) (fun hb24 => ?_)
        · have hm := ifT hb24 hm
          refine WK_seq ?_
          refine WK_region ?_
          refine WO_pure tbok 1 [(4, .pointer (some ⟨b3, 0, none⟩)), (5, .pointer (some ⟨b4, 0, none⟩)), (6, .pointer (some ⟨b5, 0, none⟩)), (7, .pointer (some ⟨b6, 0, none⟩)), (8, .pointer (some ⟨b7, 0, none⟩)), (9, .int .i64 0), (44, .agg #[.int .i64 0, .int .i64 0, .int .i64 0, .slice none 0 0])] rfl ⟨rfl, rfl, rfl, rfl, rfl, rfl, rfl, trivial⟩ ?_
          refine WO_storeB tbok 4 [.int .i64 0, .int .i64 0, .int .i64 0, .slice none 0 0] rfl rfl rfl rfl rfl rfl rfl ?_
          refine WO.cls (C' := St w0 m m [[⟨b3, 24, [.int .i64 p0_0, .int .i64 p0_1, .int .i64 p0_2, .slice a_p0_3 p0_3.length c_p0_3]⟩], [⟨b4, 24, [.int .i64 p1_0, .int .i64 p1_1, .int .i64 p1_2, .slice a_p1_3 p1_3.length c_p1_3]⟩], [⟨b5, 3, [.int .i64 p2]⟩], [⟨b6, 3, [.int .i64 p3]⟩], [⟨b7, 24, [.int .i64 0, .int .i64 0, .int .i64 0, .slice none 0 0]⟩], [⟨b8, 24, [.int .i64 p0_0, .int .i64 p0_1, .int .i64 p0_2, .slice a_p0_3 p0_3.length c_p0_3, .int .i64 p1_0, .int .i64 p1_1, .int .i64 p1_2, .slice a_p1_3 p1_3.length c_p1_3]⟩]]) (fun _ h => h) ?_
          refine WO_pure tbok 1 [(4, .pointer (some ⟨b3, 0, none⟩)), (5, .pointer (some ⟨b4, 0, none⟩)), (6, .pointer (some ⟨b5, 0, none⟩)), (7, .pointer (some ⟨b6, 0, none⟩)), (8, .pointer (some ⟨b7, 0, none⟩)), (9, .int .i64 2)] rfl ⟨rfl, rfl, rfl, rfl, rfl, rfl, trivial⟩ ?_
          refine WO_end ?_
          cases hm
          exact WK_ret (ret_out (L := []) (RLc_cell tbok 4 rfl rfl rfl (RLc_tmp rfl RLc_nil)) (List.nil_sublist _) ⟨none, 0, 0, rfl, (OwnE.nil none)⟩)
        · have hm := ifF hb24 hm
          refine WK_skip ?_
          refine WK_seq ?_
          refine WK_region ?_
          refine WO_pure tbok 1 [(4, .pointer (some ⟨b3, 0, none⟩)), (5, .pointer (some ⟨b4, 0, none⟩)), (6, .pointer (some ⟨b5, 0, none⟩)), (7, .pointer (some ⟨b6, 0, none⟩)), (8, .pointer (some ⟨b7, 0, none⟩)), (9, .int .i64 0), (45, .pointer (some ⟨b3, 0, none⟩))] rfl ⟨rfl, rfl, rfl, rfl, rfl, rfl, rfl, trivial⟩ ?_
          refine WO_loadB tbok 0 rfl rfl rfl rfl (fun _ h => h) rfl rfl ?_
          refine WO_pure tbok 1 [(4, .pointer (some ⟨b3, 0, none⟩)), (5, .pointer (some ⟨b4, 0, none⟩)), (6, .pointer (some ⟨b5, 0, none⟩)), (7, .pointer (some ⟨b6, 0, none⟩)), (8, .pointer (some ⟨b7, 0, none⟩)), (9, .int .i64 0), (46, .int .i64 p0_0), (47, .pointer (some ⟨b3, 1, none⟩))] rfl ⟨rfl, rfl, rfl, rfl, rfl, rfl, rfl, rfl, trivial⟩ ?_
          refine WO_loadB tbok 0 rfl rfl rfl rfl (fun _ h => h) rfl rfl ?_
          refine WO_pure tbok 1 [(4, .pointer (some ⟨b3, 0, none⟩)), (5, .pointer (some ⟨b4, 0, none⟩)), (6, .pointer (some ⟨b5, 0, none⟩)), (7, .pointer (some ⟨b6, 0, none⟩)), (8, .pointer (some ⟨b7, 0, none⟩)), (9, .int .i64 0), (46, .int .i64 p0_0), (48, .int .i64 p0_1), (49, .pointer (some ⟨b3, 2, none⟩))] rfl ⟨rfl, rfl, rfl, rfl, rfl, rfl, rfl, rfl, rfl, trivial⟩ ?_
          refine WO_loadB tbok 0 rfl rfl rfl rfl (fun _ h => h) rfl rfl ?_
          refine WO_pure tbok 1 [(8, .pointer (some ⟨b7, 0, none⟩)), (9, .int .i64 0), (46, .int .i64 p0_0), (48, .int .i64 p0_1), (50, .int .i64 p0_2), (51, .func (.func 61) #[] #[.pointer (some ⟨b4, 0, none⟩), .pointer (some ⟨b5, 0, none⟩), .pointer (some ⟨b6, 0, none⟩), .pointer (some ⟨b3, 0, none⟩)])] rfl ⟨rfl, rfl, rfl, rfl, rfl, rfl, trivial⟩ ?_
          obtain ⟨⟨y27, y28, y29, y30⟩, hc31, hm⟩ := bind_some hm
          refine WO_call1 (raster_made_Q (y27, y28, y29, y30)) rfl rfl trivial rfl rfl rfl rfl ⟨48, #[], #[], rfl, callable_48, fun w hw => ⟨_, hw.satV, raster_made_walk (fun z25 z26 _ h => specV_cap callable_61 (raster_Paste_c1_walk (hw.memV (i := 1) rfl (List.mem_singleton.2 rfl)) (h_p1_3.mono (mono_FE _) hw.leV) (hw.memV (i := 2) rfl (List.mem_singleton.2 rfl)) (hw.memV (i := 3) rfl (List.mem_singleton.2 rfl)) (hw.memV (i := 0) rfl (List.mem_singleton.2 rfl)) (h_p0_3.mono (mono_FE _) hw.leV) h)) hc31⟩⟩ (fun v36 L35 hq => ?_)
          obtain ⟨a32, qa32, c33, rfl, hL35⟩ := hq
          obtain rfl := OwnE.qlen hL35
          refine WO.cls (C' := St w0 m m [[⟨b3, 24, [.int .i64 p0_0, .int .i64 p0_1, .int .i64 p0_2, .slice a_p0_3 p0_3.length c_p0_3]⟩], [⟨b4, 24, [.int .i64 p1_0, .int .i64 p1_1, .int .i64 p1_2, .slice a_p1_3 p1_3.length c_p1_3]⟩], [⟨b5, 3, [.int .i64 p2]⟩], [⟨b6, 3, [.int .i64 p3]⟩], [⟨b7, 24, [.int .i64 0, .int .i64 0, .int .i64 0, .slice none 0 0]⟩], [⟨b8, 24, [.int .i64 p0_0, .int .i64 p0_1, .int .i64 p0_2, .slice a_p0_3 p0_3.length c_p0_3, .int .i64 p1_0, .int .i64 p1_1, .int .i64 p1_2, .slice a_p1_3 p1_3.length c_p1_3]⟩], L35]) (fun _ h => h) ?_
          refine WO_storeB tbok 4 [.int .i64 y27, .int .i64 y28, .int .i64 y29, .slice a32 ((y30).length) c33] rfl rfl rfl rfl rfl rfl rfl ?_
          refine WO.cls (C' := St w0 m m [[⟨b3, 24, [.int .i64 p0_0, .int .i64 p0_1, .int .i64 p0_2, .slice a_p0_3 p0_3.length c_p0_3]⟩], [⟨b4, 24, [.int .i64 p1_0, .int .i64 p1_1, .int .i64 p1_2, .slice a_p1_3 p1_3.length c_p1_3]⟩], [⟨b5, 3, [.int .i64 p2]⟩], [⟨b6, 3, [.int .i64 p3]⟩], [⟨b7, 24, [.int .i64 y27, .int .i64 y28, .int .i64 y29, .slice a32 ((y30).length) c33]⟩], [⟨b8, 24, [.int .i64 p0_0, .int .i64 p0_1, .int .i64 p0_2, .slice a_p0_3 p0_3.length c_p0_3, .int .i64 p1_0, .int .i64 p1_1, .int .i64 p1_2, .slice a_p1_3 p1_3.length c_p1_3]⟩], L35]) (fun _ h => h) ?_
          refine WO_pure tbok 1 [(8, .pointer (some ⟨b7, 0, none⟩)), (9, .int .i64 0)] rfl ⟨rfl, rfl, trivial⟩ ?_
          refine WO_end ?_
          cases hm
          exact WK_ret (ret_out (L := L35) (RLc_cell tbok 4 rfl rfl rfl (RLc_tmp rfl RLc_nil)) (seg_sub 6 rfl) ⟨a32, ((y30).length), c33, rfl, hL35⟩)
      · refine WK_region ?_
        refine WO_loadB tbok 2 rfl rfl rfl rfl (fun _ h => h) rfl rfl ?_
        refine WO_loadB tbok 3 rfl rfl rfl rfl (fun _ h => h) rfl rfl ?_
        refine WO_pure tbok 3 [(4, .pointer (some ⟨b3, 0, none⟩)), (5, .pointer (some ⟨b4, 0, none⟩)), (6, .pointer (some ⟨b5, 0, none⟩)), (7, .pointer (some ⟨b6, 0, none⟩)), (8, .pointer (some ⟨b7, 0, none⟩)), (9, .int .i64 0), (38, .bool (decide ((if p3 < p2 then p3 else p2) < (-64))))] rfl ⟨rfl, rfl, rfl, rfl, rfl, rfl, rfl, trivial⟩ ?_
        refine WO_split (d := 38) (b := decide ((if p3 < p2 then p3 else p2) < (-64))) rfl (fun hb37 => ?_) (fun hb37 => ?_)
        · have hx22 := ifT hb37 hx22
          refine WO_pure tbok 5 [(4, .pointer (some ⟨b3, 0, none⟩)), (5, .pointer (some ⟨b4, 0, none⟩)), (6, .pointer (some ⟨b5, 0, none⟩)), (7, .pointer (some ⟨b6, 0, none⟩)), (8, .pointer (some ⟨b7, 0, none⟩)), (9, .int .i64 0), (43, .bool true)] rfl ⟨rfl, rfl, rfl, rfl, rfl, rfl, rfl, trivial⟩ ?_
          refine WO_end ?_
          cases hx22
          refine WK.sub ?_ (WK.cls (fun _ h => h) hk23)
          exact ⟨rfl, rfl, rfl, rfl, rfl, rfl, rfl, trivial⟩
        · have hx22 := ifF hb37 hx22
          refine WO_loadB tbok 2 rfl rfl rfl rfl (fun _ h => h) rfl rfl ?_
          refine WO_loadB tbok 3 rfl rfl rfl rfl (fun _ h => h) rfl rfl ?_
          refine WO_pure tbok 3 [(4, .pointer (some ⟨b3, 0, none⟩)), (5, .pointer (some ⟨b4, 0, none⟩)), (6, .pointer (some ⟨b5, 0, none⟩)), (7, .pointer (some ⟨b6, 0, none⟩)), (8, .pointer (some ⟨b7, 0, none⟩)), (9, .int .i64 0), (43, .bool (decide (64 < (if p2 < p3 then p3 else p2))))] rfl ⟨rfl, rfl, rfl, rfl, rfl, rfl, rfl, trivial⟩ ?_
          refine WO_end ?_
          cases hx22
          refine WK.sub ?_ (WK.cls (fun _ h => h) hk23)
          exact ⟨rfl, rfl, rfl, rfl, rfl, rfl, rfl, trivial⟩
  · refine WK_block ?_
    refine WK_loop (S := Int) (G := Unit) (fun s => raster_Paste_s1 p0_0 p0_1 p0_2 p0_3 p1_0 p1_1 p1_2 p1_3 s) (fun s g => [(4, .pointer (some ⟨b3, 0, none⟩)), (5, .pointer (some ⟨b4, 0, none⟩)), (6, .pointer (some ⟨b5, 0, none⟩)), (7, .pointer (some ⟨b6, 0, none⟩)), (8, .pointer (some ⟨b7, 0, none⟩)), (9, .int .i64 0), (15, .slice (some ⟨b8, 0, none⟩) 2 2), (16, .int .i64 2), (17, .int .i64 s)]) (fun s g => St w0 m m [[⟨b3, 24, [.int .i64 p0_0, .int .i64 p0_1, .int .i64 p0_2, .slice a_p0_3 p0_3.length c_p0_3]⟩], [⟨b4, 24, [.int .i64 p1_0, .int .i64 p1_1, .int .i64 p1_2, .slice a_p1_3 p1_3.length c_p1_3]⟩], [⟨b5, 3, [.int .i64 p2]⟩], [⟨b6, 3, [.int .i64 p3]⟩], [⟨b7, 24, [.int .i64 0, .int .i64 0, .int .i64 0, .slice none 0 0]⟩], [⟨b8, 24, [.int .i64 p0_0, .int .i64 p0_1, .int .i64 p0_2, .slice a_p0_3 p0_3.length c_p0_3, .int .i64 p1_0, .int .i64 p1_1, .int .i64 p1_2, .slice a_p1_3 p1_3.length c_p1_3]⟩]]) (fun s g => True) FUEL 0 () x11 hx12 trivial ⟨rfl, rfl, rfl, rfl, rfl, rfl, rfl, rfl, rfl, trivial⟩ (fun _ h => h) ?_
    rintro s10 ⟨⟩ o15 fl16 hm14 - hn17 hd18
    have hm14 : raster_Paste_s1 p0_0 p0_1 p0_2 p0_3 p1_0 p1_1 p1_2 p1_3 s10 = some o15 := hm14
    unfold raster_Paste_s1 at hm14
    refine WK.sub (e' := [(4, .pointer (some ⟨b3, 0, none⟩)), (5, .pointer (some ⟨b4, 0, none⟩)), (6, .pointer (some ⟨b5, 0, none⟩)), (7, .pointer (some ⟨b6, 0, none⟩)), (8, .pointer (some ⟨b7, 0, none⟩)), (9, .int .i64 0), (15, .slice (some ⟨b8, 0, none⟩) 2 2), (16, .int .i64 2), (17, .int .i64 s10)]) ⟨rfl, rfl, rfl, rfl, rfl, rfl, rfl, rfl, rfl, trivial⟩ (WK.cls (C' := St w0 m m [[⟨b3, 24, [.int .i64 p0_0, .int .i64 p0_1, .int .i64 p0_2, .slice a_p0_3 p0_3.length c_p0_3]⟩], [⟨b4, 24, [.int .i64 p1_0, .int .i64 p1_1, .int .i64 p1_2, .slice a_p1_3 p1_3.length c_p1_3]⟩], [⟨b5, 3, [.int .i64 p2]⟩], [⟨b6, 3, [.int .i64 p3]⟩], [⟨b7, 24, [.int .i64 0, .int .i64 0, .int .i64 0, .slice none 0 0]⟩], [⟨b8, 24, [.int .i64 p0_0, .int .i64 p0_1, .int .i64 p0_2, .slice a_p0_3 p0_3.length c_p0_3, .int .i64 p1_0, .int .i64 p1_1, .int .i64 p1_2, .slice a_p1_3 p1_3.length c_p1_3]⟩]]) (fun _ h => h) ?_)
    refine WK_seq ?_
    refine WK_region ?_
    refine WO_pure tbok 1 [(4, .pointer (some ⟨b3, 0, none⟩)), (5, .pointer (some ⟨b4, 0, none⟩)), (6, .pointer (some ⟨b5, 0, none⟩)), (7, .pointer (some ⟨b6, 0, none⟩)), (8, .pointer (some ⟨b7, 0, none⟩)), (9, .int .i64 0), (15, .slice (some ⟨b8, 0, none⟩) 2 2), (16, .int .i64 2), (17, .int .i64 s10), (18, .bool (decide (s10 < 2)))] rfl ⟨rfl, rfl, rfl, rfl, rfl, rfl, rfl, rfl, rfl, rfl, trivial⟩ ?_
    refine WO_end ?_
    refine WK_seq ?_
    refine WK_cond (b := decide (s10 < 2)) rfl (fun hb38 => ?_) (fun hb38 => ?_)
    · have hm14 := ifT hb38 hm14
      refine WK_skip ?_
      refine WK_seq ?_
      refine WK_block ?_
      refine WK_seq ?_
      refine WK_region ?_
      obtain ⟨v39, hy40, hm14⟩ := bind_some hm14
      obtain ⟨hc41, hy40⟩ := ix_some hy40
      refine WO_index tbok rfl rfl rfl rfl rfl rfl rfl rfl (OwnX.addr hb8) (by simpa using hc41) ?_
      refine WO_loadOX (E := V4) tbok (fun _ => rfl) 5 rfl rfl rfl rfl (fun _ h => h) hb8 rfl hy40 (fun cs hcs => ?_)
      obtain ⟨a42, qa42, c43, rfl, h44⟩ := hcs
      obtain rfl := SlR.qlen h44
      refine ⟨_, rfl, ?_⟩
      refine WO_alloc tbok [.int .i64 0, .int .i64 0, .int .i64 0, .slice none 0 0] rfl rfl trivial rfl rfl rfl rfl (fun b46 => ?_)
      refine WO.cls (C' := St w0 m m [[⟨b3, 24, [.int .i64 p0_0, .int .i64 p0_1, .int .i64 p0_2, .slice a_p0_3 p0_3.length c_p0_3]⟩], [⟨b4, 24, [.int .i64 p1_0, .int .i64 p1_1, .int .i64 p1_2, .slice a_p1_3 p1_3.length c_p1_3]⟩], [⟨b5, 3, [.int .i64 p2]⟩], [⟨b6, 3, [.int .i64 p3]⟩], [⟨b7, 24, [.int .i64 0, .int .i64 0, .int .i64 0, .slice none 0 0]⟩], [⟨b8, 24, [.int .i64 p0_0, .int .i64 p0_1, .int .i64 p0_2, .slice a_p0_3 p0_3.length c_p0_3, .int .i64 p1_0, .int .i64 p1_1, .int .i64 p1_2, .slice a_p1_3 p1_3.length c_p1_3]⟩], [⟨b46, 24, [.int .i64 0, .int .i64 0, .int .i64 0, .slice none 0 0]⟩]]) (fun _ h => h) ?_
      refine WO_storeB tbok 6 [.int .i64 v39.1, .int .i64 v39.2.1, .int .i64 v39.2.2.1, .slice a42 ((v39.2.2.2).length) c43] rfl rfl rfl rfl rfl rfl rfl ?_
      refine WO.cls (C' := St w0 m m [[⟨b3, 24, [.int .i64 p0_0, .int .i64 p0_1, .int .i64 p0_2, .slice a_p0_3 p0_3.length c_p0_3]⟩], [⟨b4, 24, [.int .i64 p1_0, .int .i64 p1_1, .int .i64 p1_2, .slice a_p1_3 p1_3.length c_p1_3]⟩], [⟨b5, 3, [.int .i64 p2]⟩], [⟨b6, 3, [.int .i64 p3]⟩], [⟨b7, 24, [.int .i64 0, .int .i64 0, .int .i64 0, .slice none 0 0]⟩], [⟨b8, 24, [.int .i64 p0_0, .int .i64 p0_1, .int .i64 p0_2, .slice a_p0_3 p0_3.length c_p0_3, .int .i64 p1_0, .int .i64 p1_1, .int .i64 p1_2, .slice a_p1_3 p1_3.length c_p1_3]⟩], [⟨b46, 24, [.int .i64 v39.1, .int .i64 v39.2.1, .int .i64 v39.2.2.1, .slice a42 ((v39.2.2.2).length) c43]⟩]]) (fun _ h => h) ?_
      refine WO_end ?_
      refine WK_seq ?_
      refine WK_region ?_
      refine WO_loadB tbok 6 rfl rfl rfl rfl (fun _ h => h) rfl rfl ?_
      obtain ⟨y47, hc48, hm14⟩ := bind_some hm14
      refine WO_call0 (.int .i64 y47) rfl rfl trivial rfl rfl rfl rfl St_closed ⟨20, #[], #[], rfl, callable_20, fun w hw => ⟨_, hw.sat, raster_Check_walk h44 hc48⟩⟩ ?_
      refine WO_pure tbok 1 [(4, .pointer (some ⟨b3, 0, none⟩)), (5, .pointer (some ⟨b4, 0, none⟩)), (6, .pointer (some ⟨b5, 0, none⟩)), (7, .pointer (some ⟨b6, 0, none⟩)), (8, .pointer (some ⟨b7, 0, none⟩)), (9, .int .i64 0), (12, .int .i64 y47), (15, .slice (some ⟨b8, 0, none⟩) 2 2), (16, .int .i64 2), (17, .int .i64 s10)] rfl ⟨rfl, rfl, rfl, rfl, rfl, rfl, rfl, rfl, rfl, rfl, trivial⟩ ?_
      refine WO_end ?_
      refine WK_seq ?_
      refine WK_region ?_
      refine WO_pure tbok 2 [(4, .pointer (some ⟨b3, 0, none⟩)), (5, .pointer (some ⟨b4, 0, none⟩)), (6, .pointer (some ⟨b5, 0, none⟩)), (7, .pointer (some ⟨b6, 0, none⟩)), (8, .pointer (some ⟨b7, 0, none⟩)), (9, .int .i64 0), (12, .int .i64 y47), (15, .slice (some ⟨b8, 0, none⟩) 2 2), (16, .int .i64 2), (17, .int .i64 s10), (24, .bool (y47 != 0))] rfl ⟨rfl, rfl, rfl, rfl, rfl, rfl, rfl, rfl, rfl, rfl, rfl, trivial⟩ ?_
      refine WO_end ?_
      refine WK_cond (b := y47 != 0) rfl (fun hb49 => ?_) (fun hb49 => ?_)
      · have hm14 := ifT hb49 hm14
        refine WK_seq ?_
        refine WK_region ?_
        refine WO_pure tbok 2 [(4, .pointer (some ⟨b3, 0, none⟩)), (5, .pointer (some ⟨b4, 0, none⟩)), (6, .pointer (some ⟨b5, 0, none⟩)), (7, .pointer (some ⟨b6, 0, none⟩)), (8, .pointer (some ⟨b7, 0, none⟩)), (9, .int .i64 0), (15, .slice (some ⟨b8, 0, none⟩) 2 2), (16, .int .i64 2), (17, .int .i64 s10), (25, .agg #[.int .i64 0, .int .i64 0, .int .i64 0, .slice none 0 0]), (26, .int .i64 y47)] rfl ⟨rfl, rfl, rfl, rfl, rfl, rfl, rfl, rfl, rfl, rfl, rfl, trivial⟩ ?_
        refine WO_storeB tbok 4 [.int .i64 0, .int .i64 0, .int .i64 0, .slice none 0 0] rfl rfl rfl rfl rfl rfl rfl ?_
        refine WO.cls (C' := St w0 m m [[⟨b3, 24, [.int .i64 p0_0, .int .i64 p0_1, .int .i64 p0_2, .slice a_p0_3 p0_3.length c_p0_3]⟩], [⟨b4, 24, [.int .i64 p1_0, .int .i64 p1_1, .int .i64 p1_2, .slice a_p1_3 p1_3.length c_p1_3]⟩], [⟨b5, 3, [.int .i64 p2]⟩], [⟨b6, 3, [.int .i64 p3]⟩], [⟨b7, 24, [.int .i64 0, .int .i64 0, .int .i64 0, .slice none 0 0]⟩], [⟨b8, 24, [.int .i64 p0_0, .int .i64 p0_1, .int .i64 p0_2, .slice a_p0_3 p0_3.length c_p0_3, .int .i64 p1_0, .int .i64 p1_1, .int .i64 p1_2, .slice a_p1_3 p1_3.length c_p1_3]⟩], [⟨b46, 24, [.int .i64 v39.1, .int .i64 v39.2.1, .int .i64 v39.2.2.1, .slice a42 ((v39.2.2.2).length) c43]⟩]]) (fun _ h => h) ?_
        refine WO_pure tbok 1 [(4, .pointer (some ⟨b3, 0, none⟩)), (5, .pointer (some ⟨b4, 0, none⟩)), (6, .pointer (some ⟨b5, 0, none⟩)), (7, .pointer (some ⟨b6, 0, none⟩)), (8, .pointer (some ⟨b7, 0, none⟩)), (9, .int .i64 y47), (15, .slice (some ⟨b8, 0, none⟩) 2 2), (16, .int .i64 2), (17, .int .i64 s10)] rfl ⟨rfl, rfl, rfl, rfl, rfl, rfl, rfl, rfl, rfl, trivial⟩ ?_
        refine WO_end ?_
        cases hm14
        have hq := hd18 _ rfl
        subst hq
        have hm : some _ = some _ := hm
        cases hm
        exact WK_ret (ret_out (L := []) (RLc_cell tbok 4 rfl rfl rfl (RLc_tmp rfl RLc_nil)) (List.nil_sublist _) ⟨none, 0, 0, rfl, (OwnE.nil none)⟩)
      · have hm14 := ifF hb49 hm14
        refine WK_skip ?_
        refine WK_blk ?_
        refine WK_region ?_
        refine WO_pure tbok 2 [(4, .pointer (some ⟨b3, 0, none⟩)), (5, .pointer (some ⟨b4, 0, none⟩)), (6, .pointer (some ⟨b5, 0, none⟩)), (7, .pointer (some ⟨b6, 0, none⟩)), (8, .pointer (some ⟨b7, 0, none⟩)), (9, .int .i64 0), (15, .slice (some ⟨b8, 0, none⟩) 2 2), (16, .int .i64 2), (17, .int .i64 (w64 (s10 + 1)))] rfl ⟨rfl, rfl, rfl, rfl, rfl, rfl, rfl, rfl, rfl, trivial⟩ ?_
        refine WO_end ?_
        cases hm14
        refine WK.sub ?_ (WK.cls (fun _ h => St.take 6 h) (hn17 _ () rfl trivial))
        exact ⟨rfl, rfl, rfl, rfl, rfl, rfl, rfl, rfl, rfl, trivial⟩
    · have hm14 := ifF hb38 hm14
      refine WK_exit rfl ?_
      cases hm14
      refine WK.sub ?_ (WK.cls (fun _ h => h) (hk13 ((), ()) (hd18 _ rfl)))
      exact ⟨rfl, rfl, rfl, rfl, rfl, rfl, trivial⟩
theorem fiducialref13_Inside_walk {m : Mu} {p0_0 : Int} {p0_1 : Int} {p0_2 : Int} {p0_3 : List Int} {p1 : Int} {p2 : Int} {a_p0_3 : Option Addr} {q_p0_3 c_p0_3 : Nat} (h_p0_3 : SlR (FE (I1 .i64)) 1 m (.slice a_p0_3 q_p0_3 c_p0_3) p0_3) {r : Bool} (hm : fiducialref13_Inside p0_0 p0_1 p0_2 p0_3 p1 p2 = some r) :
    Go.E.Spec Try.prog 43 [.agg #[.int .i64 p0_0, .int .i64 p0_1, .int .i64 p0_2, .slice a_p0_3 q_p0_3 c_p0_3], .int .i64 p1, .int .i64 p2] m (fun v _ _ => v = .bool r) := by
  refine Spec_enter Try.func43 rfl rfl rfl (fun w0 => ?_)
  refine WK.sub (e' := [(0, .agg #[.int .i64 p0_0, .int .i64 p0_1, .int .i64 p0_2, .slice a_p0_3 q_p0_3 c_p0_3]), (1, .int .i64 p1), (2, .int .i64 p2)]) ⟨rfl, rfl, rfl, trivial⟩ ?_
  obtain rfl := SlR.qlen h_p0_3
  refine WK.sub (e' := [(0, .agg #[.int .i64 p0_0, .int .i64 p0_1, .int .i64 p0_2, .slice a_p0_3 p0_3.length c_p0_3]), (1, .int .i64 p1), (2, .int .i64 p2)]) ⟨rfl, rfl, rfl, trivial⟩ ?_
  unfold fiducialref13_Inside at hm
  refine WK_seq ?_
  refine WK_region ?_
  refine WO_box [.int .i64 p0_0, .int .i64 p0_1, .int .i64 p0_2, .slice a_p0_3 p0_3.length c_p0_3] rfl rfl trivial rfl rfl rfl (fun b2 => ?_)
  refine WO.cls (C' := St w0 m m [[⟨b2, 24, [.int .i64 p0_0, .int .i64 p0_1, .int .i64 p0_2, .slice a_p0_3 p0_3.length c_p0_3]⟩]]) (fun _ h => h) ?_
  refine WO_pure tbok 1 [(1, .int .i64 p1), (2, .int .i64 p2), (3, .pointer (some ⟨b2, 0, none⟩)), (6, .bool false)] rfl ⟨rfl, rfl, rfl, rfl, trivial⟩ ?_
  refine WO_end ?_
  refine WK_seq ?_
  refine WK_region ?_
  refine WO_pure tbok 3 [(1, .int .i64 p1), (2, .int .i64 p2), (3, .pointer (some ⟨b2, 0, none⟩)), (6, .bool false), (9, .bool (decide (0 ≤ p1)))] rfl ⟨rfl, rfl, rfl, rfl, rfl, trivial⟩ ?_
  refine WO_split (d := 9) (b := decide (0 ≤ p1)) rfl (fun hb3 => ?_) (fun hb3 => ?_)
  · have hm := ifT hb3 hm
    refine WO_pure tbok 2 [(2, .int .i64 p2), (3, .pointer (some ⟨b2, 0, none⟩)), (6, .bool false), (9, .bool true), (10, .int .i64 p1), (11, .pointer (some ⟨b2, 0, none⟩))] rfl ⟨rfl, rfl, rfl, rfl, rfl, rfl, trivial⟩ ?_
    refine WO_loadB tbok 0 rfl rfl rfl rfl (fun _ h => h) rfl rfl ?_
    refine WO_pure tbok 3 [(2, .int .i64 p2), (3, .pointer (some ⟨b2, 0, none⟩)), (6, .bool false), (15, .bool (decide (p1 < p0_0)))] rfl ⟨rfl, rfl, rfl, rfl, trivial⟩ ?_
    refine WO_split (d := 15) (b := decide (p1 < p0_0)) rfl (fun hb4 => ?_) (fun hb4 => ?_)
    · have hm := ifT hb4 hm
      refine WO_pure tbok 4 [(2, .int .i64 p2), (3, .pointer (some ⟨b2, 0, none⟩)), (6, .bool false), (19, .bool (decide (0 ≤ p2)))] rfl ⟨rfl, rfl, rfl, rfl, trivial⟩ ?_
      refine WO_split (d := 19) (b := decide (0 ≤ p2)) rfl (fun hb5 => ?_) (fun hb5 => ?_)
      · have hm := ifT hb5 hm
        refine WO_pure tbok 2 [(6, .bool false), (19, .bool true), (20, .int .i64 p2), (21, .pointer (some ⟨b2, 1, none⟩))] rfl ⟨rfl, rfl, rfl, rfl, trivial⟩ ?_
        refine WO_loadB tbok 0 rfl rfl rfl rfl (fun _ h => h) rfl rfl ?_
        refine WO_pure tbok 3 [(6, .bool (decide (p2 < p0_1)))] rfl ⟨rfl, trivial⟩ ?_
        refine WO_end ?_
        cases hm
        exact WK_ret (ret_out (L := []) (RLc_tmp rfl RLc_nil) (List.nil_sublist _) rfl)
      · have hm := ifF hb5 hm
        refine WO_pure tbok 6 [(6, .bool false)] rfl ⟨rfl, trivial⟩ ?_
        refine WO_end ?_
        cases hm
        exact WK_ret (ret_out (L := []) (RLc_tmp rfl RLc_nil) (List.nil_sublist _) rfl)
    · have hm := ifF hb4 hm
      refine WO_pure tbok 10 [(6, .bool false)] rfl ⟨rfl, trivial⟩ ?_
      refine WO_end ?_
      cases hm
      exact WK_ret (ret_out (L := []) (RLc_tmp rfl RLc_nil) (List.nil_sublist _) rfl)
  · have hm := ifF hb3 hm
    refine WO_pure tbok 16 [(6, .bool false)] rfl ⟨rfl, trivial⟩ ?_
    refine WO_end ?_
    cases hm
    exact WK_ret (ret_out (L := []) (RLc_tmp rfl RLc_nil) (List.nil_sublist _) rfl)
end Go.Proofs.Ytoflllddpoonbaa
