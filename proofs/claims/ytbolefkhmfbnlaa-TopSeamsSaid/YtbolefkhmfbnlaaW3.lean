import Derived.Test.YtbolefkhmfbnlaaTab
import Derived.Test.YtbolefkhmfbnlaaM
import Derived.Test.YtbolefkhmfbnlaaW2
set_option linter.unusedVariables false
set_option maxRecDepth 100000
set_option maxHeartbeats 4000000
namespace Go.Proofs.Ytbolefkhmfbnlaa
open Go.E Go.RowKit
attribute [local irreducible] Go.E.WO Go.E.WK
def raster_Crop_Q (r : Int × Int × Int × List Int × Int) : Value → List Ent → Prop := fun v L => ∃ (a0 : Option Addr) (q0 c0 : Nat), v = .tuple #[.agg #[.int .i64 r.1, .int .i64 r.2.1, .int .i64 r.2.2.1, .slice a0 q0 c0], .int .i64 r.2.2.2.2] ∧ OwnE 3 1 (I1 .i64) (.slice a0 q0 c0) r.2.2.2.1 L
theorem raster_Crop_walk {m : Mu} {p0_0 : Int} {p0_1 : Int} {p0_2 : Int} {p0_3 : List Int} {p1 : Int} {p2 : Int} {p3 : Int} {p4 : Int} {a_p0_3 : Option Addr} {q_p0_3 c_p0_3 : Nat} (h_p0_3 : SlR (FE (I1 .i64)) 1 m (.slice a_p0_3 q_p0_3 c_p0_3) p0_3) {r : Int × Int × Int × List Int × Int} (hm : raster_Crop p0_0 p0_1 p0_2 p0_3 p1 p2 p3 p4 = some r) :
    Go.E.Spec Try.prog 17 [.agg #[.int .i64 p0_0, .int .i64 p0_1, .int .i64 p0_2, .slice a_p0_3 q_p0_3 c_p0_3], .int .i64 p1, .int .i64 p2, .int .i64 p3, .int .i64 p4] m (fun v _ L => raster_Crop_Q r v L) := by
  refine Spec_enter Try.func17 rfl rfl rfl (fun w0 => ?_)
  refine WK.sub (e' := [(0, .agg #[.int .i64 p0_0, .int .i64 p0_1, .int .i64 p0_2, .slice a_p0_3 q_p0_3 c_p0_3]), (1, .int .i64 p1), (2, .int .i64 p2), (3, .int .i64 p3), (4, .int .i64 p4)]) ⟨rfl, rfl, rfl, rfl, rfl, trivial⟩ ?_
  obtain rfl := SlR.qlen h_p0_3
  refine WK.sub (e' := [(0, .agg #[.int .i64 p0_0, .int .i64 p0_1, .int .i64 p0_2, .slice a_p0_3 p0_3.length c_p0_3]), (1, .int .i64 p1), (2, .int .i64 p2), (3, .int .i64 p3), (4, .int .i64 p4)]) ⟨rfl, rfl, rfl, rfl, rfl, trivial⟩ ?_
  unfold raster_Crop at hm
  refine WK_seq ?_
  refine WK_region ?_
  refine WO_box [.int .i64 p0_0, .int .i64 p0_1, .int .i64 p0_2, .slice a_p0_3 p0_3.length c_p0_3] rfl rfl trivial rfl rfl rfl (fun b2 => ?_)
  refine WO.cls (C' := St w0 m m [[⟨b2, 24, [.int .i64 p0_0, .int .i64 p0_1, .int .i64 p0_2, .slice a_p0_3 p0_3.length c_p0_3]⟩]]) (fun _ h => h) ?_
  refine WO_box [.int .i64 p1] rfl rfl trivial rfl rfl rfl (fun b3 => ?_)
  refine WO.cls (C' := St w0 m m [[⟨b2, 24, [.int .i64 p0_0, .int .i64 p0_1, .int .i64 p0_2, .slice a_p0_3 p0_3.length c_p0_3]⟩], [⟨b3, 3, [.int .i64 p1]⟩]]) (fun _ h => h) ?_
  refine WO_box [.int .i64 p2] rfl rfl trivial rfl rfl rfl (fun b4 => ?_)
  refine WO.cls (C' := St w0 m m [[⟨b2, 24, [.int .i64 p0_0, .int .i64 p0_1, .int .i64 p0_2, .slice a_p0_3 p0_3.length c_p0_3]⟩], [⟨b3, 3, [.int .i64 p1]⟩], [⟨b4, 3, [.int .i64 p2]⟩]]) (fun _ h => h) ?_
  refine WO_alloc tbok [.int .i64 0, .int .i64 0, .int .i64 0, .slice none 0 0] rfl rfl trivial rfl rfl rfl rfl (fun b5 => ?_)
  refine WO.cls (C' := St w0 m m [[⟨b2, 24, [.int .i64 p0_0, .int .i64 p0_1, .int .i64 p0_2, .slice a_p0_3 p0_3.length c_p0_3]⟩], [⟨b3, 3, [.int .i64 p1]⟩], [⟨b4, 3, [.int .i64 p2]⟩], [⟨b5, 24, [.int .i64 0, .int .i64 0, .int .i64 0, .slice none 0 0]⟩]]) (fun _ h => h) ?_
  refine WO_pure tbok 1 [(3, .int .i64 p3), (4, .int .i64 p4), (5, .pointer (some ⟨b2, 0, none⟩)), (6, .pointer (some ⟨b3, 0, none⟩)), (7, .pointer (some ⟨b4, 0, none⟩)), (10, .pointer (some ⟨b5, 0, none⟩)), (11, .int .i64 0)] rfl ⟨rfl, rfl, rfl, rfl, rfl, rfl, rfl, trivial⟩ ?_
  refine WO_end ?_
  refine WK_seq ?_
  refine WK_seq ?_
  refine WK_region ?_
  refine WO_loadB tbok 0 rfl rfl rfl rfl (fun _ h => h) rfl rfl ?_
  obtain ⟨y_1, hc6, hm⟩ := bind_some hm
  refine WO_call0 (.int .i64 y_1) rfl rfl trivial rfl rfl rfl rfl St_closed ⟨43, #[], #[], rfl, callable_43, fun w hw => ⟨_, hw.sat, raster_Check_walk h_p0_3 hc6⟩⟩ ?_
  refine WO_pure tbok 1 [(3, .int .i64 p3), (4, .int .i64 p4), (5, .pointer (some ⟨b2, 0, none⟩)), (6, .pointer (some ⟨b3, 0, none⟩)), (7, .pointer (some ⟨b4, 0, none⟩)), (10, .pointer (some ⟨b5, 0, none⟩)), (11, .int .i64 0), (12, .int .i64 y_1)] rfl ⟨rfl, rfl, rfl, rfl, rfl, rfl, rfl, rfl, trivial⟩ ?_
  refine WO_end ?_
  refine WK_seq ?_
  refine WK_region ?_
  refine WO_pure tbok 2 [(3, .int .i64 p3), (4, .int .i64 p4), (5, .pointer (some ⟨b2, 0, none⟩)), (6, .pointer (some ⟨b3, 0, none⟩)), (7, .pointer (some ⟨b4, 0, none⟩)), (10, .pointer (some ⟨b5, 0, none⟩)), (11, .int .i64 0), (12, .int .i64 y_1), (16, .bool (y_1 != 0))] rfl ⟨rfl, rfl, rfl, rfl, rfl, rfl, rfl, rfl, rfl, trivial⟩ ?_
  refine WO_end ?_
  refine WK_cond (b := y_1 != 0) rfl (fun hb7 => ?_) (fun hb7 => ?_)
  · have hm := ifT hb7 hm
    refine WK_seq ?_
    refine WK_region ?_
    refine WO_pure tbok 2 [(3, .int .i64 p3), (4, .int .i64 p4), (5, .pointer (some ⟨b2, 0, none⟩)), (6, .pointer (some ⟨b3, 0, none⟩)), (7, .pointer (some ⟨b4, 0, none⟩)), (10, .pointer (some ⟨b5, 0, none⟩)), (11, .int .i64 0), (17, .agg #[.int .i64 0, .int .i64 0, .int .i64 0, .slice none 0 0]), (18, .int .i64 y_1)] rfl ⟨rfl, rfl, rfl, rfl, rfl, rfl, rfl, rfl, rfl, trivial⟩ ?_
    refine WO_storeB tbok 3 [.int .i64 0, .int .i64 0, .int .i64 0, .slice none 0 0] rfl rfl rfl rfl rfl rfl rfl ?_
    refine WO.cls (C' := St w0 m m [[⟨b2, 24, [.int .i64 p0_0, .int .i64 p0_1, .int .i64 p0_2, .slice a_p0_3 p0_3.length c_p0_3]⟩], [⟨b3, 3, [.int .i64 p1]⟩], [⟨b4, 3, [.int .i64 p2]⟩], [⟨b5, 24, [.int .i64 0, .int .i64 0, .int .i64 0, .slice none 0 0]⟩]]) (fun _ h => h) ?_
    refine WO_pure tbok 1 [(3, .int .i64 p3), (4, .int .i64 p4), (5, .pointer (some ⟨b2, 0, none⟩)), (6, .pointer (some ⟨b3, 0, none⟩)), (7, .pointer (some ⟨b4, 0, none⟩)), (10, .pointer (some ⟨b5, 0, none⟩)), (11, .int .i64 y_1)] rfl ⟨rfl, rfl, rfl, rfl, rfl, rfl, rfl, trivial⟩ ?_
    refine WO_end ?_
    cases hm
    exact WK_ret (ret_out (L := []) (RLc_cell tbok 3 rfl rfl rfl (RLc_tmp rfl RLc_nil)) (List.nil_sublist _) ⟨none, 0, 0, rfl, (OwnE.nil none)⟩)
  · have hm := ifF hb7 hm
    refine WK_skip ?_
    refine WK_seq ?_
    refine WK_seq ?_
    obtain ⟨s_2, hx8, hm⟩ := bind_some hm
    refine WK_meet [(3, .int .i64 p3), (4, .int .i64 p4), (5, .pointer (some ⟨b2, 0, none⟩)), (6, .pointer (some ⟨b3, 0, none⟩)), (7, .pointer (some ⟨b4, 0, none⟩)), (10, .pointer (some ⟨b5, 0, none⟩)), (11, .int .i64 0), (47, .bool s_2)] (St w0 m m [[⟨b2, 24, [.int .i64 p0_0, .int .i64 p0_1, .int .i64 p0_2, .slice a_p0_3 p0_3.length c_p0_3]⟩], [⟨b3, 3, [.int .i64 p1]⟩], [⟨b4, 3, [.int .i64 p2]⟩], [⟨b5, 24, [.int .i64 0, .int .i64 0, .int .i64 0, .slice none 0 0]⟩]]) ?_ (fun hk9 => ?_)
    · refine WK_cond (b := s_2) rfl (fun hb10 => ?_) (fun hb10 => ?_)
      · have hm := ifT hb10 hm
        refine WK_seq ?_
        refine WK_region ?_
        refine WO_pure tbok 1 [(3, .int .i64 p3), (4, .int .i64 p4), (5, .pointer (some ⟨b2, 0, none⟩)), (6, .pointer (some ⟨b3, 0, none⟩)), (7, .pointer (some ⟨b4, 0, none⟩)), (10, .pointer (some ⟨b5, 0, none⟩)), (11, .int .i64 0), (48, .agg #[.int .i64 0, .int .i64 0, .int .i64 0, .slice none 0 0])] rfl ⟨rfl, rfl, rfl, rfl, rfl, rfl, rfl, rfl, trivial⟩ ?_
        refine WO_storeB tbok 3 [.int .i64 0, .int .i64 0, .int .i64 0, .slice none 0 0] rfl rfl rfl rfl rfl rfl rfl ?_
        refine WO.cls (C' := St w0 m m [[⟨b2, 24, [.int .i64 p0_0, .int .i64 p0_1, .int .i64 p0_2, .slice a_p0_3 p0_3.length c_p0_3]⟩], [⟨b3, 3, [.int .i64 p1]⟩], [⟨b4, 3, [.int .i64 p2]⟩], [⟨b5, 24, [.int .i64 0, .int .i64 0, .int .i64 0, .slice none 0 0]⟩]]) (fun _ h => h) ?_
        refine WO_pure tbok 1 [(3, .int .i64 p3), (4, .int .i64 p4), (5, .pointer (some ⟨b2, 0, none⟩)), (6, .pointer (some ⟨b3, 0, none⟩)), (7, .pointer (some ⟨b4, 0, none⟩)), (10, .pointer (some ⟨b5, 0, none⟩)), (11, .int .i64 2)] rfl ⟨rfl, rfl, rfl, rfl, rfl, rfl, rfl, trivial⟩ ?_
        refine WO_end ?_
        cases hm
        exact WK_ret (ret_out (L := []) (RLc_cell tbok 3 rfl rfl rfl (RLc_tmp rfl RLc_nil)) (List.nil_sublist _) ⟨none, 0, 0, rfl, (OwnE.nil none)⟩)
      · have hm := ifF hb10 hm
        refine WK_skip ?_
        refine WK_seq ?_
        refine WK_region ?_
        refine WO_pure tbok 3 [(5, .pointer (some ⟨b2, 0, none⟩)), (6, .pointer (some ⟨b3, 0, none⟩)), (7, .pointer (some ⟨b4, 0, none⟩)), (10, .pointer (some ⟨b5, 0, none⟩)), (11, .int .i64 0), (49, .int .i64 p3), (50, .int .i64 p4), (51, .pointer (some ⟨b2, 2, none⟩))] rfl ⟨rfl, rfl, rfl, rfl, rfl, rfl, rfl, rfl, trivial⟩ ?_
        refine WO_loadB tbok 0 rfl rfl rfl rfl (fun _ h => h) rfl rfl ?_
        refine WO_pure tbok 1 [(10, .pointer (some ⟨b5, 0, none⟩)), (11, .int .i64 0), (49, .int .i64 p3), (50, .int .i64 p4), (52, .int .i64 p0_2), (53, .func (.func 48) #[] #[.pointer (some ⟨b2, 0, none⟩), .pointer (some ⟨b3, 0, none⟩), .pointer (some ⟨b4, 0, none⟩)])] rfl ⟨rfl, rfl, rfl, rfl, rfl, rfl, trivial⟩ ?_
        obtain ⟨⟨y_5, y_6, y_7, y_8⟩, hc11, hm⟩ := bind_some hm
        refine WO_call1 (raster_made_Q (y_5, y_6, y_7, y_8)) rfl rfl trivial rfl rfl rfl rfl ⟨44, #[], #[], rfl, callable_44, fun w hw => ⟨_, hw.satV, raster_made_walk (fun m1 hm1 z_3 z_4 _ h => specV_cap callable_48 (raster_Crop_c1_walk (hm1 _ _ (hw.memV (i := 0) rfl (List.mem_singleton.2 rfl))) ((h_p0_3.mono (mono_FE _) hw.leV).mono (mono_FE _) hm1) (hm1 _ _ (hw.memV (i := 1) rfl (List.mem_singleton.2 rfl))) (hm1 _ _ (hw.memV (i := 2) rfl (List.mem_singleton.2 rfl))) h)) hc11⟩⟩ (fun v16 L15 hq => ?_)
        obtain ⟨a12, qa12, c13, rfl, hL15⟩ := hq
        obtain rfl := OwnE.qlen hL15
        refine WO.cls (C' := St w0 m m [[⟨b2, 24, [.int .i64 p0_0, .int .i64 p0_1, .int .i64 p0_2, .slice a_p0_3 p0_3.length c_p0_3]⟩], [⟨b3, 3, [.int .i64 p1]⟩], [⟨b4, 3, [.int .i64 p2]⟩], [⟨b5, 24, [.int .i64 0, .int .i64 0, .int .i64 0, .slice none 0 0]⟩], L15]) (fun _ h => h) ?_
        refine WO_storeB tbok 3 [.int .i64 y_5, .int .i64 y_6, .int .i64 y_7, .slice a12 ((y_8).length) c13] rfl rfl rfl rfl rfl rfl rfl ?_
        refine WO.cls (C' := St w0 m m [[⟨b2, 24, [.int .i64 p0_0, .int .i64 p0_1, .int .i64 p0_2, .slice a_p0_3 p0_3.length c_p0_3]⟩], [⟨b3, 3, [.int .i64 p1]⟩], [⟨b4, 3, [.int .i64 p2]⟩], [⟨b5, 24, [.int .i64 y_5, .int .i64 y_6, .int .i64 y_7, .slice a12 ((y_8).length) c13]⟩], L15]) (fun _ h => h) ?_
        refine WO_pure tbok 1 [(10, .pointer (some ⟨b5, 0, none⟩)), (11, .int .i64 0)] rfl ⟨rfl, rfl, trivial⟩ ?_
        refine WO_end ?_
        cases hm
        exact WK_ret (ret_out (L := L15) (RLc_cell tbok 3 rfl rfl rfl (RLc_tmp rfl RLc_nil)) (seg_sub 4 rfl) ⟨a12, _, c13, rfl, hL15⟩)
    · refine WK_region ?_
      refine WO_loadB tbok 0 rfl rfl rfl rfl (fun _ h => h) rfl rfl ?_
      refine WO_loadB tbok 1 rfl rfl rfl rfl (fun _ h => h) rfl rfl ?_
      refine WO_loadB tbok 2 rfl rfl rfl rfl (fun _ h => h) rfl rfl ?_
      obtain ⟨y_9, hc17, hx8⟩ := bind_some hx8
      refine WO_call0 (.bool y_9) rfl rfl trivial rfl rfl rfl rfl St_closed ⟨47, #[], #[], rfl, callable_47, fun w hw => ⟨_, hw.sat, raster_has_walk h_p0_3 hc17⟩⟩ ?_
      refine WO_pure tbok 2 [(3, .int .i64 p3), (4, .int .i64 p4), (5, .pointer (some ⟨b2, 0, none⟩)), (6, .pointer (some ⟨b3, 0, none⟩)), (7, .pointer (some ⟨b4, 0, none⟩)), (10, .pointer (some ⟨b5, 0, none⟩)), (11, .int .i64 0), (24, .bool (!y_9))] rfl ⟨rfl, rfl, rfl, rfl, rfl, rfl, rfl, rfl, trivial⟩ ?_
      refine WO_split (d := 24) (b := !y_9) rfl (fun hb18 => ?_) (fun hb18 => ?_)
      · have hx8 := ifT hb18 hx8
        refine WO_pure tbok 23 [(3, .int .i64 p3), (4, .int .i64 p4), (5, .pointer (some ⟨b2, 0, none⟩)), (6, .pointer (some ⟨b3, 0, none⟩)), (7, .pointer (some ⟨b4, 0, none⟩)), (10, .pointer (some ⟨b5, 0, none⟩)), (11, .int .i64 0), (47, .bool true)] rfl ⟨rfl, rfl, rfl, rfl, rfl, rfl, rfl, rfl, trivial⟩ ?_
        refine WO_end ?_
        cases hx8
        refine WK.sub ?_ (WK.cls (fun _ h => h) hk9)
        exact ⟨rfl, rfl, rfl, rfl, rfl, rfl, rfl, rfl, trivial⟩
      · have hx8 := ifF hb18 hx8
        refine WO_pure tbok 4 [(3, .int .i64 p3), (4, .int .i64 p4), (5, .pointer (some ⟨b2, 0, none⟩)), (6, .pointer (some ⟨b3, 0, none⟩)), (7, .pointer (some ⟨b4, 0, none⟩)), (10, .pointer (some ⟨b5, 0, none⟩)), (11, .int .i64 0), (28, .bool (decide (p3 < 1)))] rfl ⟨rfl, rfl, rfl, rfl, rfl, rfl, rfl, rfl, trivial⟩ ?_
        refine WO_split (d := 28) (b := decide (p3 < 1)) rfl (fun hb19 => ?_) (fun hb19 => ?_)
        · have hx8 := ifT hb19 hx8
          refine WO_pure tbok 19 [(3, .int .i64 p3), (4, .int .i64 p4), (5, .pointer (some ⟨b2, 0, none⟩)), (6, .pointer (some ⟨b3, 0, none⟩)), (7, .pointer (some ⟨b4, 0, none⟩)), (10, .pointer (some ⟨b5, 0, none⟩)), (11, .int .i64 0), (47, .bool true)] rfl ⟨rfl, rfl, rfl, rfl, rfl, rfl, rfl, rfl, trivial⟩ ?_
          refine WO_end ?_
          cases hx8
          refine WK.sub ?_ (WK.cls (fun _ h => h) hk9)
          exact ⟨rfl, rfl, rfl, rfl, rfl, rfl, rfl, rfl, trivial⟩
        · have hx8 := ifF hb19 hx8
          refine WO_pure tbok 4 [(3, .int .i64 p3), (4, .int .i64 p4), (5, .pointer (some ⟨b2, 0, none⟩)), (6, .pointer (some ⟨b3, 0, none⟩)), (7, .pointer (some ⟨b4, 0, none⟩)), (10, .pointer (some ⟨b5, 0, none⟩)), (11, .int .i64 0), (32, .bool (decide (p4 < 1)))] rfl ⟨rfl, rfl, rfl, rfl, rfl, rfl, rfl, rfl, trivial⟩ ?_
          refine WO_split (d := 32) (b := decide (p4 < 1)) rfl (fun hb20 => ?_) (fun hb20 => ?_)
          · have hx8 := ifT hb20 hx8
            refine WO_pure tbok 15 [(3, .int .i64 p3), (4, .int .i64 p4), (5, .pointer (some ⟨b2, 0, none⟩)), (6, .pointer (some ⟨b3, 0, none⟩)), (7, .pointer (some ⟨b4, 0, none⟩)), (10, .pointer (some ⟨b5, 0, none⟩)), (11, .int .i64 0), (47, .bool true)] rfl ⟨rfl, rfl, rfl, rfl, rfl, rfl, rfl, rfl, trivial⟩ ?_
            refine WO_end ?_
            cases hx8
            refine WK.sub ?_ (WK.cls (fun _ h => h) hk9)
            exact ⟨rfl, rfl, rfl, rfl, rfl, rfl, rfl, rfl, trivial⟩
          · have hx8 := ifF hb20 hx8
            refine WO_pure tbok 2 [(3, .int .i64 p3), (4, .int .i64 p4), (5, .pointer (some ⟨b2, 0, none⟩)), (6, .pointer (some ⟨b3, 0, none⟩)), (7, .pointer (some ⟨b4, 0, none⟩)), (10, .pointer (some ⟨b5, 0, none⟩)), (11, .int .i64 0), (32, .bool false), (33, .int .i64 p3), (34, .pointer (some ⟨b2, 0, none⟩))] rfl ⟨rfl, rfl, rfl, rfl, rfl, rfl, rfl, rfl, rfl, rfl, trivial⟩ ?_
            refine WO_loadB tbok 0 rfl rfl rfl rfl (fun _ h => h) rfl rfl ?_
            refine WO_loadB tbok 1 rfl rfl rfl rfl (fun _ h => h) rfl rfl ?_
            refine WO_pure tbok 4 [(3, .int .i64 p3), (4, .int .i64 p4), (5, .pointer (some ⟨b2, 0, none⟩)), (6, .pointer (some ⟨b3, 0, none⟩)), (7, .pointer (some ⟨b4, 0, none⟩)), (10, .pointer (some ⟨b5, 0, none⟩)), (11, .int .i64 0), (40, .bool (decide ((w64 (p0_0 - p1)) < p3)))] rfl ⟨rfl, rfl, rfl, rfl, rfl, rfl, rfl, rfl, trivial⟩ ?_
            refine WO_split (d := 40) (b := decide ((w64 (p0_0 - p1)) < p3)) rfl (fun hb21 => ?_) (fun hb21 => ?_)
            · have hx8 := ifT hb21 hx8
              refine WO_pure tbok 7 [(3, .int .i64 p3), (4, .int .i64 p4), (5, .pointer (some ⟨b2, 0, none⟩)), (6, .pointer (some ⟨b3, 0, none⟩)), (7, .pointer (some ⟨b4, 0, none⟩)), (10, .pointer (some ⟨b5, 0, none⟩)), (11, .int .i64 0), (47, .bool true)] rfl ⟨rfl, rfl, rfl, rfl, rfl, rfl, rfl, rfl, trivial⟩ ?_
              refine WO_end ?_
              cases hx8
              refine WK.sub ?_ (WK.cls (fun _ h => h) hk9)
              exact ⟨rfl, rfl, rfl, rfl, rfl, rfl, rfl, rfl, trivial⟩
            · have hx8 := ifF hb21 hx8
              refine WO_pure tbok 2 [(3, .int .i64 p3), (4, .int .i64 p4), (5, .pointer (some ⟨b2, 0, none⟩)), (6, .pointer (some ⟨b3, 0, none⟩)), (7, .pointer (some ⟨b4, 0, none⟩)), (10, .pointer (some ⟨b5, 0, none⟩)), (11, .int .i64 0), (40, .bool false), (41, .int .i64 p4), (42, .pointer (some ⟨b2, 1, none⟩))] rfl ⟨rfl, rfl, rfl, rfl, rfl, rfl, rfl, rfl, rfl, rfl, trivial⟩ ?_
              refine WO_loadB tbok 0 rfl rfl rfl rfl (fun _ h => h) rfl rfl ?_
              refine WO_loadB tbok 2 rfl rfl rfl rfl (fun _ h => h) rfl rfl ?_
              refine WO_pure tbok 3 [(3, .int .i64 p3), (4, .int .i64 p4), (5, .pointer (some ⟨b2, 0, none⟩)), (6, .pointer (some ⟨b3, 0, none⟩)), (7, .pointer (some ⟨b4, 0, none⟩)), (10, .pointer (some ⟨b5, 0, none⟩)), (11, .int .i64 0), (47, .bool (decide ((w64 (p0_1 - p2)) < p4)))] rfl ⟨rfl, rfl, rfl, rfl, rfl, rfl, rfl, rfl, trivial⟩ ?_
              refine WO_end ?_
              cases hx8
              refine WK.sub ?_ (WK.cls (fun _ h => h) hk9)
              exact ⟨rfl, rfl, rfl, rfl, rfl, rfl, rfl, rfl, trivial⟩
theorem seam_total_walk {m : Mu} {p0 : List (List Int)} {p1 : List Int} {a_p0 : Option Addr} {q_p0 c_p0 : Nat} {a_p1 : Option Addr} {q_p1 c_p1 : Nat} (h_p0 : SlR (RowE (FE (I1 .i64)) 1) 1 m (.slice a_p0 q_p0 c_p0) p0) (h_p1 : SlR (FE (I1 .i64)) 1 m (.slice a_p1 q_p1 c_p1) p1) {r : Int × Bool} (hm : seam_total p0 p1 = some r) :
    Go.E.Spec Try.prog 49 [.slice a_p0 q_p0 c_p0, .slice a_p1 q_p1 c_p1] m (fun v _ _ => v = .tuple #[.int .i64 r.1, .bool r.2]) := by
  refine Spec_enter Try.func49 rfl rfl rfl (fun w0 => ?_)
  refine WK.sub (e' := [(0, .slice a_p0 q_p0 c_p0), (1, .slice a_p1 q_p1 c_p1)]) ⟨rfl, rfl, trivial⟩ ?_
  obtain rfl := SlR.qlen h_p0
  obtain rfl := SlR.qlen h_p1
  refine WK.sub (e' := [(0, .slice a_p0 p0.length c_p0), (1, .slice a_p1 p1.length c_p1)]) ⟨rfl, rfl, trivial⟩ ?_
  unfold seam_total at hm
  refine WK_seq ?_
  refine WK_region ?_
  refine WO_pure tbok 2 [(0, .slice a_p0 p0.length c_p0), (1, .slice a_p1 p1.length c_p1), (4, .int .i64 0), (5, .bool false)] rfl ⟨rfl, rfl, rfl, rfl, trivial⟩ ?_
  refine WO_end ?_
  refine WK_seq ?_
  refine WK_seq ?_
  refine WK_region ?_
  refine WO_pure tbok 5 [(0, .slice a_p0 p0.length c_p0), (1, .slice a_p1 p1.length c_p1), (4, .int .i64 0), (5, .bool false), (13, .bool ((p1.length : Int) != (p0.length : Int)))] rfl ⟨rfl, rfl, rfl, rfl, rfl, trivial⟩ ?_
  refine WO_end ?_
  refine WK_cond (b := (p1.length : Int) != (p0.length : Int)) rfl (fun hb3 => ?_) (fun hb3 => ?_)
  · have hm := ifT hb3 hm
    refine WK_seq ?_
    refine WK_region ?_
    refine WO_pure tbok 2 [(0, .slice a_p0 p0.length c_p0), (1, .slice a_p1 p1.length c_p1), (4, .int .i64 0), (5, .bool false)] rfl ⟨rfl, rfl, rfl, rfl, trivial⟩ ?_
    refine WO_end ?_
    cases hm
    exact WK_ret (ret_out (L := []) (RLc_tmp rfl (RLc_tmp rfl RLc_nil)) (List.nil_sublist _) rfl)
  · have hm := ifF hb3 hm
    refine WK_skip ?_
    refine WK_seq ?_
    refine WK_region ?_
    refine WO_pure tbok 1 [(0, .slice a_p0 p0.length c_p0), (1, .slice a_p1 p1.length c_p1), (4, .int .i64 0), (5, .bool false), (6, .int .i64 0)] rfl ⟨rfl, rfl, rfl, rfl, rfl, trivial⟩ ?_
    refine WO_end ?_
    refine WK_seq ?_
    refine WK_seq ?_
    refine WK_region ?_
    refine WO_pure tbok 3 [(0, .slice a_p0 p0.length c_p0), (1, .slice a_p1 p1.length c_p1), (4, .int .i64 0), (5, .bool false), (6, .int .i64 0), (14, .slice a_p1 p1.length c_p1), (15, .int .i64 (p1.length : Int)), (16, .int .i64 0)] rfl ⟨rfl, rfl, rfl, rfl, rfl, rfl, rfl, rfl, trivial⟩ ?_
    refine WO_end ?_
    obtain ⟨x4, hx5, hm⟩ := bind_some hm
    refine WK_join (β := Int × Unit) (fun p => Sum.inr p.1 = x4) (fun p => [(4, .int .i64 0), (5, .bool false), (6, .int .i64 p.1)]) (fun p => St w0 m m []) ?_ (fun hk6 => ?_)
    · rintro ⟨s_3, ⟨⟩⟩ hq12
      subst hq12
      refine WK.sub (e' := [(4, .int .i64 0), (5, .bool false), (6, .int .i64 s_3)]) ⟨rfl, rfl, rfl, trivial⟩ (WK.cls (C' := St w0 m m []) (fun _ h => h) ?_)
      refine WK_seq ?_
      refine WK_region ?_
      refine WO_pure tbok 3 [(4, .int .i64 s_3), (5, .bool true)] rfl ⟨rfl, rfl, trivial⟩ ?_
      refine WO_end ?_
      cases hm
      exact WK_ret (ret_out (L := []) (RLc_tmp rfl (RLc_tmp rfl RLc_nil)) (List.nil_sublist _) rfl)
    · refine WK_block ?_
      refine WK_loop (S := Int × Int) (G := Unit) (fun s => seam_total_s1 p0 p1 s.1 s.2) (fun s g => [(0, .slice a_p0 p0.length c_p0), (1, .slice a_p1 p1.length c_p1), (4, .int .i64 0), (5, .bool false), (6, .int .i64 s.1), (14, .slice a_p1 p1.length c_p1), (15, .int .i64 (p1.length : Int)), (16, .int .i64 s.2)]) (fun s g => St w0 m m []) (fun s g => True) FUEL (0, 0) () x4 hx5 trivial ⟨rfl, rfl, rfl, rfl, rfl, rfl, rfl, rfl, trivial⟩ (fun _ h => h) ?_
      rintro ⟨s_1, s_2⟩ ⟨⟩ o8 fl9 hm7 - hn10 hd11
      have hm7 : seam_total_s1 p0 p1 s_1 s_2 = some o8 := hm7
      unfold seam_total_s1 at hm7
      refine WK.sub (e' := [(0, .slice a_p0 p0.length c_p0), (1, .slice a_p1 p1.length c_p1), (4, .int .i64 0), (5, .bool false), (6, .int .i64 s_1), (14, .slice a_p1 p1.length c_p1), (15, .int .i64 (p1.length : Int)), (16, .int .i64 s_2)]) ⟨rfl, rfl, rfl, rfl, rfl, rfl, rfl, rfl, trivial⟩ (WK.cls (C' := St w0 m m []) (fun _ h => h) ?_)
      refine WK_seq ?_
      refine WK_region ?_
      refine WO_pure tbok 1 [(0, .slice a_p0 p0.length c_p0), (1, .slice a_p1 p1.length c_p1), (4, .int .i64 0), (5, .bool false), (6, .int .i64 s_1), (14, .slice a_p1 p1.length c_p1), (15, .int .i64 (p1.length : Int)), (16, .int .i64 s_2), (17, .bool (decide (s_2 < (p1.length : Int))))] rfl ⟨rfl, rfl, rfl, rfl, rfl, rfl, rfl, rfl, rfl, trivial⟩ ?_
      refine WO_end ?_
      refine WK_seq ?_
      refine WK_cond (b := decide (s_2 < (p1.length : Int))) rfl (fun hb13 => ?_) (fun hb13 => ?_)
      · have hm7 := ifT hb13 hm7
        refine WK_skip ?_
        refine WK_seq ?_
        refine WK_block ?_
        refine WK_seq ?_
        refine WK_region ?_
        refine WO_pure tbok 1 [(0, .slice a_p0 p0.length c_p0), (1, .slice a_p1 p1.length c_p1), (4, .int .i64 0), (5, .bool false), (6, .int .i64 s_1), (14, .slice a_p1 p1.length c_p1), (15, .int .i64 (p1.length : Int)), (16, .int .i64 s_2), (18, .int .i64 s_2)] rfl ⟨rfl, rfl, rfl, rfl, rfl, rfl, rfl, rfl, rfl, trivial⟩ ?_
        obtain ⟨v_4, hy14, hm7⟩ := bind_some hm7
        obtain ⟨hc15, hy14⟩ := ix_some hy14
        refine WO_index tbok rfl rfl rfl rfl rfl rfl rfl rfl (SlR.addr h_p1) hc15 ?_
        refine WO_loadE tbok rfl rfl rfl rfl (fun _ h => St.sat h) h_p1 hy14 rfl ?_
        refine WO_pure tbok 2 [(0, .slice a_p0 p0.length c_p0), (1, .slice a_p1 p1.length c_p1), (4, .int .i64 0), (5, .bool false), (6, .int .i64 s_1), (7, .int .i64 s_2), (8, .int .i64 v_4), (14, .slice a_p1 p1.length c_p1), (15, .int .i64 (p1.length : Int)), (16, .int .i64 s_2)] rfl ⟨rfl, rfl, rfl, rfl, rfl, rfl, rfl, rfl, rfl, rfl, trivial⟩ ?_
        refine WO_end ?_
        refine WK_seq ?_
        refine WK_seq ?_
        obtain ⟨s_5, hx16, hm7⟩ := bind_some hm7
        refine WK_meet [(0, .slice a_p0 p0.length c_p0), (1, .slice a_p1 p1.length c_p1), (4, .int .i64 0), (5, .bool false), (6, .int .i64 s_1), (7, .int .i64 s_2), (8, .int .i64 v_4), (14, .slice a_p1 p1.length c_p1), (15, .int .i64 (p1.length : Int)), (16, .int .i64 s_2), (55, .bool s_5)] (St w0 m m []) ?_ (fun hk17 => ?_)
        · refine WK_cond (b := s_5) rfl (fun hb18 => ?_) (fun hb18 => ?_)
          · have hm7 := ifT hb18 hm7
            refine WK_seq ?_
            refine WK_region ?_
            refine WO_pure tbok 2 [(0, .slice a_p0 p0.length c_p0), (1, .slice a_p1 p1.length c_p1), (4, .int .i64 0), (5, .bool false), (6, .int .i64 s_1), (7, .int .i64 s_2), (8, .int .i64 v_4), (14, .slice a_p1 p1.length c_p1), (15, .int .i64 (p1.length : Int)), (16, .int .i64 s_2)] rfl ⟨rfl, rfl, rfl, rfl, rfl, rfl, rfl, rfl, rfl, rfl, trivial⟩ ?_
            refine WO_end ?_
            cases hm7
            have hq := hd11 _ rfl
            subst hq
            have hm : some _ = some _ := hm
            cases hm
            exact WK_ret (ret_out (L := []) (RLc_tmp rfl (RLc_tmp rfl RLc_nil)) (List.nil_sublist _) rfl)
          · have hm7 := ifF hb18 hm7
            refine WK_skip ?_
            refine WK_region ?_
            refine WO_pure tbok 3 [(0, .slice a_p0 p0.length c_p0), (1, .slice a_p1 p1.length c_p1), (4, .int .i64 0), (5, .bool false), (6, .int .i64 s_1), (8, .int .i64 v_4), (14, .slice a_p1 p1.length c_p1), (15, .int .i64 (p1.length : Int)), (16, .int .i64 s_2), (56, .int .i64 s_1), (57, .slice a_p0 p0.length c_p0), (58, .int .i64 s_2)] rfl ⟨rfl, rfl, rfl, rfl, rfl, rfl, rfl, rfl, rfl, rfl, rfl, rfl, trivial⟩ ?_
            obtain ⟨v_6, hy19, hm7⟩ := bind_some hm7
            obtain ⟨hc20, hy19⟩ := ix_some hy19
            refine WO_index tbok rfl rfl rfl rfl rfl rfl rfl rfl (SlR.addr h_p0) hc20 ?_
            refine WO_loadR tbok rfl rfl rfl rfl (fun _ h => St.sat h) h_p0 hy19 rfl rfl (fun a21 c22 h23 => ?_)
            refine WO_pure tbok 1 [(0, .slice a_p0 p0.length c_p0), (1, .slice a_p1 p1.length c_p1), (4, .int .i64 0), (5, .bool false), (6, .int .i64 s_1), (14, .slice a_p1 p1.length c_p1), (15, .int .i64 (p1.length : Int)), (16, .int .i64 s_2), (56, .int .i64 s_1), (60, .slice a21 ((v_6).length) c22), (61, .int .i64 v_4)] rfl ⟨rfl, rfl, rfl, rfl, rfl, rfl, rfl, rfl, rfl, rfl, rfl, trivial⟩ ?_
            obtain ⟨v_7, hy25, hm7⟩ := bind_some hm7
            obtain ⟨hc26, hy25⟩ := ix_some hy25
            refine WO_index tbok rfl rfl rfl rfl rfl rfl rfl rfl (SlR.addr h23) hc26 ?_
            refine WO_loadE tbok rfl rfl rfl rfl (fun _ h => St.sat h) h23 hy25 rfl ?_
            refine WO_pure tbok 2 [(0, .slice a_p0 p0.length c_p0), (1, .slice a_p1 p1.length c_p1), (4, .int .i64 0), (5, .bool false), (6, .int .i64 (w64 (s_1 + v_7))), (14, .slice a_p1 p1.length c_p1), (15, .int .i64 (p1.length : Int)), (16, .int .i64 s_2)] rfl ⟨rfl, rfl, rfl, rfl, rfl, rfl, rfl, rfl, trivial⟩ ?_
            refine WO_end ?_
            refine WK_blk ?_
            refine WK_region ?_
            refine WO_pure tbok 2 [(0, .slice a_p0 p0.length c_p0), (1, .slice a_p1 p1.length c_p1), (4, .int .i64 0), (5, .bool false), (6, .int .i64 (w64 (s_1 + v_7))), (14, .slice a_p1 p1.length c_p1), (15, .int .i64 (p1.length : Int)), (16, .int .i64 (w64 (s_2 + 1)))] rfl ⟨rfl, rfl, rfl, rfl, rfl, rfl, rfl, rfl, trivial⟩ ?_
            refine WO_end ?_
            cases hm7
            refine WK.sub ?_ (WK.cls (fun _ h => h) (hn10 _ () rfl trivial))
            exact ⟨rfl, rfl, rfl, rfl, rfl, rfl, rfl, rfl, trivial⟩
        · refine WK_region ?_
          refine WO_pure tbok 3 [(0, .slice a_p0 p0.length c_p0), (1, .slice a_p1 p1.length c_p1), (4, .int .i64 0), (5, .bool false), (6, .int .i64 s_1), (7, .int .i64 s_2), (8, .int .i64 v_4), (14, .slice a_p1 p1.length c_p1), (15, .int .i64 (p1.length : Int)), (16, .int .i64 s_2), (23, .bool (decide (v_4 < 0)))] rfl ⟨rfl, rfl, rfl, rfl, rfl, rfl, rfl, rfl, rfl, rfl, rfl, trivial⟩ ?_
          refine WO_split (d := 23) (b := decide (v_4 < 0)) rfl (fun hb27 => ?_) (fun hb27 => ?_)
          · have hx16 := ifT hb27 hx16
            refine WO_pure tbok 32 [(0, .slice a_p0 p0.length c_p0), (1, .slice a_p1 p1.length c_p1), (4, .int .i64 0), (5, .bool false), (6, .int .i64 s_1), (7, .int .i64 s_2), (8, .int .i64 v_4), (14, .slice a_p1 p1.length c_p1), (15, .int .i64 (p1.length : Int)), (16, .int .i64 s_2), (55, .bool true)] rfl ⟨rfl, rfl, rfl, rfl, rfl, rfl, rfl, rfl, rfl, rfl, rfl, trivial⟩ ?_
            refine WO_end ?_
            cases hx16
            refine WK.sub ?_ (WK.cls (fun _ h => h) hk17)
            exact ⟨rfl, rfl, rfl, rfl, rfl, rfl, rfl, rfl, rfl, rfl, rfl, trivial⟩
          · have hx16 := ifF hb27 hx16
            refine WO_pure tbok 3 [(0, .slice a_p0 p0.length c_p0), (1, .slice a_p1 p1.length c_p1), (4, .int .i64 0), (5, .bool false), (6, .int .i64 s_1), (7, .int .i64 s_2), (8, .int .i64 v_4), (14, .slice a_p1 p1.length c_p1), (15, .int .i64 (p1.length : Int)), (16, .int .i64 s_2), (23, .bool false), (24, .int .i64 v_4), (25, .slice a_p0 p0.length c_p0), (26, .int .i64 s_2)] rfl ⟨rfl, rfl, rfl, rfl, rfl, rfl, rfl, rfl, rfl, rfl, rfl, rfl, rfl, rfl, trivial⟩ ?_
            obtain ⟨v_8, hy28, hx16⟩ := bind_some hx16
            obtain ⟨hc29, hy28⟩ := ix_some hy28
            refine WO_index tbok rfl rfl rfl rfl rfl rfl rfl rfl (SlR.addr h_p0) hc29 ?_
            refine WO_loadR tbok rfl rfl rfl rfl (fun _ h => St.sat h) h_p0 hy28 rfl rfl (fun a30 c31 h32 => ?_)
            refine WO_pure tbok 4 [(0, .slice a_p0 p0.length c_p0), (1, .slice a_p1 p1.length c_p1), (4, .int .i64 0), (5, .bool false), (6, .int .i64 s_1), (7, .int .i64 s_2), (8, .int .i64 v_4), (14, .slice a_p1 p1.length c_p1), (15, .int .i64 (p1.length : Int)), (16, .int .i64 s_2), (32, .bool (decide (((v_8).length : Int) ≤ v_4)))] rfl ⟨rfl, rfl, rfl, rfl, rfl, rfl, rfl, rfl, rfl, rfl, rfl, trivial⟩ ?_
            refine WO_split (d := 32) (b := decide (((v_8).length : Int) ≤ v_4)) rfl (fun hb34 => ?_) (fun hb34 => ?_)
            · have hx16 := ifT hb34 hx16
              refine WO_pure tbok 23 [(0, .slice a_p0 p0.length c_p0), (1, .slice a_p1 p1.length c_p1), (4, .int .i64 0), (5, .bool false), (6, .int .i64 s_1), (7, .int .i64 s_2), (8, .int .i64 v_4), (14, .slice a_p1 p1.length c_p1), (15, .int .i64 (p1.length : Int)), (16, .int .i64 s_2), (55, .bool true)] rfl ⟨rfl, rfl, rfl, rfl, rfl, rfl, rfl, rfl, rfl, rfl, rfl, trivial⟩ ?_
              refine WO_end ?_
              cases hx16
              refine WK.sub ?_ (WK.cls (fun _ h => h) hk17)
              exact ⟨rfl, rfl, rfl, rfl, rfl, rfl, rfl, rfl, rfl, rfl, rfl, trivial⟩
            · have hx16 := ifF hb34 hx16
              refine WO_pure tbok 3 [(0, .slice a_p0 p0.length c_p0), (1, .slice a_p1 p1.length c_p1), (4, .int .i64 0), (5, .bool false), (6, .int .i64 s_1), (7, .int .i64 s_2), (8, .int .i64 v_4), (14, .slice a_p1 p1.length c_p1), (15, .int .i64 (p1.length : Int)), (16, .int .i64 s_2), (32, .bool false), (35, .bool (decide (0 < s_2)))] rfl ⟨rfl, rfl, rfl, rfl, rfl, rfl, rfl, rfl, rfl, rfl, rfl, rfl, trivial⟩ ?_
              refine WO_split (d := 35) (b := decide (0 < s_2)) rfl (fun hb35 => ?_) (fun hb35 => ?_)
              · have hx16 := ifT hb35 hx16
                refine WO_pure tbok 4 [(0, .slice a_p0 p0.length c_p0), (1, .slice a_p1 p1.length c_p1), (4, .int .i64 0), (5, .bool false), (6, .int .i64 s_1), (7, .int .i64 s_2), (8, .int .i64 v_4), (14, .slice a_p1 p1.length c_p1), (15, .int .i64 (p1.length : Int)), (16, .int .i64 s_2), (32, .bool false), (35, .bool true), (36, .int .i64 v_4), (37, .slice a_p1 p1.length c_p1), (39, .int .i64 (w64 (s_2 - 1)))] rfl ⟨rfl, rfl, rfl, rfl, rfl, rfl, rfl, rfl, rfl, rfl, rfl, rfl, rfl, rfl, rfl, trivial⟩ ?_
                obtain ⟨v_9, hy36, hx16⟩ := bind_some hx16
                obtain ⟨hc37, hy36⟩ := ix_some hy36
                refine WO_index tbok rfl rfl rfl rfl rfl rfl rfl rfl (SlR.addr h_p1) hc37 ?_
                refine WO_loadE tbok rfl rfl rfl rfl (fun _ h => St.sat h) h_p1 hy36 rfl ?_
                refine WO_pure tbok 3 [(0, .slice a_p0 p0.length c_p0), (1, .slice a_p1 p1.length c_p1), (4, .int .i64 0), (5, .bool false), (6, .int .i64 s_1), (7, .int .i64 s_2), (8, .int .i64 v_4), (14, .slice a_p1 p1.length c_p1), (15, .int .i64 (p1.length : Int)), (16, .int .i64 s_2), (32, .bool false), (35, .bool true), (44, .bool (decide (v_4 < (w64 (v_9 - 1)))))] rfl ⟨rfl, rfl, rfl, rfl, rfl, rfl, rfl, rfl, rfl, rfl, rfl, rfl, rfl, trivial⟩ ?_
                refine WO_split (d := 44) (b := decide (v_4 < (w64 (v_9 - 1)))) rfl (fun hb38 => ?_) (fun hb38 => ?_)
                · have hx16 := ifT hb38 hx16
                  refine WO_pure tbok 11 [(0, .slice a_p0 p0.length c_p0), (1, .slice a_p1 p1.length c_p1), (4, .int .i64 0), (5, .bool false), (6, .int .i64 s_1), (7, .int .i64 s_2), (8, .int .i64 v_4), (14, .slice a_p1 p1.length c_p1), (15, .int .i64 (p1.length : Int)), (16, .int .i64 s_2), (55, .bool true)] rfl ⟨rfl, rfl, rfl, rfl, rfl, rfl, rfl, rfl, rfl, rfl, rfl, trivial⟩ ?_
                  refine WO_end ?_
                  cases hx16
                  refine WK.sub ?_ (WK.cls (fun _ h => h) hk17)
                  exact ⟨rfl, rfl, rfl, rfl, rfl, rfl, rfl, rfl, rfl, rfl, rfl, trivial⟩
                · have hx16 := ifF hb38 hx16
                  refine WO_pure tbok 4 [(0, .slice a_p0 p0.length c_p0), (1, .slice a_p1 p1.length c_p1), (4, .int .i64 0), (5, .bool false), (6, .int .i64 s_1), (7, .int .i64 s_2), (8, .int .i64 v_4), (14, .slice a_p1 p1.length c_p1), (15, .int .i64 (p1.length : Int)), (16, .int .i64 s_2), (32, .bool false), (35, .bool true), (44, .bool false), (45, .int .i64 v_4), (46, .slice a_p1 p1.length c_p1), (48, .int .i64 (w64 (s_2 - 1)))] rfl ⟨rfl, rfl, rfl, rfl, rfl, rfl, rfl, rfl, rfl, rfl, rfl, rfl, rfl, rfl, rfl, rfl, trivial⟩ ?_
                  obtain ⟨v_10, hy39, hx16⟩ := bind_some hx16
                  obtain ⟨hc40, hy39⟩ := ix_some hy39
                  refine WO_index tbok rfl rfl rfl rfl rfl rfl rfl rfl (SlR.addr h_p1) hc40 ?_
                  refine WO_loadE tbok rfl rfl rfl rfl (fun _ h => St.sat h) h_p1 hy39 rfl ?_
                  refine WO_pure tbok 5 [(0, .slice a_p0 p0.length c_p0), (1, .slice a_p1 p1.length c_p1), (4, .int .i64 0), (5, .bool false), (6, .int .i64 s_1), (7, .int .i64 s_2), (8, .int .i64 v_4), (14, .slice a_p1 p1.length c_p1), (15, .int .i64 (p1.length : Int)), (16, .int .i64 s_2), (55, .bool (decide ((w64 (v_10 + 1)) < v_4)))] rfl ⟨rfl, rfl, rfl, rfl, rfl, rfl, rfl, rfl, rfl, rfl, rfl, trivial⟩ ?_
                  refine WO_end ?_
                  cases hx16
                  refine WK.sub ?_ (WK.cls (fun _ h => h) hk17)
                  exact ⟨rfl, rfl, rfl, rfl, rfl, rfl, rfl, rfl, rfl, rfl, rfl, trivial⟩
              · have hx16 := ifF hb35 hx16
                refine WO_pure tbok 20 [(0, .slice a_p0 p0.length c_p0), (1, .slice a_p1 p1.length c_p1), (4, .int .i64 0), (5, .bool false), (6, .int .i64 s_1), (7, .int .i64 s_2), (8, .int .i64 v_4), (14, .slice a_p1 p1.length c_p1), (15, .int .i64 (p1.length : Int)), (16, .int .i64 s_2), (55, .bool false)] rfl ⟨rfl, rfl, rfl, rfl, rfl, rfl, rfl, rfl, rfl, rfl, rfl, trivial⟩ ?_
                refine WO_end ?_
                cases hx16
                refine WK.sub ?_ (WK.cls (fun _ h => h) hk17)
                exact ⟨rfl, rfl, rfl, rfl, rfl, rfl, rfl, rfl, rfl, rfl, rfl, trivial⟩
      · have hm7 := ifF hb13 hm7
        refine WK_exit rfl ?_
        cases hm7
        refine WK.sub ?_ (WK.cls (fun _ h => h) (hk6 (s_1, ()) (hd11 _ rfl)))
        exact ⟨rfl, rfl, rfl, trivial⟩
theorem seam_Total_walk {m : Mu} {p0 : List (List Int)} {p1 : List Int} {a_p0 : Option Addr} {q_p0 c_p0 : Nat} {a_p1 : Option Addr} {q_p1 c_p1 : Nat} (h_p0 : SlR (RowE (FE (I1 .i64)) 1) 1 m (.slice a_p0 q_p0 c_p0) p0) (h_p1 : SlR (FE (I1 .i64)) 1 m (.slice a_p1 q_p1 c_p1) p1) {r : Int × Int} (hm : seam_Total p0 p1 = some r) :
    Go.E.Spec Try.prog 18 [.slice a_p0 q_p0 c_p0, .slice a_p1 q_p1 c_p1] m (fun v _ _ => v = .tuple #[.int .i64 r.1, .int .i64 r.2]) := by
  refine Spec_enter Try.func18 rfl rfl rfl (fun w0 => ?_)
  refine WK.sub (e' := [(0, .slice a_p0 q_p0 c_p0), (1, .slice a_p1 q_p1 c_p1)]) ⟨rfl, rfl, trivial⟩ ?_
  obtain rfl := SlR.qlen h_p0
  obtain rfl := SlR.qlen h_p1
  refine WK.sub (e' := [(0, .slice a_p0 p0.length c_p0), (1, .slice a_p1 p1.length c_p1)]) ⟨rfl, rfl, trivial⟩ ?_
  unfold seam_Total at hm
  refine WK_seq ?_
  refine WK_region ?_
  refine WO_pure tbok 2 [(0, .slice a_p0 p0.length c_p0), (1, .slice a_p1 p1.length c_p1), (4, .int .i64 0), (5, .int .i64 0)] rfl ⟨rfl, rfl, rfl, rfl, trivial⟩ ?_
  refine WO_end ?_
  refine WK_seq ?_
  refine WK_seq ?_
  refine WK_region ?_
  refine WO_pure tbok 1 [(0, .slice a_p0 p0.length c_p0), (1, .slice a_p1 p1.length c_p1), (4, .int .i64 0), (5, .int .i64 0), (9, .slice a_p0 p0.length c_p0)] rfl ⟨rfl, rfl, rfl, rfl, rfl, trivial⟩ ?_
  obtain ⟨y_1, hc3, hm⟩ := bind_some hm
  refine WO_call0 (.int .i64 y_1) rfl rfl trivial rfl rfl rfl rfl St_closed ⟨36, #[], #[], rfl, callable_36, fun w hw => ⟨_, hw.sat, seam_Check_walk h_p0 hc3⟩⟩ ?_
  refine WO_pure tbok 1 [(0, .slice a_p0 p0.length c_p0), (1, .slice a_p1 p1.length c_p1), (4, .int .i64 0), (5, .int .i64 0), (6, .int .i64 y_1)] rfl ⟨rfl, rfl, rfl, rfl, rfl, trivial⟩ ?_
  refine WO_end ?_
  refine WK_seq ?_
  refine WK_region ?_
  refine WO_pure tbok 2 [(0, .slice a_p0 p0.length c_p0), (1, .slice a_p1 p1.length c_p1), (4, .int .i64 0), (5, .int .i64 0), (6, .int .i64 y_1), (12, .bool (y_1 != 0))] rfl ⟨rfl, rfl, rfl, rfl, rfl, rfl, trivial⟩ ?_
  refine WO_end ?_
  refine WK_cond (b := y_1 != 0) rfl (fun hb4 => ?_) (fun hb4 => ?_)
  · have hm := ifT hb4 hm
    refine WK_seq ?_
    refine WK_region ?_
    refine WO_pure tbok 3 [(0, .slice a_p0 p0.length c_p0), (1, .slice a_p1 p1.length c_p1), (4, .int .i64 0), (5, .int .i64 y_1)] rfl ⟨rfl, rfl, rfl, rfl, trivial⟩ ?_
    refine WO_end ?_
    cases hm
    exact WK_ret (ret_out (L := []) (RLc_tmp rfl (RLc_tmp rfl RLc_nil)) (List.nil_sublist _) rfl)
  · have hm := ifF hb4 hm
    refine WK_skip ?_
    refine WK_seq ?_
    refine WK_region ?_
    refine WO_pure tbok 2 [(4, .int .i64 0), (5, .int .i64 0), (15, .slice a_p0 p0.length c_p0), (16, .slice a_p1 p1.length c_p1)] rfl ⟨rfl, rfl, rfl, rfl, trivial⟩ ?_
    obtain ⟨⟨y_2, y_3⟩, hc5, hm⟩ := bind_some hm
    refine WO_call0 (.tuple #[.int .i64 y_2, .bool y_3]) rfl rfl trivial rfl rfl rfl rfl St_closed ⟨49, #[], #[], rfl, callable_49, fun w hw => ⟨_, hw.sat, seam_total_walk h_p0 h_p1 hc5⟩⟩ ?_
    refine WO_pure tbok 5 [(4, .int .i64 0), (5, .int .i64 0), (7, .int .i64 y_2), (8, .bool y_3)] rfl ⟨rfl, rfl, rfl, rfl, trivial⟩ ?_
    refine WO_end ?_
    refine WK_seq ?_
    refine WK_seq ?_
    refine WK_region ?_
    refine WO_pure tbok 2 [(4, .int .i64 0), (5, .int .i64 0), (7, .int .i64 y_2), (21, .bool (!y_3))] rfl ⟨rfl, rfl, rfl, rfl, trivial⟩ ?_
    refine WO_end ?_
    refine WK_cond (b := !y_3) rfl (fun hb6 => ?_) (fun hb6 => ?_)
    · have hm := ifT hb6 hm
      refine WK_seq ?_
      refine WK_region ?_
      refine WO_pure tbok 2 [(4, .int .i64 0), (5, .int .i64 11), (7, .int .i64 y_2)] rfl ⟨rfl, rfl, rfl, trivial⟩ ?_
      refine WO_end ?_
      cases hm
      exact WK_ret (ret_out (L := []) (RLc_tmp rfl (RLc_tmp rfl RLc_nil)) (List.nil_sublist _) rfl)
    · have hm := ifF hb6 hm
      refine WK_skip ?_
      refine WK_seq ?_
      refine WK_region ?_
      refine WO_pure tbok 3 [(4, .int .i64 y_2), (5, .int .i64 0)] rfl ⟨rfl, rfl, trivial⟩ ?_
      refine WO_end ?_
      cases hm
      exact WK_ret (ret_out (L := []) (RLc_tmp rfl (RLc_tmp rfl RLc_nil)) (List.nil_sublist _) rfl)
theorem fiducialtop_TopSeams_walk {m : Mu} {p0_0 : Int} {p0_1 : Int} {p0_2 : Int} {p0_3 : List Int} {p1_0 : Int} {p1_1 : Int} {p1_2 : Int} {p1_3 : List Int} {p2_0 : Int} {p2_1 : Int} {a_p0_3 : Option Addr} {q_p0_3 c_p0_3 : Nat} {a_p1_3 : Option Addr} {q_p1_3 c_p1_3 : Nat} (h_p0_3 : SlR (FE (I1 .i64)) 1 m (.slice a_p0_3 q_p0_3 c_p0_3) p0_3) (h_p1_3 : SlR (FE (I1 .i64)) 1 m (.slice a_p1_3 q_p1_3 c_p1_3) p1_3) {r : Bool} (hm : fiducialtop_TopSeams p0_0 p0_1 p0_2 p0_3 p1_0 p1_1 p1_2 p1_3 p2_0 p2_1 = some r) :
    Go.E.Spec Try.prog 4 [.agg #[.int .i64 p0_0, .int .i64 p0_1, .int .i64 p0_2, .slice a_p0_3 q_p0_3 c_p0_3], .agg #[.int .i64 p1_0, .int .i64 p1_1, .int .i64 p1_2, .slice a_p1_3 q_p1_3 c_p1_3], .agg #[.int .u8 p2_0, .int .u8 p2_1]] m (fun v _ _ => v = .bool r) := by
  refine Spec_enter Try.func4 rfl rfl rfl (fun w0 => ?_)
  refine WK.sub (e' := [(0, .agg #[.int .i64 p0_0, .int .i64 p0_1, .int .i64 p0_2, .slice a_p0_3 q_p0_3 c_p0_3]), (1, .agg #[.int .i64 p1_0, .int .i64 p1_1, .int .i64 p1_2, .slice a_p1_3 q_p1_3 c_p1_3]), (2, .agg #[.int .u8 p2_0, .int .u8 p2_1])]) ⟨rfl, rfl, rfl, trivial⟩ ?_
  obtain rfl := SlR.qlen h_p0_3
  obtain rfl := SlR.qlen h_p1_3
  refine WK.sub (e' := [(0, .agg #[.int .i64 p0_0, .int .i64 p0_1, .int .i64 p0_2, .slice a_p0_3 p0_3.length c_p0_3]), (1, .agg #[.int .i64 p1_0, .int .i64 p1_1, .int .i64 p1_2, .slice a_p1_3 p1_3.length c_p1_3]), (2, .agg #[.int .u8 p2_0, .int .u8 p2_1])]) ⟨rfl, rfl, rfl, trivial⟩ ?_
  unfold fiducialtop_TopSeams at hm
  refine WK_seq ?_
  refine WK_region ?_
  refine WO_box [.int .i64 p0_0, .int .i64 p0_1, .int .i64 p0_2, .slice a_p0_3 p0_3.length c_p0_3] rfl rfl trivial rfl rfl rfl (fun b3 => ?_)
  refine WO.cls (C' := St w0 m m [[⟨b3, 24, [.int .i64 p0_0, .int .i64 p0_1, .int .i64 p0_2, .slice a_p0_3 p0_3.length c_p0_3]⟩]]) (fun _ h => h) ?_
  refine WO_box [.int .i64 p1_0, .int .i64 p1_1, .int .i64 p1_2, .slice a_p1_3 p1_3.length c_p1_3] rfl rfl trivial rfl rfl rfl (fun b4 => ?_)
  refine WO.cls (C' := St w0 m m [[⟨b3, 24, [.int .i64 p0_0, .int .i64 p0_1, .int .i64 p0_2, .slice a_p0_3 p0_3.length c_p0_3]⟩], [⟨b4, 24, [.int .i64 p1_0, .int .i64 p1_1, .int .i64 p1_2, .slice a_p1_3 p1_3.length c_p1_3]⟩]]) (fun _ h => h) ?_
  refine WO_box [.int .u8 p2_0, .int .u8 p2_1] rfl rfl trivial rfl rfl rfl (fun b5 => ?_)
  refine WO.cls (C' := St w0 m m [[⟨b3, 24, [.int .i64 p0_0, .int .i64 p0_1, .int .i64 p0_2, .slice a_p0_3 p0_3.length c_p0_3]⟩], [⟨b4, 24, [.int .i64 p1_0, .int .i64 p1_1, .int .i64 p1_2, .slice a_p1_3 p1_3.length c_p1_3]⟩], [⟨b5, 38, [.int .u8 p2_0, .int .u8 p2_1]⟩]]) (fun _ h => h) ?_
  refine WO_pure tbok 1 [(3, .pointer (some ⟨b3, 0, none⟩)), (4, .pointer (some ⟨b4, 0, none⟩)), (5, .pointer (some ⟨b5, 0, none⟩)), (6, .bool false)] rfl ⟨rfl, rfl, rfl, rfl, trivial⟩ ?_
  refine WO_end ?_
  refine WK_seq ?_
  refine WK_seq ?_
  refine WK_region ?_
  obtain ⟨y_1, hc6, hm⟩ := bind_some hm
  refine WO_call0 (.bool y_1) rfl rfl trivial rfl rfl rfl rfl St_closed ⟨11, #[], #[], rfl, callable_11, fun w hw => ⟨_, hw.sat, fiducialtop_bMirrored_walk hc6⟩⟩ ?_
  refine WO_pure tbok 1 [(3, .pointer (some ⟨b3, 0, none⟩)), (4, .pointer (some ⟨b4, 0, none⟩)), (5, .pointer (some ⟨b5, 0, none⟩)), (6, .bool false), (33, .bool (!y_1))] rfl ⟨rfl, rfl, rfl, rfl, rfl, trivial⟩ ?_
  refine WO_end ?_
  refine WK_cond (b := !y_1) rfl (fun hb7 => ?_) (fun hb7 => ?_)
  · have hm := ifT hb7 hm
    refine WK_seq ?_
    refine WK_region ?_
    refine WO_pure tbok 1 [(3, .pointer (some ⟨b3, 0, none⟩)), (4, .pointer (some ⟨b4, 0, none⟩)), (5, .pointer (some ⟨b5, 0, none⟩)), (6, .bool false)] rfl ⟨rfl, rfl, rfl, rfl, trivial⟩ ?_
    refine WO_end ?_
    cases hm
    exact WK_ret (ret_out (L := []) (RLc_tmp rfl RLc_nil) (List.nil_sublist _) rfl)
  · have hm := ifF hb7 hm
    refine WK_skip ?_
    refine WK_seq ?_
    refine WK_seq ?_
    obtain ⟨s_2, hx8, hm⟩ := bind_some hm
    refine WK_meet [(3, .pointer (some ⟨b3, 0, none⟩)), (4, .pointer (some ⟨b4, 0, none⟩)), (5, .pointer (some ⟨b5, 0, none⟩)), (6, .bool false), (49, .bool s_2)] (St w0 m m [[⟨b3, 24, [.int .i64 p0_0, .int .i64 p0_1, .int .i64 p0_2, .slice a_p0_3 p0_3.length c_p0_3]⟩], [⟨b4, 24, [.int .i64 p1_0, .int .i64 p1_1, .int .i64 p1_2, .slice a_p1_3 p1_3.length c_p1_3]⟩], [⟨b5, 38, [.int .u8 p2_0, .int .u8 p2_1]⟩]]) ?_ (fun hk9 => ?_)
    · refine WK_cond (b := s_2) rfl (fun hb10 => ?_) (fun hb10 => ?_)
      · have hm := ifT hb10 hm
        refine WK_seq ?_
        refine WK_region ?_
        refine WO_pure tbok 1 [(3, .pointer (some ⟨b3, 0, none⟩)), (4, .pointer (some ⟨b4, 0, none⟩)), (5, .pointer (some ⟨b5, 0, none⟩)), (6, .bool true)] rfl ⟨rfl, rfl, rfl, rfl, trivial⟩ ?_
        refine WO_end ?_
        cases hm
        exact WK_ret (ret_out (L := []) (RLc_tmp rfl RLc_nil) (List.nil_sublist _) rfl)
      · have hm := ifF hb10 hm
        refine WK_skip ?_
        refine WK_seq ?_
        refine WK_region ?_
        refine WO_loadB tbok 0 rfl rfl rfl rfl (fun _ h => h) rfl rfl ?_
        refine WO_loadB tbok 1 rfl rfl rfl rfl (fun _ h => h) rfl rfl ?_
        obtain ⟨⟨y_3, y_4⟩, hc11, hm⟩ := bind_some hm
        refine WO_call2 (seam_Costs_Q (y_3, y_4)) rfl rfl trivial rfl rfl rfl rfl ⟨12, #[], #[], rfl, callable_12, seam_Costs_walk h_p0_3 h_p1_3 hc11⟩ (fun v16 m17 L15 hle18 hq => ?_)
        obtain ⟨a12, qa12, c13, rfl, h19⟩ := hq
        obtain rfl := SlR.qlen h19
        refine WO.cls (C' := St w0 m m17 [[⟨b3, 24, [.int .i64 p0_0, .int .i64 p0_1, .int .i64 p0_2, .slice a_p0_3 p0_3.length c_p0_3]⟩], [⟨b4, 24, [.int .i64 p1_0, .int .i64 p1_1, .int .i64 p1_2, .slice a_p1_3 p1_3.length c_p1_3]⟩], [⟨b5, 38, [.int .u8 p2_0, .int .u8 p2_1]⟩], L15]) (fun _ h => h.sub (by simp)) ?_
        refine WO_pure tbok 5 [(3, .pointer (some ⟨b3, 0, none⟩)), (4, .pointer (some ⟨b4, 0, none⟩)), (5, .pointer (some ⟨b5, 0, none⟩)), (6, .bool false), (7, .slice a12 ((y_3).length) c13), (8, .int .i64 y_4)] rfl ⟨rfl, rfl, rfl, rfl, rfl, rfl, trivial⟩ ?_
        refine WO_end ?_
        refine WK_seq ?_
        refine WK_seq ?_
        refine WK_region ?_
        refine WO_pure tbok 2 [(3, .pointer (some ⟨b3, 0, none⟩)), (4, .pointer (some ⟨b4, 0, none⟩)), (5, .pointer (some ⟨b5, 0, none⟩)), (6, .bool false), (7, .slice a12 ((y_3).length) c13), (8, .int .i64 y_4), (57, .bool (y_4 != 0))] rfl ⟨rfl, rfl, rfl, rfl, rfl, rfl, rfl, trivial⟩ ?_
        refine WO_end ?_
        refine WK_cond (b := y_4 != 0) rfl (fun hb20 => ?_) (fun hb20 => ?_)
        · have hm := ifT hb20 hm
          refine WK_seq ?_
          refine WK_region ?_
          refine WO_pure tbok 3 [(3, .pointer (some ⟨b3, 0, none⟩)), (4, .pointer (some ⟨b4, 0, none⟩)), (5, .pointer (some ⟨b5, 0, none⟩)), (6, .bool (y_4 == 4)), (7, .slice a12 ((y_3).length) c13)] rfl ⟨rfl, rfl, rfl, rfl, rfl, trivial⟩ ?_
          refine WO_end ?_
          cases hm
          exact WK_ret (ret_out (L := []) (RLc_tmp rfl RLc_nil) (List.nil_sublist _) rfl)
        · have hm := ifF hb20 hm
          refine WK_skip ?_
          refine WK_seq ?_
          refine WK_region ?_
          refine WO_pure tbok 1 [(3, .pointer (some ⟨b3, 0, none⟩)), (4, .pointer (some ⟨b4, 0, none⟩)), (5, .pointer (some ⟨b5, 0, none⟩)), (6, .bool false), (8, .int .i64 y_4), (61, .slice a12 ((y_3).length) c13)] rfl ⟨rfl, rfl, rfl, rfl, rfl, rfl, trivial⟩ ?_
          obtain ⟨⟨y_5, y_6, y_7, y_8⟩, hc21, hm⟩ := bind_some hm
          refine WO_call2 (seam_Find_Q (y_5, y_6, y_7, y_8)) rfl rfl trivial rfl rfl rfl rfl ⟨13, #[], #[], rfl, callable_13, seam_Find_walk h19 hc21⟩ (fun v29 m30 L28 hle31 hq => ?_)
          obtain ⟨a22, qa22, c23, a25, qa25, c26, rfl, h32, h33⟩ := hq
          obtain rfl := SlR.qlen h32
          obtain rfl := SlR.qlen h33
          refine WO.cls (C' := St w0 m m30 [[⟨b3, 24, [.int .i64 p0_0, .int .i64 p0_1, .int .i64 p0_2, .slice a_p0_3 p0_3.length c_p0_3]⟩], [⟨b4, 24, [.int .i64 p1_0, .int .i64 p1_1, .int .i64 p1_2, .slice a_p1_3 p1_3.length c_p1_3]⟩], [⟨b5, 38, [.int .u8 p2_0, .int .u8 p2_1]⟩], L15, L28]) (fun _ h => h.sub (by simp)) ?_
          refine WO_pure tbok 3 [(3, .pointer (some ⟨b3, 0, none⟩)), (4, .pointer (some ⟨b4, 0, none⟩)), (5, .pointer (some ⟨b5, 0, none⟩)), (6, .bool false), (8, .int .i64 y_4), (63, .agg #[.slice a22 ((y_5).length) c23, .int .i64 y_6, .slice a25 ((y_7).length) c26]), (64, .int .i64 y_8)] rfl ⟨rfl, rfl, rfl, rfl, rfl, rfl, rfl, trivial⟩ ?_
          refine WO_alloc tbok [.slice none 0 0, .int .i64 0, .slice none 0 0] rfl rfl trivial rfl rfl rfl rfl (fun b34 => ?_)
          refine WO.cls (C' := St w0 m m30 [[⟨b3, 24, [.int .i64 p0_0, .int .i64 p0_1, .int .i64 p0_2, .slice a_p0_3 p0_3.length c_p0_3]⟩], [⟨b4, 24, [.int .i64 p1_0, .int .i64 p1_1, .int .i64 p1_2, .slice a_p1_3 p1_3.length c_p1_3]⟩], [⟨b5, 38, [.int .u8 p2_0, .int .u8 p2_1]⟩], L15, L28, [⟨b34, 43, [.slice none 0 0, .int .i64 0, .slice none 0 0]⟩]]) (fun _ h => h) ?_
          refine WO_storeB tbok 5 [.slice a22 ((y_5).length) c23, .int .i64 y_6, .slice a25 ((y_7).length) c26] rfl rfl rfl rfl rfl rfl rfl ?_
          refine WO.cls (C' := St w0 m m30 [[⟨b3, 24, [.int .i64 p0_0, .int .i64 p0_1, .int .i64 p0_2, .slice a_p0_3 p0_3.length c_p0_3]⟩], [⟨b4, 24, [.int .i64 p1_0, .int .i64 p1_1, .int .i64 p1_2, .slice a_p1_3 p1_3.length c_p1_3]⟩], [⟨b5, 38, [.int .u8 p2_0, .int .u8 p2_1]⟩], L15, L28, [⟨b34, 43, [.slice a22 ((y_5).length) c23, .int .i64 y_6, .slice a25 ((y_7).length) c26]⟩]]) (fun _ h => h) ?_
          refine WO_pure tbok 1 [(3, .pointer (some ⟨b3, 0, none⟩)), (4, .pointer (some ⟨b4, 0, none⟩)), (5, .pointer (some ⟨b5, 0, none⟩)), (6, .bool false), (8, .int .i64 y_8), (9, .pointer (some ⟨b34, 0, none⟩))] rfl ⟨rfl, rfl, rfl, rfl, rfl, rfl, trivial⟩ ?_
          refine WO_end ?_
          refine WK_seq ?_
          refine WK_seq ?_
          obtain ⟨s_9, hx35, hm⟩ := bind_some hm
          refine WK_meet [(3, .pointer (some ⟨b3, 0, none⟩)), (4, .pointer (some ⟨b4, 0, none⟩)), (5, .pointer (some ⟨b5, 0, none⟩)), (6, .bool false), (9, .pointer (some ⟨b34, 0, none⟩)), (74, .bool s_9)] (St w0 m m30 [[⟨b3, 24, [.int .i64 p0_0, .int .i64 p0_1, .int .i64 p0_2, .slice a_p0_3 p0_3.length c_p0_3]⟩], [⟨b4, 24, [.int .i64 p1_0, .int .i64 p1_1, .int .i64 p1_2, .slice a_p1_3 p1_3.length c_p1_3]⟩], [⟨b5, 38, [.int .u8 p2_0, .int .u8 p2_1]⟩], L15, L28, [⟨b34, 43, [.slice a22 ((y_5).length) c23, .int .i64 y_6, .slice a25 ((y_7).length) c26]⟩]]) ?_ (fun hk36 => ?_)
          · refine WK_cond (b := s_9) rfl (fun hb37 => ?_) (fun hb37 => ?_)
            · have hm := ifT hb37 hm
              refine WK_seq ?_
              refine WK_region ?_
              refine WO_pure tbok 1 [(3, .pointer (some ⟨b3, 0, none⟩)), (4, .pointer (some ⟨b4, 0, none⟩)), (5, .pointer (some ⟨b5, 0, none⟩)), (6, .bool false), (9, .pointer (some ⟨b34, 0, none⟩))] rfl ⟨rfl, rfl, rfl, rfl, rfl, trivial⟩ ?_
              refine WO_end ?_
              cases hm
              exact WK_ret (ret_out (L := []) (RLc_tmp rfl RLc_nil) (List.nil_sublist _) rfl)
            · have hm := ifF hb37 hm
              refine WK_skip ?_
              refine WK_seq ?_
              refine WK_region ?_
              refine WO_loadB tbok 0 rfl rfl rfl rfl (fun _ h => h) rfl rfl ?_
              refine WO_loadB tbok 1 rfl rfl rfl rfl (fun _ h => h) rfl rfl ?_
              refine WO_pure tbok 1 [(3, .pointer (some ⟨b3, 0, none⟩)), (4, .pointer (some ⟨b4, 0, none⟩)), (5, .pointer (some ⟨b5, 0, none⟩)), (6, .bool false), (9, .pointer (some ⟨b34, 0, none⟩)), (76, .agg #[.int .i64 p0_0, .int .i64 p0_1, .int .i64 p0_2, .slice a_p0_3 p0_3.length c_p0_3]), (77, .agg #[.int .i64 p1_0, .int .i64 p1_1, .int .i64 p1_2, .slice a_p1_3 p1_3.length c_p1_3]), (78, .pointer (some ⟨b34, 0, none⟩))] rfl ⟨rfl, rfl, rfl, rfl, rfl, rfl, rfl, rfl, trivial⟩ ?_
              refine WO_loadB tbok 5 rfl rfl rfl rfl (fun _ h => h) rfl rfl ?_
              obtain ⟨⟨y_10, y_11, y_12, y_13, y_14⟩, hc38, hm⟩ := bind_some hm
              refine WO_call1 (seam_Mosaic_Q (y_10, y_11, y_12, y_13, y_14)) rfl rfl trivial rfl rfl rfl rfl ⟨14, #[], #[], rfl, callable_14, fun w hw => ⟨_, hw.sat, seam_Mosaic_walk ((h_p0_3.mono (mono_FE _) hle18).mono (mono_FE _) hle31) ((h_p1_3.mono (mono_FE _) hle18).mono (mono_FE _) hle31) h32 hc38⟩⟩ (fun v43 L42 hq => ?_)
              obtain ⟨a39, qa39, c40, rfl, hL42⟩ := hq
              obtain rfl := OwnE.qlen hL42
              refine WO.cls (C' := St w0 m m30 [[⟨b3, 24, [.int .i64 p0_0, .int .i64 p0_1, .int .i64 p0_2, .slice a_p0_3 p0_3.length c_p0_3]⟩], [⟨b4, 24, [.int .i64 p1_0, .int .i64 p1_1, .int .i64 p1_2, .slice a_p1_3 p1_3.length c_p1_3]⟩], [⟨b5, 38, [.int .u8 p2_0, .int .u8 p2_1]⟩], L15, L28, [⟨b34, 43, [.slice a22 ((y_5).length) c23, .int .i64 y_6, .slice a25 ((y_7).length) c26]⟩], L42]) (fun _ h => h) ?_
              refine WO_pure tbok 3 [(3, .pointer (some ⟨b3, 0, none⟩)), (4, .pointer (some ⟨b4, 0, none⟩)), (5, .pointer (some ⟨b5, 0, none⟩)), (6, .bool false), (9, .pointer (some ⟨b34, 0, none⟩)), (81, .agg #[.int .i64 y_10, .int .i64 y_11, .int .i64 y_12, .slice a39 ((y_13).length) c40]), (82, .int .i64 y_14)] rfl ⟨rfl, rfl, rfl, rfl, rfl, rfl, rfl, trivial⟩ ?_
              refine WO_alloc tbok [.int .i64 0, .int .i64 0, .int .i64 0, .slice none 0 0] rfl rfl trivial rfl rfl rfl rfl (fun b44 => ?_)
              refine WO.cls (C' := St w0 m m30 [[⟨b3, 24, [.int .i64 p0_0, .int .i64 p0_1, .int .i64 p0_2, .slice a_p0_3 p0_3.length c_p0_3]⟩], [⟨b4, 24, [.int .i64 p1_0, .int .i64 p1_1, .int .i64 p1_2, .slice a_p1_3 p1_3.length c_p1_3]⟩], [⟨b5, 38, [.int .u8 p2_0, .int .u8 p2_1]⟩], L15, L28, [⟨b34, 43, [.slice a22 ((y_5).length) c23, .int .i64 y_6, .slice a25 ((y_7).length) c26]⟩], L42, [⟨b44, 24, [.int .i64 0, .int .i64 0, .int .i64 0, .slice none 0 0]⟩]]) (fun _ h => h) ?_
              refine WO_storeB tbok 7 [.int .i64 y_10, .int .i64 y_11, .int .i64 y_12, .slice a39 ((y_13).length) c40] rfl rfl rfl rfl rfl rfl rfl ?_
              refine WO.cls (C' := St w0 m m30 [[⟨b3, 24, [.int .i64 p0_0, .int .i64 p0_1, .int .i64 p0_2, .slice a_p0_3 p0_3.length c_p0_3]⟩], [⟨b4, 24, [.int .i64 p1_0, .int .i64 p1_1, .int .i64 p1_2, .slice a_p1_3 p1_3.length c_p1_3]⟩], [⟨b5, 38, [.int .u8 p2_0, .int .u8 p2_1]⟩], L15, L28, [⟨b34, 43, [.slice a22 ((y_5).length) c23, .int .i64 y_6, .slice a25 ((y_7).length) c26]⟩], L42, [⟨b44, 24, [.int .i64 y_10, .int .i64 y_11, .int .i64 y_12, .slice a39 ((y_13).length) c40]⟩]]) (fun _ h => h) ?_
              refine WO_pure tbok 1 [(3, .pointer (some ⟨b3, 0, none⟩)), (4, .pointer (some ⟨b4, 0, none⟩)), (5, .pointer (some ⟨b5, 0, none⟩)), (6, .bool false), (8, .int .i64 y_14), (9, .pointer (some ⟨b34, 0, none⟩)), (10, .pointer (some ⟨b44, 0, none⟩))] rfl ⟨rfl, rfl, rfl, rfl, rfl, rfl, rfl, trivial⟩ ?_
              refine WO_end ?_
              refine WK_seq ?_
              refine WK_seq ?_
              obtain ⟨s_15, hx45, hm⟩ := bind_some hm
              refine WK_meet [(3, .pointer (some ⟨b3, 0, none⟩)), (4, .pointer (some ⟨b4, 0, none⟩)), (5, .pointer (some ⟨b5, 0, none⟩)), (6, .bool false), (9, .pointer (some ⟨b34, 0, none⟩)), (10, .pointer (some ⟨b44, 0, none⟩)), (98, .bool s_15)] (St w0 m m30 [[⟨b3, 24, [.int .i64 p0_0, .int .i64 p0_1, .int .i64 p0_2, .slice a_p0_3 p0_3.length c_p0_3]⟩], [⟨b4, 24, [.int .i64 p1_0, .int .i64 p1_1, .int .i64 p1_2, .slice a_p1_3 p1_3.length c_p1_3]⟩], [⟨b5, 38, [.int .u8 p2_0, .int .u8 p2_1]⟩], L15, L28, [⟨b34, 43, [.slice a22 ((y_5).length) c23, .int .i64 y_6, .slice a25 ((y_7).length) c26]⟩], L42, [⟨b44, 24, [.int .i64 y_10, .int .i64 y_11, .int .i64 y_12, .slice a39 ((y_13).length) c40]⟩]]) ?_ (fun hk46 => ?_)
              · refine WK_cond (b := s_15) rfl (fun hb47 => ?_) (fun hb47 => ?_)
                · have hm := ifT hb47 hm
                  refine WK_seq ?_
                  refine WK_region ?_
                  refine WO_pure tbok 1 [(3, .pointer (some ⟨b3, 0, none⟩)), (4, .pointer (some ⟨b4, 0, none⟩)), (5, .pointer (some ⟨b5, 0, none⟩)), (6, .bool false), (9, .pointer (some ⟨b34, 0, none⟩)), (10, .pointer (some ⟨b44, 0, none⟩))] rfl ⟨rfl, rfl, rfl, rfl, rfl, rfl, trivial⟩ ?_
                  refine WO_end ?_
                  cases hm
                  exact WK_ret (ret_out (L := []) (RLc_tmp rfl RLc_nil) (List.nil_sublist _) rfl)
                · have hm := ifF hb47 hm
                  refine WK_skip ?_
                  refine WK_seq ?_
                  refine WK_seq ?_
                  refine WK_region ?_
                  refine WO_pure tbok 1 [(3, .pointer (some ⟨b3, 0, none⟩)), (4, .pointer (some ⟨b4, 0, none⟩)), (5, .pointer (some ⟨b5, 0, none⟩)), (6, .bool false), (9, .pointer (some ⟨b34, 0, none⟩)), (10, .pointer (some ⟨b44, 0, none⟩)), (99, .pointer (some ⟨b3, 3, none⟩))] rfl ⟨rfl, rfl, rfl, rfl, rfl, rfl, rfl, trivial⟩ ?_
                  refine WO_loadB tbok 0 rfl rfl rfl rfl (fun _ h => h) rfl rfl ?_
                  refine WO_pure tbok 2 [(3, .pointer (some ⟨b3, 0, none⟩)), (4, .pointer (some ⟨b4, 0, none⟩)), (5, .pointer (some ⟨b5, 0, none⟩)), (6, .bool false), (9, .pointer (some ⟨b34, 0, none⟩)), (10, .pointer (some ⟨b44, 0, none⟩)), (100, .slice a_p0_3 p0_3.length c_p0_3), (101, .int .i64 (p0_3.length : Int)), (102, .int .i64 0)] rfl ⟨rfl, rfl, rfl, rfl, rfl, rfl, rfl, rfl, rfl, trivial⟩ ?_
                  refine WO_end ?_
                  obtain ⟨x48, hx49, hm⟩ := bind_some hm
                  refine WK_join (β := Unit × Unit) (fun p => Sum.inr p.1 = x48) (fun p => [(3, .pointer (some ⟨b3, 0, none⟩)), (4, .pointer (some ⟨b4, 0, none⟩)), (5, .pointer (some ⟨b5, 0, none⟩)), (6, .bool false), (9, .pointer (some ⟨b34, 0, none⟩)), (10, .pointer (some ⟨b44, 0, none⟩))]) (fun p => St w0 m m30 [[⟨b3, 24, [.int .i64 p0_0, .int .i64 p0_1, .int .i64 p0_2, .slice a_p0_3 p0_3.length c_p0_3]⟩], [⟨b4, 24, [.int .i64 p1_0, .int .i64 p1_1, .int .i64 p1_2, .slice a_p1_3 p1_3.length c_p1_3]⟩], [⟨b5, 38, [.int .u8 p2_0, .int .u8 p2_1]⟩], L15, L28, [⟨b34, 43, [.slice a22 ((y_5).length) c23, .int .i64 y_6, .slice a25 ((y_7).length) c26]⟩], L42, [⟨b44, 24, [.int .i64 y_10, .int .i64 y_11, .int .i64 y_12, .slice a39 ((y_13).length) c40]⟩]]) ?_ (fun hk50 => ?_)
                  · rintro ⟨⟨⟩, ⟨⟩⟩ hq56
                    subst hq56
                    refine WK.sub (e' := [(3, .pointer (some ⟨b3, 0, none⟩)), (4, .pointer (some ⟨b4, 0, none⟩)), (5, .pointer (some ⟨b5, 0, none⟩)), (6, .bool false), (9, .pointer (some ⟨b34, 0, none⟩)), (10, .pointer (some ⟨b44, 0, none⟩))]) ⟨rfl, rfl, rfl, rfl, rfl, rfl, trivial⟩ (WK.cls (C' := St w0 m m30 [[⟨b3, 24, [.int .i64 p0_0, .int .i64 p0_1, .int .i64 p0_2, .slice a_p0_3 p0_3.length c_p0_3]⟩], [⟨b4, 24, [.int .i64 p1_0, .int .i64 p1_1, .int .i64 p1_2, .slice a_p1_3 p1_3.length c_p1_3]⟩], [⟨b5, 38, [.int .u8 p2_0, .int .u8 p2_1]⟩], L15, L28, [⟨b34, 43, [.slice a22 ((y_5).length) c23, .int .i64 y_6, .slice a25 ((y_7).length) c26]⟩], L42, [⟨b44, 24, [.int .i64 y_10, .int .i64 y_11, .int .i64 y_12, .slice a39 ((y_13).length) c40]⟩]]) (fun _ h => h) ?_)
                    refine WK_seq ?_
                    refine WK_region ?_
                    refine WO_loadB tbok 0 rfl rfl rfl rfl (fun _ h => h) rfl rfl ?_
                    obtain ⟨⟨y_17, y_18, y_19, y_20, y_21⟩, hc57, hm⟩ := bind_some hm
                    refine WO_call1 (raster_Mirror_Q (y_17, y_18, y_19, y_20, y_21)) rfl rfl trivial rfl rfl rfl rfl ⟨15, #[], #[], rfl, callable_15, fun w hw => ⟨_, hw.sat, raster_Mirror_walk ((h_p0_3.mono (mono_FE _) hle18).mono (mono_FE _) hle31) hc57⟩⟩ (fun v62 L61 hq => ?_)
                    obtain ⟨a58, qa58, c59, rfl, hL61⟩ := hq
                    obtain rfl := OwnE.qlen hL61
                    refine WO.cls (C' := St w0 m m30 [[⟨b3, 24, [.int .i64 p0_0, .int .i64 p0_1, .int .i64 p0_2, .slice a_p0_3 p0_3.length c_p0_3]⟩], [⟨b4, 24, [.int .i64 p1_0, .int .i64 p1_1, .int .i64 p1_2, .slice a_p1_3 p1_3.length c_p1_3]⟩], [⟨b5, 38, [.int .u8 p2_0, .int .u8 p2_1]⟩], L15, L28, [⟨b34, 43, [.slice a22 ((y_5).length) c23, .int .i64 y_6, .slice a25 ((y_7).length) c26]⟩], L42, [⟨b44, 24, [.int .i64 y_10, .int .i64 y_11, .int .i64 y_12, .slice a39 ((y_13).length) c40]⟩], L61]) (fun _ h => h) ?_
                    refine WO_pure tbok 3 [(3, .pointer (some ⟨b3, 0, none⟩)), (4, .pointer (some ⟨b4, 0, none⟩)), (5, .pointer (some ⟨b5, 0, none⟩)), (6, .bool false), (9, .pointer (some ⟨b34, 0, none⟩)), (10, .pointer (some ⟨b44, 0, none⟩)), (128, .agg #[.int .i64 y_17, .int .i64 y_18, .int .i64 y_19, .slice a58 ((y_20).length) c59]), (129, .int .i64 y_21)] rfl ⟨rfl, rfl, rfl, rfl, rfl, rfl, rfl, rfl, trivial⟩ ?_
                    refine WO_alloc tbok [.int .i64 0, .int .i64 0, .int .i64 0, .slice none 0 0] rfl rfl trivial rfl rfl rfl rfl (fun b63 => ?_)
                    refine WO.cls (C' := St w0 m m30 [[⟨b3, 24, [.int .i64 p0_0, .int .i64 p0_1, .int .i64 p0_2, .slice a_p0_3 p0_3.length c_p0_3]⟩], [⟨b4, 24, [.int .i64 p1_0, .int .i64 p1_1, .int .i64 p1_2, .slice a_p1_3 p1_3.length c_p1_3]⟩], [⟨b5, 38, [.int .u8 p2_0, .int .u8 p2_1]⟩], L15, L28, [⟨b34, 43, [.slice a22 ((y_5).length) c23, .int .i64 y_6, .slice a25 ((y_7).length) c26]⟩], L42, [⟨b44, 24, [.int .i64 y_10, .int .i64 y_11, .int .i64 y_12, .slice a39 ((y_13).length) c40]⟩], L61, [⟨b63, 24, [.int .i64 0, .int .i64 0, .int .i64 0, .slice none 0 0]⟩]]) (fun _ h => h) ?_
                    refine WO_storeB tbok 9 [.int .i64 y_17, .int .i64 y_18, .int .i64 y_19, .slice a58 ((y_20).length) c59] rfl rfl rfl rfl rfl rfl rfl ?_
                    refine WO.cls (C' := St w0 m m30 [[⟨b3, 24, [.int .i64 p0_0, .int .i64 p0_1, .int .i64 p0_2, .slice a_p0_3 p0_3.length c_p0_3]⟩], [⟨b4, 24, [.int .i64 p1_0, .int .i64 p1_1, .int .i64 p1_2, .slice a_p1_3 p1_3.length c_p1_3]⟩], [⟨b5, 38, [.int .u8 p2_0, .int .u8 p2_1]⟩], L15, L28, [⟨b34, 43, [.slice a22 ((y_5).length) c23, .int .i64 y_6, .slice a25 ((y_7).length) c26]⟩], L42, [⟨b44, 24, [.int .i64 y_10, .int .i64 y_11, .int .i64 y_12, .slice a39 ((y_13).length) c40]⟩], L61, [⟨b63, 24, [.int .i64 y_17, .int .i64 y_18, .int .i64 y_19, .slice a58 ((y_20).length) c59]⟩]]) (fun _ h => h) ?_
                    refine WO_pure tbok 1 [(3, .pointer (some ⟨b3, 0, none⟩)), (4, .pointer (some ⟨b4, 0, none⟩)), (5, .pointer (some ⟨b5, 0, none⟩)), (6, .bool false), (8, .int .i64 y_21), (9, .pointer (some ⟨b34, 0, none⟩)), (10, .pointer (some ⟨b44, 0, none⟩)), (14, .pointer (some ⟨b63, 0, none⟩))] rfl ⟨rfl, rfl, rfl, rfl, rfl, rfl, rfl, rfl, trivial⟩ ?_
                    refine WO_end ?_
                    refine WK_seq ?_
                    refine WK_region ?_
                    refine WO_loadB tbok 1 rfl rfl rfl rfl (fun _ h => h) rfl rfl ?_
                    obtain ⟨⟨y_22, y_23, y_24, y_25, y_26⟩, hc64, hm⟩ := bind_some hm
                    refine WO_call1 (raster_Mirror_Q (y_22, y_23, y_24, y_25, y_26)) rfl rfl trivial rfl rfl rfl rfl ⟨15, #[], #[], rfl, callable_15, fun w hw => ⟨_, hw.sat, raster_Mirror_walk ((h_p1_3.mono (mono_FE _) hle18).mono (mono_FE _) hle31) hc64⟩⟩ (fun v69 L68 hq => ?_)
                    obtain ⟨a65, qa65, c66, rfl, hL68⟩ := hq
                    obtain rfl := OwnE.qlen hL68
                    refine WO.cls (C' := St w0 m m30 [[⟨b3, 24, [.int .i64 p0_0, .int .i64 p0_1, .int .i64 p0_2, .slice a_p0_3 p0_3.length c_p0_3]⟩], [⟨b4, 24, [.int .i64 p1_0, .int .i64 p1_1, .int .i64 p1_2, .slice a_p1_3 p1_3.length c_p1_3]⟩], [⟨b5, 38, [.int .u8 p2_0, .int .u8 p2_1]⟩], L15, L28, [⟨b34, 43, [.slice a22 ((y_5).length) c23, .int .i64 y_6, .slice a25 ((y_7).length) c26]⟩], L42, [⟨b44, 24, [.int .i64 y_10, .int .i64 y_11, .int .i64 y_12, .slice a39 ((y_13).length) c40]⟩], L61, [⟨b63, 24, [.int .i64 y_17, .int .i64 y_18, .int .i64 y_19, .slice a58 ((y_20).length) c59]⟩], L68]) (fun _ h => h) ?_
                    refine WO_pure tbok 3 [(3, .pointer (some ⟨b3, 0, none⟩)), (4, .pointer (some ⟨b4, 0, none⟩)), (5, .pointer (some ⟨b5, 0, none⟩)), (6, .bool false), (8, .int .i64 y_21), (9, .pointer (some ⟨b34, 0, none⟩)), (10, .pointer (some ⟨b44, 0, none⟩)), (14, .pointer (some ⟨b63, 0, none⟩)), (133, .agg #[.int .i64 y_22, .int .i64 y_23, .int .i64 y_24, .slice a65 ((y_25).length) c66]), (134, .int .i64 y_26)] rfl ⟨rfl, rfl, rfl, rfl, rfl, rfl, rfl, rfl, rfl, rfl, trivial⟩ ?_
                    refine WO_alloc tbok [.int .i64 0, .int .i64 0, .int .i64 0, .slice none 0 0] rfl rfl trivial rfl rfl rfl rfl (fun b70 => ?_)
                    refine WO.cls (C' := St w0 m m30 [[⟨b3, 24, [.int .i64 p0_0, .int .i64 p0_1, .int .i64 p0_2, .slice a_p0_3 p0_3.length c_p0_3]⟩], [⟨b4, 24, [.int .i64 p1_0, .int .i64 p1_1, .int .i64 p1_2, .slice a_p1_3 p1_3.length c_p1_3]⟩], [⟨b5, 38, [.int .u8 p2_0, .int .u8 p2_1]⟩], L15, L28, [⟨b34, 43, [.slice a22 ((y_5).length) c23, .int .i64 y_6, .slice a25 ((y_7).length) c26]⟩], L42, [⟨b44, 24, [.int .i64 y_10, .int .i64 y_11, .int .i64 y_12, .slice a39 ((y_13).length) c40]⟩], L61, [⟨b63, 24, [.int .i64 y_17, .int .i64 y_18, .int .i64 y_19, .slice a58 ((y_20).length) c59]⟩], L68, [⟨b70, 24, [.int .i64 0, .int .i64 0, .int .i64 0, .slice none 0 0]⟩]]) (fun _ h => h) ?_
                    refine WO_storeB tbok 11 [.int .i64 y_22, .int .i64 y_23, .int .i64 y_24, .slice a65 ((y_25).length) c66] rfl rfl rfl rfl rfl rfl rfl ?_
                    refine WO.cls (C' := St w0 m m30 [[⟨b3, 24, [.int .i64 p0_0, .int .i64 p0_1, .int .i64 p0_2, .slice a_p0_3 p0_3.length c_p0_3]⟩], [⟨b4, 24, [.int .i64 p1_0, .int .i64 p1_1, .int .i64 p1_2, .slice a_p1_3 p1_3.length c_p1_3]⟩], [⟨b5, 38, [.int .u8 p2_0, .int .u8 p2_1]⟩], L15, L28, [⟨b34, 43, [.slice a22 ((y_5).length) c23, .int .i64 y_6, .slice a25 ((y_7).length) c26]⟩], L42, [⟨b44, 24, [.int .i64 y_10, .int .i64 y_11, .int .i64 y_12, .slice a39 ((y_13).length) c40]⟩], L61, [⟨b63, 24, [.int .i64 y_17, .int .i64 y_18, .int .i64 y_19, .slice a58 ((y_20).length) c59]⟩], L68, [⟨b70, 24, [.int .i64 y_22, .int .i64 y_23, .int .i64 y_24, .slice a65 ((y_25).length) c66]⟩]]) (fun _ h => h) ?_
                    refine WO_pure tbok 1 [(3, .pointer (some ⟨b3, 0, none⟩)), (4, .pointer (some ⟨b4, 0, none⟩)), (5, .pointer (some ⟨b5, 0, none⟩)), (6, .bool false), (8, .int .i64 y_21), (9, .pointer (some ⟨b34, 0, none⟩)), (10, .pointer (some ⟨b44, 0, none⟩)), (14, .pointer (some ⟨b63, 0, none⟩)), (15, .pointer (some ⟨b70, 0, none⟩)), (16, .int .i64 y_26)] rfl ⟨rfl, rfl, rfl, rfl, rfl, rfl, rfl, rfl, rfl, rfl, trivial⟩ ?_
                    refine WO_end ?_
                    refine WK_seq ?_
                    refine WK_region ?_
                    refine WO_loadB tbok 7 rfl rfl rfl rfl (fun _ h => h) rfl rfl ?_
                    obtain ⟨⟨y_27, y_28, y_29, y_30, y_31⟩, hc71, hm⟩ := bind_some hm
                    refine WO_call1 (raster_Mirror_Q (y_27, y_28, y_29, y_30, y_31)) rfl rfl trivial rfl rfl rfl rfl ⟨15, #[], #[], rfl, callable_15, fun w hw => ⟨_, hw.satV, raster_Mirror_walk (OwnE.rd (E := (I1 .i64)) (k := 1) (fun _ => rfl) hL42 (fun _ hx => hw.memV (i := 6) rfl hx)) hc71⟩⟩ (fun v76 L75 hq => ?_)
                    obtain ⟨a72, qa72, c73, rfl, hL75⟩ := hq
                    obtain rfl := OwnE.qlen hL75
                    refine WO.cls (C' := St w0 m m30 [[⟨b3, 24, [.int .i64 p0_0, .int .i64 p0_1, .int .i64 p0_2, .slice a_p0_3 p0_3.length c_p0_3]⟩], [⟨b4, 24, [.int .i64 p1_0, .int .i64 p1_1, .int .i64 p1_2, .slice a_p1_3 p1_3.length c_p1_3]⟩], [⟨b5, 38, [.int .u8 p2_0, .int .u8 p2_1]⟩], L15, L28, [⟨b34, 43, [.slice a22 ((y_5).length) c23, .int .i64 y_6, .slice a25 ((y_7).length) c26]⟩], L42, [⟨b44, 24, [.int .i64 y_10, .int .i64 y_11, .int .i64 y_12, .slice a39 ((y_13).length) c40]⟩], L61, [⟨b63, 24, [.int .i64 y_17, .int .i64 y_18, .int .i64 y_19, .slice a58 ((y_20).length) c59]⟩], L68, [⟨b70, 24, [.int .i64 y_22, .int .i64 y_23, .int .i64 y_24, .slice a65 ((y_25).length) c66]⟩], L75]) (fun _ h => h) ?_
                    refine WO_pure tbok 3 [(3, .pointer (some ⟨b3, 0, none⟩)), (4, .pointer (some ⟨b4, 0, none⟩)), (5, .pointer (some ⟨b5, 0, none⟩)), (6, .bool false), (8, .int .i64 y_21), (9, .pointer (some ⟨b34, 0, none⟩)), (14, .pointer (some ⟨b63, 0, none⟩)), (15, .pointer (some ⟨b70, 0, none⟩)), (16, .int .i64 y_26), (138, .agg #[.int .i64 y_27, .int .i64 y_28, .int .i64 y_29, .slice a72 ((y_30).length) c73]), (139, .int .i64 y_31)] rfl ⟨rfl, rfl, rfl, rfl, rfl, rfl, rfl, rfl, rfl, rfl, rfl, trivial⟩ ?_
                    refine WO_alloc tbok [.int .i64 0, .int .i64 0, .int .i64 0, .slice none 0 0] rfl rfl trivial rfl rfl rfl rfl (fun b77 => ?_)
                    refine WO.cls (C' := St w0 m m30 [[⟨b3, 24, [.int .i64 p0_0, .int .i64 p0_1, .int .i64 p0_2, .slice a_p0_3 p0_3.length c_p0_3]⟩], [⟨b4, 24, [.int .i64 p1_0, .int .i64 p1_1, .int .i64 p1_2, .slice a_p1_3 p1_3.length c_p1_3]⟩], [⟨b5, 38, [.int .u8 p2_0, .int .u8 p2_1]⟩], L15, L28, [⟨b34, 43, [.slice a22 ((y_5).length) c23, .int .i64 y_6, .slice a25 ((y_7).length) c26]⟩], L42, [⟨b44, 24, [.int .i64 y_10, .int .i64 y_11, .int .i64 y_12, .slice a39 ((y_13).length) c40]⟩], L61, [⟨b63, 24, [.int .i64 y_17, .int .i64 y_18, .int .i64 y_19, .slice a58 ((y_20).length) c59]⟩], L68, [⟨b70, 24, [.int .i64 y_22, .int .i64 y_23, .int .i64 y_24, .slice a65 ((y_25).length) c66]⟩], L75, [⟨b77, 24, [.int .i64 0, .int .i64 0, .int .i64 0, .slice none 0 0]⟩]]) (fun _ h => h) ?_
                    refine WO_storeB tbok 13 [.int .i64 y_27, .int .i64 y_28, .int .i64 y_29, .slice a72 ((y_30).length) c73] rfl rfl rfl rfl rfl rfl rfl ?_
                    refine WO.cls (C' := St w0 m m30 [[⟨b3, 24, [.int .i64 p0_0, .int .i64 p0_1, .int .i64 p0_2, .slice a_p0_3 p0_3.length c_p0_3]⟩], [⟨b4, 24, [.int .i64 p1_0, .int .i64 p1_1, .int .i64 p1_2, .slice a_p1_3 p1_3.length c_p1_3]⟩], [⟨b5, 38, [.int .u8 p2_0, .int .u8 p2_1]⟩], L15, L28, [⟨b34, 43, [.slice a22 ((y_5).length) c23, .int .i64 y_6, .slice a25 ((y_7).length) c26]⟩], L42, [⟨b44, 24, [.int .i64 y_10, .int .i64 y_11, .int .i64 y_12, .slice a39 ((y_13).length) c40]⟩], L61, [⟨b63, 24, [.int .i64 y_17, .int .i64 y_18, .int .i64 y_19, .slice a58 ((y_20).length) c59]⟩], L68, [⟨b70, 24, [.int .i64 y_22, .int .i64 y_23, .int .i64 y_24, .slice a65 ((y_25).length) c66]⟩], L75, [⟨b77, 24, [.int .i64 y_27, .int .i64 y_28, .int .i64 y_29, .slice a72 ((y_30).length) c73]⟩]]) (fun _ h => h) ?_
                    refine WO_pure tbok 1 [(3, .pointer (some ⟨b3, 0, none⟩)), (4, .pointer (some ⟨b4, 0, none⟩)), (5, .pointer (some ⟨b5, 0, none⟩)), (6, .bool false), (8, .int .i64 y_21), (9, .pointer (some ⟨b34, 0, none⟩)), (14, .pointer (some ⟨b63, 0, none⟩)), (15, .pointer (some ⟨b70, 0, none⟩)), (16, .int .i64 y_26), (17, .pointer (some ⟨b77, 0, none⟩)), (18, .int .i64 y_31)] rfl ⟨rfl, rfl, rfl, rfl, rfl, rfl, rfl, rfl, rfl, rfl, rfl, trivial⟩ ?_
                    refine WO_end ?_
                    refine WK_seq ?_
                    refine WK_region ?_
                    refine WO_pure tbok 1 [(3, .pointer (some ⟨b3, 0, none⟩)), (4, .pointer (some ⟨b4, 0, none⟩)), (5, .pointer (some ⟨b5, 0, none⟩)), (6, .bool false), (8, .int .i64 y_21), (9, .pointer (some ⟨b34, 0, none⟩)), (14, .pointer (some ⟨b63, 0, none⟩)), (15, .pointer (some ⟨b70, 0, none⟩)), (16, .int .i64 y_26), (17, .pointer (some ⟨b77, 0, none⟩)), (18, .int .i64 y_31), (19, .slice none 0 0)] rfl ⟨rfl, rfl, rfl, rfl, rfl, rfl, rfl, rfl, rfl, rfl, rfl, rfl, trivial⟩ ?_
                    refine WO_end ?_
                    refine WK_seq ?_
                    refine WK_seq ?_
                    refine WK_region ?_
                    refine WO_pure tbok 1 [(3, .pointer (some ⟨b3, 0, none⟩)), (4, .pointer (some ⟨b4, 0, none⟩)), (5, .pointer (some ⟨b5, 0, none⟩)), (6, .bool false), (8, .int .i64 y_21), (9, .pointer (some ⟨b34, 0, none⟩)), (14, .pointer (some ⟨b63, 0, none⟩)), (15, .pointer (some ⟨b70, 0, none⟩)), (16, .int .i64 y_26), (17, .pointer (some ⟨b77, 0, none⟩)), (18, .int .i64 y_31), (19, .slice none 0 0), (140, .pointer (some ⟨b34, 0, none⟩))] rfl ⟨rfl, rfl, rfl, rfl, rfl, rfl, rfl, rfl, rfl, rfl, rfl, rfl, rfl, trivial⟩ ?_
                    refine WO_loadB tbok 5 rfl rfl rfl rfl (fun _ h => h) rfl rfl ?_
                    refine WO_pure tbok 2 [(3, .pointer (some ⟨b3, 0, none⟩)), (4, .pointer (some ⟨b4, 0, none⟩)), (5, .pointer (some ⟨b5, 0, none⟩)), (6, .bool false), (8, .int .i64 y_21), (9, .pointer (some ⟨b34, 0, none⟩)), (14, .pointer (some ⟨b63, 0, none⟩)), (15, .pointer (some ⟨b70, 0, none⟩)), (16, .int .i64 y_26), (17, .pointer (some ⟨b77, 0, none⟩)), (18, .int .i64 y_31), (19, .slice none 0 0), (141, .slice a22 ((y_5).length) c23), (142, .int .i64 ((y_5).length : Int)), (143, .int .i64 0)] rfl ⟨rfl, rfl, rfl, rfl, rfl, rfl, rfl, rfl, rfl, rfl, rfl, rfl, rfl, rfl, rfl, trivial⟩ ?_
                    refine WO_end ?_
                    refine WK_pad ?_
                    obtain ⟨x89, hx90, hm⟩ := bind_some hm
                    refine WK_join (β := (List Int) × (Option Addr × Nat × Nat × List Ent)) (fun p => p.1 = x89 ∧ OwnE 3 1 (I1 .i64) (.slice p.2.1 p.2.2.1 p.2.2.2.1) p.1 p.2.2.2.2) (fun p => [(3, .pointer (some ⟨b3, 0, none⟩)), (4, .pointer (some ⟨b4, 0, none⟩)), (5, .pointer (some ⟨b5, 0, none⟩)), (6, .bool false), (8, .int .i64 y_21), (9, .pointer (some ⟨b34, 0, none⟩)), (14, .pointer (some ⟨b63, 0, none⟩)), (15, .pointer (some ⟨b70, 0, none⟩)), (16, .int .i64 y_26), (17, .pointer (some ⟨b77, 0, none⟩)), (18, .int .i64 y_31), (19, .slice p.2.1 p.2.2.1 p.2.2.2.1)]) (fun p => St w0 m m30 [[⟨b3, 24, [.int .i64 p0_0, .int .i64 p0_1, .int .i64 p0_2, .slice a_p0_3 p0_3.length c_p0_3]⟩], [⟨b4, 24, [.int .i64 p1_0, .int .i64 p1_1, .int .i64 p1_2, .slice a_p1_3 p1_3.length c_p1_3]⟩], [⟨b5, 38, [.int .u8 p2_0, .int .u8 p2_1]⟩], L15, L28, [⟨b34, 43, [.slice a22 ((y_5).length) c23, .int .i64 y_6, .slice a25 ((y_7).length) c26]⟩], L42, [⟨b44, 24, [.int .i64 y_10, .int .i64 y_11, .int .i64 y_12, .slice a39 ((y_13).length) c40]⟩], L61, [⟨b63, 24, [.int .i64 y_17, .int .i64 y_18, .int .i64 y_19, .slice a58 ((y_20).length) c59]⟩], L68, [⟨b70, 24, [.int .i64 y_22, .int .i64 y_23, .int .i64 y_24, .slice a65 ((y_25).length) c66]⟩], L75, [⟨b77, 24, [.int .i64 y_27, .int .i64 y_28, .int .i64 y_29, .slice a72 ((y_30).length) c73]⟩], p.2.2.2.2]) ?_ (fun hk91 => ?_)
                    · rintro ⟨l_34, ⟨a86, q87, c88, L85⟩⟩ ⟨hq97, hL85⟩
                      subst hq97
                      have hqq : q87 = l_34.length := OwnE.qlen hL85
                      subst hqq
                      refine WK.sub (e' := [(3, .pointer (some ⟨b3, 0, none⟩)), (4, .pointer (some ⟨b4, 0, none⟩)), (5, .pointer (some ⟨b5, 0, none⟩)), (6, .bool false), (8, .int .i64 y_21), (9, .pointer (some ⟨b34, 0, none⟩)), (14, .pointer (some ⟨b63, 0, none⟩)), (15, .pointer (some ⟨b70, 0, none⟩)), (16, .int .i64 y_26), (17, .pointer (some ⟨b77, 0, none⟩)), (18, .int .i64 y_31), (19, .slice a86 ((l_34).length) c88)]) ⟨rfl, rfl, rfl, rfl, rfl, rfl, rfl, rfl, rfl, rfl, rfl, rfl, trivial⟩ (WK.cls (C' := St w0 m m30 [[⟨b3, 24, [.int .i64 p0_0, .int .i64 p0_1, .int .i64 p0_2, .slice a_p0_3 p0_3.length c_p0_3]⟩], [⟨b4, 24, [.int .i64 p1_0, .int .i64 p1_1, .int .i64 p1_2, .slice a_p1_3 p1_3.length c_p1_3]⟩], [⟨b5, 38, [.int .u8 p2_0, .int .u8 p2_1]⟩], L15, L28, [⟨b34, 43, [.slice a22 ((y_5).length) c23, .int .i64 y_6, .slice a25 ((y_7).length) c26]⟩], L42, [⟨b44, 24, [.int .i64 y_10, .int .i64 y_11, .int .i64 y_12, .slice a39 ((y_13).length) c40]⟩], L61, [⟨b63, 24, [.int .i64 y_17, .int .i64 y_18, .int .i64 y_19, .slice a58 ((y_20).length) c59]⟩], L68, [⟨b70, 24, [.int .i64 y_22, .int .i64 y_23, .int .i64 y_24, .slice a65 ((y_25).length) c66]⟩], L75, [⟨b77, 24, [.int .i64 y_27, .int .i64 y_28, .int .i64 y_29, .slice a72 ((y_30).length) c73]⟩], L85]) (fun _ h => h) ?_)
                      refine WK_seq ?_
                      refine WK_region ?_
                      refine WO_loadB tbok 11 rfl rfl rfl rfl (fun _ h => h) rfl rfl ?_
                      refine WO_loadB tbok 9 rfl rfl rfl rfl (fun _ h => h) rfl rfl ?_
                      refine WO_pure tbok 1 [(3, .pointer (some ⟨b3, 0, none⟩)), (4, .pointer (some ⟨b4, 0, none⟩)), (5, .pointer (some ⟨b5, 0, none⟩)), (6, .bool false), (8, .int .i64 y_21), (9, .pointer (some ⟨b34, 0, none⟩)), (16, .int .i64 y_26), (17, .pointer (some ⟨b77, 0, none⟩)), (18, .int .i64 y_31), (156, .agg #[.int .i64 y_22, .int .i64 y_23, .int .i64 y_24, .slice a65 ((y_25).length) c66]), (157, .agg #[.int .i64 y_17, .int .i64 y_18, .int .i64 y_19, .slice a58 ((y_20).length) c59]), (158, .slice a86 ((l_34).length) c88)] rfl ⟨rfl, rfl, rfl, rfl, rfl, rfl, rfl, rfl, rfl, rfl, rfl, rfl, trivial⟩ ?_
                      obtain ⟨⟨y_35, y_36, y_37, y_38, y_39⟩, hc98, hm⟩ := bind_some hm
                      refine WO_call1 (seam_Mosaic_Q (y_35, y_36, y_37, y_38, y_39)) rfl rfl trivial rfl rfl rfl rfl ⟨14, #[], #[], rfl, callable_14, fun w hw => ⟨_, hw.satV, seam_Mosaic_walk (OwnE.rd (E := (I1 .i64)) (k := 1) (fun _ => rfl) hL68 (fun _ hx => hw.memV (i := 10) rfl hx)) (OwnE.rd (E := (I1 .i64)) (k := 1) (fun _ => rfl) hL61 (fun _ hx => hw.memV (i := 8) rfl hx)) (OwnE.rd (E := (I1 .i64)) (k := 1) (fun _ => rfl) hL85 (fun _ hx => hw.memV (i := 14) rfl hx)) hc98⟩⟩ (fun v103 L102 hq => ?_)
                      obtain ⟨a99, qa99, c100, rfl, hL102⟩ := hq
                      obtain rfl := OwnE.qlen hL102
                      refine WO.cls (C' := St w0 m m30 [[⟨b3, 24, [.int .i64 p0_0, .int .i64 p0_1, .int .i64 p0_2, .slice a_p0_3 p0_3.length c_p0_3]⟩], [⟨b4, 24, [.int .i64 p1_0, .int .i64 p1_1, .int .i64 p1_2, .slice a_p1_3 p1_3.length c_p1_3]⟩], [⟨b5, 38, [.int .u8 p2_0, .int .u8 p2_1]⟩], L15, L28, [⟨b34, 43, [.slice a22 ((y_5).length) c23, .int .i64 y_6, .slice a25 ((y_7).length) c26]⟩], L42, [⟨b44, 24, [.int .i64 y_10, .int .i64 y_11, .int .i64 y_12, .slice a39 ((y_13).length) c40]⟩], L61, [⟨b63, 24, [.int .i64 y_17, .int .i64 y_18, .int .i64 y_19, .slice a58 ((y_20).length) c59]⟩], L68, [⟨b70, 24, [.int .i64 y_22, .int .i64 y_23, .int .i64 y_24, .slice a65 ((y_25).length) c66]⟩], L75, [⟨b77, 24, [.int .i64 y_27, .int .i64 y_28, .int .i64 y_29, .slice a72 ((y_30).length) c73]⟩], L85, L102]) (fun _ h => h) ?_
                      refine WO_pure tbok 3 [(3, .pointer (some ⟨b3, 0, none⟩)), (4, .pointer (some ⟨b4, 0, none⟩)), (5, .pointer (some ⟨b5, 0, none⟩)), (6, .bool false), (8, .int .i64 y_21), (9, .pointer (some ⟨b34, 0, none⟩)), (16, .int .i64 y_26), (17, .pointer (some ⟨b77, 0, none⟩)), (18, .int .i64 y_31), (160, .agg #[.int .i64 y_35, .int .i64 y_36, .int .i64 y_37, .slice a99 ((y_38).length) c100]), (161, .int .i64 y_39)] rfl ⟨rfl, rfl, rfl, rfl, rfl, rfl, rfl, rfl, rfl, rfl, rfl, trivial⟩ ?_
                      refine WO_alloc tbok [.int .i64 0, .int .i64 0, .int .i64 0, .slice none 0 0] rfl rfl trivial rfl rfl rfl rfl (fun b104 => ?_)
                      refine WO.cls (C' := St w0 m m30 [[⟨b3, 24, [.int .i64 p0_0, .int .i64 p0_1, .int .i64 p0_2, .slice a_p0_3 p0_3.length c_p0_3]⟩], [⟨b4, 24, [.int .i64 p1_0, .int .i64 p1_1, .int .i64 p1_2, .slice a_p1_3 p1_3.length c_p1_3]⟩], [⟨b5, 38, [.int .u8 p2_0, .int .u8 p2_1]⟩], L15, L28, [⟨b34, 43, [.slice a22 ((y_5).length) c23, .int .i64 y_6, .slice a25 ((y_7).length) c26]⟩], L42, [⟨b44, 24, [.int .i64 y_10, .int .i64 y_11, .int .i64 y_12, .slice a39 ((y_13).length) c40]⟩], L61, [⟨b63, 24, [.int .i64 y_17, .int .i64 y_18, .int .i64 y_19, .slice a58 ((y_20).length) c59]⟩], L68, [⟨b70, 24, [.int .i64 y_22, .int .i64 y_23, .int .i64 y_24, .slice a65 ((y_25).length) c66]⟩], L75, [⟨b77, 24, [.int .i64 y_27, .int .i64 y_28, .int .i64 y_29, .slice a72 ((y_30).length) c73]⟩], L85, L102, [⟨b104, 24, [.int .i64 0, .int .i64 0, .int .i64 0, .slice none 0 0]⟩]]) (fun _ h => h) ?_
                      refine WO_storeB tbok 16 [.int .i64 y_35, .int .i64 y_36, .int .i64 y_37, .slice a99 ((y_38).length) c100] rfl rfl rfl rfl rfl rfl rfl ?_
                      refine WO.cls (C' := St w0 m m30 [[⟨b3, 24, [.int .i64 p0_0, .int .i64 p0_1, .int .i64 p0_2, .slice a_p0_3 p0_3.length c_p0_3]⟩], [⟨b4, 24, [.int .i64 p1_0, .int .i64 p1_1, .int .i64 p1_2, .slice a_p1_3 p1_3.length c_p1_3]⟩], [⟨b5, 38, [.int .u8 p2_0, .int .u8 p2_1]⟩], L15, L28, [⟨b34, 43, [.slice a22 ((y_5).length) c23, .int .i64 y_6, .slice a25 ((y_7).length) c26]⟩], L42, [⟨b44, 24, [.int .i64 y_10, .int .i64 y_11, .int .i64 y_12, .slice a39 ((y_13).length) c40]⟩], L61, [⟨b63, 24, [.int .i64 y_17, .int .i64 y_18, .int .i64 y_19, .slice a58 ((y_20).length) c59]⟩], L68, [⟨b70, 24, [.int .i64 y_22, .int .i64 y_23, .int .i64 y_24, .slice a65 ((y_25).length) c66]⟩], L75, [⟨b77, 24, [.int .i64 y_27, .int .i64 y_28, .int .i64 y_29, .slice a72 ((y_30).length) c73]⟩], L85, L102, [⟨b104, 24, [.int .i64 y_35, .int .i64 y_36, .int .i64 y_37, .slice a99 ((y_38).length) c100]⟩]]) (fun _ h => h) ?_
                      refine WO_pure tbok 1 [(3, .pointer (some ⟨b3, 0, none⟩)), (4, .pointer (some ⟨b4, 0, none⟩)), (5, .pointer (some ⟨b5, 0, none⟩)), (6, .bool false), (8, .int .i64 y_21), (9, .pointer (some ⟨b34, 0, none⟩)), (16, .int .i64 y_26), (17, .pointer (some ⟨b77, 0, none⟩)), (18, .int .i64 y_31), (22, .pointer (some ⟨b104, 0, none⟩)), (23, .int .i64 y_39)] rfl ⟨rfl, rfl, rfl, rfl, rfl, rfl, rfl, rfl, rfl, rfl, rfl, trivial⟩ ?_
                      refine WO_end ?_
                      refine WK_seq ?_
                      refine WK_seq ?_
                      obtain ⟨s_40, hx105, hm⟩ := bind_some hm
                      refine WK_meet [(3, .pointer (some ⟨b3, 0, none⟩)), (4, .pointer (some ⟨b4, 0, none⟩)), (5, .pointer (some ⟨b5, 0, none⟩)), (6, .bool false), (9, .pointer (some ⟨b34, 0, none⟩)), (175, .bool s_40)] (St w0 m m30 [[⟨b3, 24, [.int .i64 p0_0, .int .i64 p0_1, .int .i64 p0_2, .slice a_p0_3 p0_3.length c_p0_3]⟩], [⟨b4, 24, [.int .i64 p1_0, .int .i64 p1_1, .int .i64 p1_2, .slice a_p1_3 p1_3.length c_p1_3]⟩], [⟨b5, 38, [.int .u8 p2_0, .int .u8 p2_1]⟩], L15, L28, [⟨b34, 43, [.slice a22 ((y_5).length) c23, .int .i64 y_6, .slice a25 ((y_7).length) c26]⟩], L42, [⟨b44, 24, [.int .i64 y_10, .int .i64 y_11, .int .i64 y_12, .slice a39 ((y_13).length) c40]⟩], L61, [⟨b63, 24, [.int .i64 y_17, .int .i64 y_18, .int .i64 y_19, .slice a58 ((y_20).length) c59]⟩], L68, [⟨b70, 24, [.int .i64 y_22, .int .i64 y_23, .int .i64 y_24, .slice a65 ((y_25).length) c66]⟩], L75, [⟨b77, 24, [.int .i64 y_27, .int .i64 y_28, .int .i64 y_29, .slice a72 ((y_30).length) c73]⟩], L85, L102, [⟨b104, 24, [.int .i64 y_35, .int .i64 y_36, .int .i64 y_37, .slice a99 ((y_38).length) c100]⟩]]) ?_ (fun hk106 => ?_)
                      · refine WK_cond (b := s_40) rfl (fun hb107 => ?_) (fun hb107 => ?_)
                        · have hm := ifT hb107 hm
                          refine WK_seq ?_
                          refine WK_region ?_
                          refine WO_pure tbok 1 [(3, .pointer (some ⟨b3, 0, none⟩)), (4, .pointer (some ⟨b4, 0, none⟩)), (5, .pointer (some ⟨b5, 0, none⟩)), (6, .bool false), (9, .pointer (some ⟨b34, 0, none⟩))] rfl ⟨rfl, rfl, rfl, rfl, rfl, trivial⟩ ?_
                          refine WO_end ?_
                          cases hm
                          exact WK_ret (ret_out (L := []) (RLc_tmp rfl RLc_nil) (List.nil_sublist _) rfl)
                        · have hm := ifF hb107 hm
                          refine WK_skip ?_
                          refine WK_seq ?_
                          refine WK_region ?_
                          refine WO_pure tbok 1 [(3, .pointer (some ⟨b3, 0, none⟩)), (4, .pointer (some ⟨b4, 0, none⟩)), (5, .pointer (some ⟨b5, 0, none⟩)), (6, .bool false), (9, .pointer (some ⟨b34, 0, none⟩)), (176, .pointer (some ⟨b5, 0, none⟩))] rfl ⟨rfl, rfl, rfl, rfl, rfl, rfl, trivial⟩ ?_
                          refine WO_loadB tbok 2 rfl rfl rfl rfl (fun _ h => h) rfl rfl ?_
                          refine WO_pure tbok 2 [(3, .pointer (some ⟨b3, 0, none⟩)), (4, .pointer (some ⟨b4, 0, none⟩)), (5, .pointer (some ⟨b5, 0, none⟩)), (6, .bool false), (9, .pointer (some ⟨b34, 0, none⟩)), (178, .int .i64 (w64 (p2_0))), (179, .pointer (some ⟨b3, 1, none⟩))] rfl ⟨rfl, rfl, rfl, rfl, rfl, rfl, rfl, trivial⟩ ?_
                          refine WO_loadB tbok 0 rfl rfl rfl rfl (fun _ h => h) rfl rfl ?_
                          obtain ⟨hc108, hm⟩ := chk_some hm
                          refine WO_rem rfl rfl rfl rfl rfl hc108 ?_
                          refine WO_pure tbok 1 [(3, .pointer (some ⟨b3, 0, none⟩)), (4, .pointer (some ⟨b4, 0, none⟩)), (5, .pointer (some ⟨b5, 0, none⟩)), (6, .bool false), (9, .pointer (some ⟨b34, 0, none⟩)), (24, .int .i64 (Int.tmod (w64 (p2_0)) p0_1))] rfl ⟨rfl, rfl, rfl, rfl, rfl, rfl, trivial⟩ ?_
                          refine WO_end ?_
                          refine WK_seq ?_
                          refine WK_region ?_
                          refine WO_pure tbok 1 [(3, .pointer (some ⟨b3, 0, none⟩)), (4, .pointer (some ⟨b4, 0, none⟩)), (6, .bool false), (9, .pointer (some ⟨b34, 0, none⟩)), (24, .int .i64 (Int.tmod (w64 (p2_0)) p0_1)), (182, .pointer (some ⟨b5, 1, none⟩))] rfl ⟨rfl, rfl, rfl, rfl, rfl, rfl, trivial⟩ ?_
                          refine WO_loadB tbok 2 rfl rfl rfl rfl (fun _ h => h) rfl rfl ?_
                          refine WO_pure tbok 2 [(3, .pointer (some ⟨b3, 0, none⟩)), (4, .pointer (some ⟨b4, 0, none⟩)), (6, .bool false), (9, .pointer (some ⟨b34, 0, none⟩)), (24, .int .i64 (Int.tmod (w64 (p2_0)) p0_1)), (184, .int .i64 (w64 (p2_1))), (185, .pointer (some ⟨b3, 1, none⟩))] rfl ⟨rfl, rfl, rfl, rfl, rfl, rfl, rfl, trivial⟩ ?_
                          refine WO_loadB tbok 0 rfl rfl rfl rfl (fun _ h => h) rfl rfl ?_
                          refine WO_pure tbok 2 [(3, .pointer (some ⟨b3, 0, none⟩)), (4, .pointer (some ⟨b4, 0, none⟩)), (6, .bool false), (9, .pointer (some ⟨b34, 0, none⟩)), (24, .int .i64 (Int.tmod (w64 (p2_0)) p0_1)), (184, .int .i64 (w64 (p2_1))), (188, .int .i64 (w64 (p0_1 - (Int.tmod (w64 (p2_0)) p0_1))))] rfl ⟨rfl, rfl, rfl, rfl, rfl, rfl, rfl, trivial⟩ ?_
                          obtain ⟨hc109, hm⟩ := chk_some hm
                          refine WO_rem rfl rfl rfl rfl rfl hc109 ?_
                          refine WO_pure tbok 2 [(3, .pointer (some ⟨b3, 0, none⟩)), (4, .pointer (some ⟨b4, 0, none⟩)), (6, .bool false), (9, .pointer (some ⟨b34, 0, none⟩)), (24, .int .i64 (Int.tmod (w64 (p2_0)) p0_1)), (25, .int .i64 (w64 (1 + (Int.tmod (w64 (p2_1)) (w64 (p0_1 - (Int.tmod (w64 (p2_0)) p0_1)))))))] rfl ⟨rfl, rfl, rfl, rfl, rfl, rfl, trivial⟩ ?_
                          refine WO_end ?_
                          refine WK_seq ?_
                          refine WK_region ?_
                          refine WO_loadB tbok 0 rfl rfl rfl rfl (fun _ h => h) rfl rfl ?_
                          refine WO_pure tbok 2 [(3, .pointer (some ⟨b3, 0, none⟩)), (4, .pointer (some ⟨b4, 0, none⟩)), (6, .bool false), (9, .pointer (some ⟨b34, 0, none⟩)), (24, .int .i64 (Int.tmod (w64 (p2_0)) p0_1)), (25, .int .i64 (w64 (1 + (Int.tmod (w64 (p2_1)) (w64 (p0_1 - (Int.tmod (w64 (p2_0)) p0_1))))))), (192, .agg #[.int .i64 p0_0, .int .i64 p0_1, .int .i64 p0_2, .slice a_p0_3 p0_3.length c_p0_3]), (193, .int .i64 (Int.tmod (w64 (p2_0)) p0_1)), (194, .pointer (some ⟨b3, 0, none⟩))] rfl ⟨rfl, rfl, rfl, rfl, rfl, rfl, rfl, rfl, rfl, trivial⟩ ?_
                          refine WO_loadB tbok 0 rfl rfl rfl rfl (fun _ h => h) rfl rfl ?_
                          refine WO_pure tbok 1 [(3, .pointer (some ⟨b3, 0, none⟩)), (4, .pointer (some ⟨b4, 0, none⟩)), (6, .bool false), (9, .pointer (some ⟨b34, 0, none⟩)), (24, .int .i64 (Int.tmod (w64 (p2_0)) p0_1)), (25, .int .i64 (w64 (1 + (Int.tmod (w64 (p2_1)) (w64 (p0_1 - (Int.tmod (w64 (p2_0)) p0_1))))))), (192, .agg #[.int .i64 p0_0, .int .i64 p0_1, .int .i64 p0_2, .slice a_p0_3 p0_3.length c_p0_3]), (193, .int .i64 (Int.tmod (w64 (p2_0)) p0_1)), (195, .int .i64 p0_0), (196, .int .i64 (w64 (1 + (Int.tmod (w64 (p2_1)) (w64 (p0_1 - (Int.tmod (w64 (p2_0)) p0_1)))))))] rfl ⟨rfl, rfl, rfl, rfl, rfl, rfl, rfl, rfl, rfl, rfl, trivial⟩ ?_
                          obtain ⟨⟨y_41, y_42, y_43, y_44, y_45⟩, hc110, hm⟩ := bind_some hm
                          refine WO_call1 (raster_Crop_Q (y_41, y_42, y_43, y_44, y_45)) rfl rfl trivial rfl rfl rfl rfl ⟨17, #[], #[], rfl, callable_17, fun w hw => ⟨_, hw.sat, raster_Crop_walk ((h_p0_3.mono (mono_FE _) hle18).mono (mono_FE _) hle31) hc110⟩⟩ (fun v115 L114 hq => ?_)
                          obtain ⟨a111, qa111, c112, rfl, hL114⟩ := hq
                          obtain rfl := OwnE.qlen hL114
                          refine WO.cls (C' := St w0 m m30 [[⟨b3, 24, [.int .i64 p0_0, .int .i64 p0_1, .int .i64 p0_2, .slice a_p0_3 p0_3.length c_p0_3]⟩], [⟨b4, 24, [.int .i64 p1_0, .int .i64 p1_1, .int .i64 p1_2, .slice a_p1_3 p1_3.length c_p1_3]⟩], [⟨b5, 38, [.int .u8 p2_0, .int .u8 p2_1]⟩], L15, L28, [⟨b34, 43, [.slice a22 ((y_5).length) c23, .int .i64 y_6, .slice a25 ((y_7).length) c26]⟩], L42, [⟨b44, 24, [.int .i64 y_10, .int .i64 y_11, .int .i64 y_12, .slice a39 ((y_13).length) c40]⟩], L61, [⟨b63, 24, [.int .i64 y_17, .int .i64 y_18, .int .i64 y_19, .slice a58 ((y_20).length) c59]⟩], L68, [⟨b70, 24, [.int .i64 y_22, .int .i64 y_23, .int .i64 y_24, .slice a65 ((y_25).length) c66]⟩], L75, [⟨b77, 24, [.int .i64 y_27, .int .i64 y_28, .int .i64 y_29, .slice a72 ((y_30).length) c73]⟩], L85, L102, [⟨b104, 24, [.int .i64 y_35, .int .i64 y_36, .int .i64 y_37, .slice a99 ((y_38).length) c100]⟩], L114]) (fun _ h => h) ?_
                          refine WO_pure tbok 3 [(3, .pointer (some ⟨b3, 0, none⟩)), (4, .pointer (some ⟨b4, 0, none⟩)), (6, .bool false), (9, .pointer (some ⟨b34, 0, none⟩)), (24, .int .i64 (Int.tmod (w64 (p2_0)) p0_1)), (25, .int .i64 (w64 (1 + (Int.tmod (w64 (p2_1)) (w64 (p0_1 - (Int.tmod (w64 (p2_0)) p0_1))))))), (198, .agg #[.int .i64 y_41, .int .i64 y_42, .int .i64 y_43, .slice a111 ((y_44).length) c112]), (199, .int .i64 y_45)] rfl ⟨rfl, rfl, rfl, rfl, rfl, rfl, rfl, rfl, trivial⟩ ?_
                          refine WO_alloc tbok [.int .i64 0, .int .i64 0, .int .i64 0, .slice none 0 0] rfl rfl trivial rfl rfl rfl rfl (fun b116 => ?_)
                          refine WO.cls (C' := St w0 m m30 [[⟨b3, 24, [.int .i64 p0_0, .int .i64 p0_1, .int .i64 p0_2, .slice a_p0_3 p0_3.length c_p0_3]⟩], [⟨b4, 24, [.int .i64 p1_0, .int .i64 p1_1, .int .i64 p1_2, .slice a_p1_3 p1_3.length c_p1_3]⟩], [⟨b5, 38, [.int .u8 p2_0, .int .u8 p2_1]⟩], L15, L28, [⟨b34, 43, [.slice a22 ((y_5).length) c23, .int .i64 y_6, .slice a25 ((y_7).length) c26]⟩], L42, [⟨b44, 24, [.int .i64 y_10, .int .i64 y_11, .int .i64 y_12, .slice a39 ((y_13).length) c40]⟩], L61, [⟨b63, 24, [.int .i64 y_17, .int .i64 y_18, .int .i64 y_19, .slice a58 ((y_20).length) c59]⟩], L68, [⟨b70, 24, [.int .i64 y_22, .int .i64 y_23, .int .i64 y_24, .slice a65 ((y_25).length) c66]⟩], L75, [⟨b77, 24, [.int .i64 y_27, .int .i64 y_28, .int .i64 y_29, .slice a72 ((y_30).length) c73]⟩], L85, L102, [⟨b104, 24, [.int .i64 y_35, .int .i64 y_36, .int .i64 y_37, .slice a99 ((y_38).length) c100]⟩], L114, [⟨b116, 24, [.int .i64 0, .int .i64 0, .int .i64 0, .slice none 0 0]⟩]]) (fun _ h => h) ?_
                          refine WO_storeB tbok 18 [.int .i64 y_41, .int .i64 y_42, .int .i64 y_43, .slice a111 ((y_44).length) c112] rfl rfl rfl rfl rfl rfl rfl ?_
                          refine WO.cls (C' := St w0 m m30 [[⟨b3, 24, [.int .i64 p0_0, .int .i64 p0_1, .int .i64 p0_2, .slice a_p0_3 p0_3.length c_p0_3]⟩], [⟨b4, 24, [.int .i64 p1_0, .int .i64 p1_1, .int .i64 p1_2, .slice a_p1_3 p1_3.length c_p1_3]⟩], [⟨b5, 38, [.int .u8 p2_0, .int .u8 p2_1]⟩], L15, L28, [⟨b34, 43, [.slice a22 ((y_5).length) c23, .int .i64 y_6, .slice a25 ((y_7).length) c26]⟩], L42, [⟨b44, 24, [.int .i64 y_10, .int .i64 y_11, .int .i64 y_12, .slice a39 ((y_13).length) c40]⟩], L61, [⟨b63, 24, [.int .i64 y_17, .int .i64 y_18, .int .i64 y_19, .slice a58 ((y_20).length) c59]⟩], L68, [⟨b70, 24, [.int .i64 y_22, .int .i64 y_23, .int .i64 y_24, .slice a65 ((y_25).length) c66]⟩], L75, [⟨b77, 24, [.int .i64 y_27, .int .i64 y_28, .int .i64 y_29, .slice a72 ((y_30).length) c73]⟩], L85, L102, [⟨b104, 24, [.int .i64 y_35, .int .i64 y_36, .int .i64 y_37, .slice a99 ((y_38).length) c100]⟩], L114, [⟨b116, 24, [.int .i64 y_41, .int .i64 y_42, .int .i64 y_43, .slice a111 ((y_44).length) c112]⟩]]) (fun _ h => h) ?_
                          refine WO_pure tbok 1 [(3, .pointer (some ⟨b3, 0, none⟩)), (4, .pointer (some ⟨b4, 0, none⟩)), (6, .bool false), (8, .int .i64 y_45), (9, .pointer (some ⟨b34, 0, none⟩)), (24, .int .i64 (Int.tmod (w64 (p2_0)) p0_1)), (25, .int .i64 (w64 (1 + (Int.tmod (w64 (p2_1)) (w64 (p0_1 - (Int.tmod (w64 (p2_0)) p0_1))))))), (26, .pointer (some ⟨b116, 0, none⟩))] rfl ⟨rfl, rfl, rfl, rfl, rfl, rfl, rfl, rfl, trivial⟩ ?_
                          refine WO_end ?_
                          refine WK_seq ?_
                          refine WK_region ?_
                          refine WO_loadB tbok 1 rfl rfl rfl rfl (fun _ h => h) rfl rfl ?_
                          refine WO_pure tbok 2 [(6, .bool false), (8, .int .i64 y_45), (9, .pointer (some ⟨b34, 0, none⟩)), (24, .int .i64 (Int.tmod (w64 (p2_0)) p0_1)), (25, .int .i64 (w64 (1 + (Int.tmod (w64 (p2_1)) (w64 (p0_1 - (Int.tmod (w64 (p2_0)) p0_1))))))), (26, .pointer (some ⟨b116, 0, none⟩)), (201, .agg #[.int .i64 p1_0, .int .i64 p1_1, .int .i64 p1_2, .slice a_p1_3 p1_3.length c_p1_3]), (202, .int .i64 (Int.tmod (w64 (p2_0)) p0_1)), (203, .pointer (some ⟨b3, 0, none⟩))] rfl ⟨rfl, rfl, rfl, rfl, rfl, rfl, rfl, rfl, rfl, trivial⟩ ?_
                          refine WO_loadB tbok 0 rfl rfl rfl rfl (fun _ h => h) rfl rfl ?_
                          refine WO_pure tbok 1 [(6, .bool false), (8, .int .i64 y_45), (9, .pointer (some ⟨b34, 0, none⟩)), (24, .int .i64 (Int.tmod (w64 (p2_0)) p0_1)), (25, .int .i64 (w64 (1 + (Int.tmod (w64 (p2_1)) (w64 (p0_1 - (Int.tmod (w64 (p2_0)) p0_1))))))), (26, .pointer (some ⟨b116, 0, none⟩)), (201, .agg #[.int .i64 p1_0, .int .i64 p1_1, .int .i64 p1_2, .slice a_p1_3 p1_3.length c_p1_3]), (202, .int .i64 (Int.tmod (w64 (p2_0)) p0_1)), (204, .int .i64 p0_0), (205, .int .i64 (w64 (1 + (Int.tmod (w64 (p2_1)) (w64 (p0_1 - (Int.tmod (w64 (p2_0)) p0_1)))))))] rfl ⟨rfl, rfl, rfl, rfl, rfl, rfl, rfl, rfl, rfl, rfl, trivial⟩ ?_
                          obtain ⟨⟨y_46, y_47, y_48, y_49, y_50⟩, hc117, hm⟩ := bind_some hm
                          refine WO_call1 (raster_Crop_Q (y_46, y_47, y_48, y_49, y_50)) rfl rfl trivial rfl rfl rfl rfl ⟨17, #[], #[], rfl, callable_17, fun w hw => ⟨_, hw.sat, raster_Crop_walk ((h_p1_3.mono (mono_FE _) hle18).mono (mono_FE _) hle31) hc117⟩⟩ (fun v122 L121 hq => ?_)
                          obtain ⟨a118, qa118, c119, rfl, hL121⟩ := hq
                          obtain rfl := OwnE.qlen hL121
                          refine WO.cls (C' := St w0 m m30 [[⟨b3, 24, [.int .i64 p0_0, .int .i64 p0_1, .int .i64 p0_2, .slice a_p0_3 p0_3.length c_p0_3]⟩], [⟨b4, 24, [.int .i64 p1_0, .int .i64 p1_1, .int .i64 p1_2, .slice a_p1_3 p1_3.length c_p1_3]⟩], [⟨b5, 38, [.int .u8 p2_0, .int .u8 p2_1]⟩], L15, L28, [⟨b34, 43, [.slice a22 ((y_5).length) c23, .int .i64 y_6, .slice a25 ((y_7).length) c26]⟩], L42, [⟨b44, 24, [.int .i64 y_10, .int .i64 y_11, .int .i64 y_12, .slice a39 ((y_13).length) c40]⟩], L61, [⟨b63, 24, [.int .i64 y_17, .int .i64 y_18, .int .i64 y_19, .slice a58 ((y_20).length) c59]⟩], L68, [⟨b70, 24, [.int .i64 y_22, .int .i64 y_23, .int .i64 y_24, .slice a65 ((y_25).length) c66]⟩], L75, [⟨b77, 24, [.int .i64 y_27, .int .i64 y_28, .int .i64 y_29, .slice a72 ((y_30).length) c73]⟩], L85, L102, [⟨b104, 24, [.int .i64 y_35, .int .i64 y_36, .int .i64 y_37, .slice a99 ((y_38).length) c100]⟩], L114, [⟨b116, 24, [.int .i64 y_41, .int .i64 y_42, .int .i64 y_43, .slice a111 ((y_44).length) c112]⟩], L121]) (fun _ h => h) ?_
                          refine WO_pure tbok 3 [(6, .bool false), (8, .int .i64 y_45), (9, .pointer (some ⟨b34, 0, none⟩)), (24, .int .i64 (Int.tmod (w64 (p2_0)) p0_1)), (25, .int .i64 (w64 (1 + (Int.tmod (w64 (p2_1)) (w64 (p0_1 - (Int.tmod (w64 (p2_0)) p0_1))))))), (26, .pointer (some ⟨b116, 0, none⟩)), (207, .agg #[.int .i64 y_46, .int .i64 y_47, .int .i64 y_48, .slice a118 ((y_49).length) c119]), (208, .int .i64 y_50)] rfl ⟨rfl, rfl, rfl, rfl, rfl, rfl, rfl, rfl, trivial⟩ ?_
                          refine WO_alloc tbok [.int .i64 0, .int .i64 0, .int .i64 0, .slice none 0 0] rfl rfl trivial rfl rfl rfl rfl (fun b123 => ?_)
                          refine WO.cls (C' := St w0 m m30 [[⟨b3, 24, [.int .i64 p0_0, .int .i64 p0_1, .int .i64 p0_2, .slice a_p0_3 p0_3.length c_p0_3]⟩], [⟨b4, 24, [.int .i64 p1_0, .int .i64 p1_1, .int .i64 p1_2, .slice a_p1_3 p1_3.length c_p1_3]⟩], [⟨b5, 38, [.int .u8 p2_0, .int .u8 p2_1]⟩], L15, L28, [⟨b34, 43, [.slice a22 ((y_5).length) c23, .int .i64 y_6, .slice a25 ((y_7).length) c26]⟩], L42, [⟨b44, 24, [.int .i64 y_10, .int .i64 y_11, .int .i64 y_12, .slice a39 ((y_13).length) c40]⟩], L61, [⟨b63, 24, [.int .i64 y_17, .int .i64 y_18, .int .i64 y_19, .slice a58 ((y_20).length) c59]⟩], L68, [⟨b70, 24, [.int .i64 y_22, .int .i64 y_23, .int .i64 y_24, .slice a65 ((y_25).length) c66]⟩], L75, [⟨b77, 24, [.int .i64 y_27, .int .i64 y_28, .int .i64 y_29, .slice a72 ((y_30).length) c73]⟩], L85, L102, [⟨b104, 24, [.int .i64 y_35, .int .i64 y_36, .int .i64 y_37, .slice a99 ((y_38).length) c100]⟩], L114, [⟨b116, 24, [.int .i64 y_41, .int .i64 y_42, .int .i64 y_43, .slice a111 ((y_44).length) c112]⟩], L121, [⟨b123, 24, [.int .i64 0, .int .i64 0, .int .i64 0, .slice none 0 0]⟩]]) (fun _ h => h) ?_
                          refine WO_storeB tbok 20 [.int .i64 y_46, .int .i64 y_47, .int .i64 y_48, .slice a118 ((y_49).length) c119] rfl rfl rfl rfl rfl rfl rfl ?_
                          refine WO.cls (C' := St w0 m m30 [[⟨b3, 24, [.int .i64 p0_0, .int .i64 p0_1, .int .i64 p0_2, .slice a_p0_3 p0_3.length c_p0_3]⟩], [⟨b4, 24, [.int .i64 p1_0, .int .i64 p1_1, .int .i64 p1_2, .slice a_p1_3 p1_3.length c_p1_3]⟩], [⟨b5, 38, [.int .u8 p2_0, .int .u8 p2_1]⟩], L15, L28, [⟨b34, 43, [.slice a22 ((y_5).length) c23, .int .i64 y_6, .slice a25 ((y_7).length) c26]⟩], L42, [⟨b44, 24, [.int .i64 y_10, .int .i64 y_11, .int .i64 y_12, .slice a39 ((y_13).length) c40]⟩], L61, [⟨b63, 24, [.int .i64 y_17, .int .i64 y_18, .int .i64 y_19, .slice a58 ((y_20).length) c59]⟩], L68, [⟨b70, 24, [.int .i64 y_22, .int .i64 y_23, .int .i64 y_24, .slice a65 ((y_25).length) c66]⟩], L75, [⟨b77, 24, [.int .i64 y_27, .int .i64 y_28, .int .i64 y_29, .slice a72 ((y_30).length) c73]⟩], L85, L102, [⟨b104, 24, [.int .i64 y_35, .int .i64 y_36, .int .i64 y_37, .slice a99 ((y_38).length) c100]⟩], L114, [⟨b116, 24, [.int .i64 y_41, .int .i64 y_42, .int .i64 y_43, .slice a111 ((y_44).length) c112]⟩], L121, [⟨b123, 24, [.int .i64 y_46, .int .i64 y_47, .int .i64 y_48, .slice a118 ((y_49).length) c119]⟩]]) (fun _ h => h) ?_
                          refine WO_pure tbok 1 [(6, .bool false), (8, .int .i64 y_45), (9, .pointer (some ⟨b34, 0, none⟩)), (16, .int .i64 y_50), (24, .int .i64 (Int.tmod (w64 (p2_0)) p0_1)), (25, .int .i64 (w64 (1 + (Int.tmod (w64 (p2_1)) (w64 (p0_1 - (Int.tmod (w64 (p2_0)) p0_1))))))), (26, .pointer (some ⟨b116, 0, none⟩)), (27, .pointer (some ⟨b123, 0, none⟩))] rfl ⟨rfl, rfl, rfl, rfl, rfl, rfl, rfl, rfl, trivial⟩ ?_
                          refine WO_end ?_
                          refine WK_seq ?_
                          refine WK_region ?_
                          refine WO_loadB tbok 18 rfl rfl rfl rfl (fun _ h => h) rfl rfl ?_
                          refine WO_loadB tbok 20 rfl rfl rfl rfl (fun _ h => h) rfl rfl ?_
                          refine WO_freeze 17 rfl (fun m124 hle125 hmm126 => ?_)
                          refine WO.cls (C' := St w0 m m124 [[⟨b3, 24, [.int .i64 p0_0, .int .i64 p0_1, .int .i64 p0_2, .slice a_p0_3 p0_3.length c_p0_3]⟩], [⟨b4, 24, [.int .i64 p1_0, .int .i64 p1_1, .int .i64 p1_2, .slice a_p1_3 p1_3.length c_p1_3]⟩], [⟨b5, 38, [.int .u8 p2_0, .int .u8 p2_1]⟩], L15, L28, [⟨b34, 43, [.slice a22 ((y_5).length) c23, .int .i64 y_6, .slice a25 ((y_7).length) c26]⟩], L42, [⟨b44, 24, [.int .i64 y_10, .int .i64 y_11, .int .i64 y_12, .slice a39 ((y_13).length) c40]⟩], L61, [⟨b63, 24, [.int .i64 y_17, .int .i64 y_18, .int .i64 y_19, .slice a58 ((y_20).length) c59]⟩], L68, [⟨b70, 24, [.int .i64 y_22, .int .i64 y_23, .int .i64 y_24, .slice a65 ((y_25).length) c66]⟩], L75, [⟨b77, 24, [.int .i64 y_27, .int .i64 y_28, .int .i64 y_29, .slice a72 ((y_30).length) c73]⟩], L85, L102, [⟨b104, 24, [.int .i64 y_35, .int .i64 y_36, .int .i64 y_37, .slice a99 ((y_38).length) c100]⟩], [], [⟨b116, 24, [.int .i64 y_41, .int .i64 y_42, .int .i64 y_43, .slice a111 ((y_44).length) c112]⟩], L121, [⟨b123, 24, [.int .i64 y_46, .int .i64 y_47, .int .i64 y_48, .slice a118 ((y_49).length) c119]⟩]]) (fun _ h => h) ?_
                          refine WO_freeze 19 rfl (fun m127 hle128 hmm129 => ?_)
                          refine WO.cls (C' := St w0 m m127 [[⟨b3, 24, [.int .i64 p0_0, .int .i64 p0_1, .int .i64 p0_2, .slice a_p0_3 p0_3.length c_p0_3]⟩], [⟨b4, 24, [.int .i64 p1_0, .int .i64 p1_1, .int .i64 p1_2, .slice a_p1_3 p1_3.length c_p1_3]⟩], [⟨b5, 38, [.int .u8 p2_0, .int .u8 p2_1]⟩], L15, L28, [⟨b34, 43, [.slice a22 ((y_5).length) c23, .int .i64 y_6, .slice a25 ((y_7).length) c26]⟩], L42, [⟨b44, 24, [.int .i64 y_10, .int .i64 y_11, .int .i64 y_12, .slice a39 ((y_13).length) c40]⟩], L61, [⟨b63, 24, [.int .i64 y_17, .int .i64 y_18, .int .i64 y_19, .slice a58 ((y_20).length) c59]⟩], L68, [⟨b70, 24, [.int .i64 y_22, .int .i64 y_23, .int .i64 y_24, .slice a65 ((y_25).length) c66]⟩], L75, [⟨b77, 24, [.int .i64 y_27, .int .i64 y_28, .int .i64 y_29, .slice a72 ((y_30).length) c73]⟩], L85, L102, [⟨b104, 24, [.int .i64 y_35, .int .i64 y_36, .int .i64 y_37, .slice a99 ((y_38).length) c100]⟩], [], [⟨b116, 24, [.int .i64 y_41, .int .i64 y_42, .int .i64 y_43, .slice a111 ((y_44).length) c112]⟩], [], [⟨b123, 24, [.int .i64 y_46, .int .i64 y_47, .int .i64 y_48, .slice a118 ((y_49).length) c119]⟩]]) (fun _ h => h) ?_
                          obtain ⟨⟨y_51, y_52⟩, hc130, hm⟩ := bind_some hm
                          refine WO_call2 (seam_Costs_Q (y_51, y_52)) rfl rfl trivial rfl rfl rfl rfl ⟨12, #[], #[], rfl, callable_12, seam_Costs_walk ((OwnE.rd (E := (I1 .i64)) (k := 1) (fun _ => rfl) hL114 hmm126).mono (mono_FE _) hle128) (OwnE.rd (E := (I1 .i64)) (k := 1) (fun _ => rfl) hL121 hmm129) hc130⟩ (fun v135 m136 L134 hle137 hq => ?_)
                          obtain ⟨a131, qa131, c132, rfl, h138⟩ := hq
                          obtain rfl := SlR.qlen h138
                          refine WO.cls (C' := St w0 m m136 [[⟨b3, 24, [.int .i64 p0_0, .int .i64 p0_1, .int .i64 p0_2, .slice a_p0_3 p0_3.length c_p0_3]⟩], [⟨b4, 24, [.int .i64 p1_0, .int .i64 p1_1, .int .i64 p1_2, .slice a_p1_3 p1_3.length c_p1_3]⟩], [⟨b5, 38, [.int .u8 p2_0, .int .u8 p2_1]⟩], L15, L28, [⟨b34, 43, [.slice a22 ((y_5).length) c23, .int .i64 y_6, .slice a25 ((y_7).length) c26]⟩], L42, [⟨b44, 24, [.int .i64 y_10, .int .i64 y_11, .int .i64 y_12, .slice a39 ((y_13).length) c40]⟩], L61, [⟨b63, 24, [.int .i64 y_17, .int .i64 y_18, .int .i64 y_19, .slice a58 ((y_20).length) c59]⟩], L68, [⟨b70, 24, [.int .i64 y_22, .int .i64 y_23, .int .i64 y_24, .slice a65 ((y_25).length) c66]⟩], L75, [⟨b77, 24, [.int .i64 y_27, .int .i64 y_28, .int .i64 y_29, .slice a72 ((y_30).length) c73]⟩], L85, L102, [⟨b104, 24, [.int .i64 y_35, .int .i64 y_36, .int .i64 y_37, .slice a99 ((y_38).length) c100]⟩], [], [⟨b116, 24, [.int .i64 y_41, .int .i64 y_42, .int .i64 y_43, .slice a111 ((y_44).length) c112]⟩], [], [⟨b123, 24, [.int .i64 y_46, .int .i64 y_47, .int .i64 y_48, .slice a118 ((y_49).length) c119]⟩], L134]) (fun _ h => h.sub (by simp)) ?_
                          refine WO_pure tbok 5 [(6, .bool false), (8, .int .i64 y_45), (9, .pointer (some ⟨b34, 0, none⟩)), (16, .int .i64 y_50), (18, .int .i64 y_52), (24, .int .i64 (Int.tmod (w64 (p2_0)) p0_1)), (25, .int .i64 (w64 (1 + (Int.tmod (w64 (p2_1)) (w64 (p0_1 - (Int.tmod (w64 (p2_0)) p0_1))))))), (28, .slice a131 ((y_51).length) c132)] rfl ⟨rfl, rfl, rfl, rfl, rfl, rfl, rfl, rfl, trivial⟩ ?_
                          refine WO_end ?_
                          refine WK_seq ?_
                          refine WK_region ?_
                          refine WO_pure tbok 1 [(6, .bool false), (8, .int .i64 y_45), (9, .pointer (some ⟨b34, 0, none⟩)), (16, .int .i64 y_50), (18, .int .i64 y_52), (24, .int .i64 (Int.tmod (w64 (p2_0)) p0_1)), (25, .int .i64 (w64 (1 + (Int.tmod (w64 (p2_1)) (w64 (p0_1 - (Int.tmod (w64 (p2_0)) p0_1))))))), (28, .slice a131 ((y_51).length) c132), (216, .slice a131 ((y_51).length) c132)] rfl ⟨rfl, rfl, rfl, rfl, rfl, rfl, rfl, rfl, rfl, trivial⟩ ?_
                          obtain ⟨⟨y_53, y_54, y_55, y_56⟩, hc139, hm⟩ := bind_some hm
                          refine WO_call2 (seam_Find_Q (y_53, y_54, y_55, y_56)) rfl rfl trivial rfl rfl rfl rfl ⟨13, #[], #[], rfl, callable_13, seam_Find_walk h138 hc139⟩ (fun v147 m148 L146 hle149 hq => ?_)
                          obtain ⟨a140, qa140, c141, a143, qa143, c144, rfl, h150, h151⟩ := hq
                          obtain rfl := SlR.qlen h150
                          obtain rfl := SlR.qlen h151
                          refine WO.cls (C' := St w0 m m148 [[⟨b3, 24, [.int .i64 p0_0, .int .i64 p0_1, .int .i64 p0_2, .slice a_p0_3 p0_3.length c_p0_3]⟩], [⟨b4, 24, [.int .i64 p1_0, .int .i64 p1_1, .int .i64 p1_2, .slice a_p1_3 p1_3.length c_p1_3]⟩], [⟨b5, 38, [.int .u8 p2_0, .int .u8 p2_1]⟩], L15, L28, [⟨b34, 43, [.slice a22 ((y_5).length) c23, .int .i64 y_6, .slice a25 ((y_7).length) c26]⟩], L42, [⟨b44, 24, [.int .i64 y_10, .int .i64 y_11, .int .i64 y_12, .slice a39 ((y_13).length) c40]⟩], L61, [⟨b63, 24, [.int .i64 y_17, .int .i64 y_18, .int .i64 y_19, .slice a58 ((y_20).length) c59]⟩], L68, [⟨b70, 24, [.int .i64 y_22, .int .i64 y_23, .int .i64 y_24, .slice a65 ((y_25).length) c66]⟩], L75, [⟨b77, 24, [.int .i64 y_27, .int .i64 y_28, .int .i64 y_29, .slice a72 ((y_30).length) c73]⟩], L85, L102, [⟨b104, 24, [.int .i64 y_35, .int .i64 y_36, .int .i64 y_37, .slice a99 ((y_38).length) c100]⟩], [], [⟨b116, 24, [.int .i64 y_41, .int .i64 y_42, .int .i64 y_43, .slice a111 ((y_44).length) c112]⟩], [], [⟨b123, 24, [.int .i64 y_46, .int .i64 y_47, .int .i64 y_48, .slice a118 ((y_49).length) c119]⟩], L134, L146]) (fun _ h => h.sub (by simp)) ?_
                          refine WO_pure tbok 3 [(6, .bool false), (8, .int .i64 y_45), (9, .pointer (some ⟨b34, 0, none⟩)), (16, .int .i64 y_50), (18, .int .i64 y_52), (24, .int .i64 (Int.tmod (w64 (p2_0)) p0_1)), (25, .int .i64 (w64 (1 + (Int.tmod (w64 (p2_1)) (w64 (p0_1 - (Int.tmod (w64 (p2_0)) p0_1))))))), (28, .slice a131 ((y_51).length) c132), (218, .agg #[.slice a140 ((y_53).length) c141, .int .i64 y_54, .slice a143 ((y_55).length) c144]), (219, .int .i64 y_56)] rfl ⟨rfl, rfl, rfl, rfl, rfl, rfl, rfl, rfl, rfl, rfl, trivial⟩ ?_
                          refine WO_alloc tbok [.slice none 0 0, .int .i64 0, .slice none 0 0] rfl rfl trivial rfl rfl rfl rfl (fun b152 => ?_)
                          refine WO.cls (C' := St w0 m m148 [[⟨b3, 24, [.int .i64 p0_0, .int .i64 p0_1, .int .i64 p0_2, .slice a_p0_3 p0_3.length c_p0_3]⟩], [⟨b4, 24, [.int .i64 p1_0, .int .i64 p1_1, .int .i64 p1_2, .slice a_p1_3 p1_3.length c_p1_3]⟩], [⟨b5, 38, [.int .u8 p2_0, .int .u8 p2_1]⟩], L15, L28, [⟨b34, 43, [.slice a22 ((y_5).length) c23, .int .i64 y_6, .slice a25 ((y_7).length) c26]⟩], L42, [⟨b44, 24, [.int .i64 y_10, .int .i64 y_11, .int .i64 y_12, .slice a39 ((y_13).length) c40]⟩], L61, [⟨b63, 24, [.int .i64 y_17, .int .i64 y_18, .int .i64 y_19, .slice a58 ((y_20).length) c59]⟩], L68, [⟨b70, 24, [.int .i64 y_22, .int .i64 y_23, .int .i64 y_24, .slice a65 ((y_25).length) c66]⟩], L75, [⟨b77, 24, [.int .i64 y_27, .int .i64 y_28, .int .i64 y_29, .slice a72 ((y_30).length) c73]⟩], L85, L102, [⟨b104, 24, [.int .i64 y_35, .int .i64 y_36, .int .i64 y_37, .slice a99 ((y_38).length) c100]⟩], [], [⟨b116, 24, [.int .i64 y_41, .int .i64 y_42, .int .i64 y_43, .slice a111 ((y_44).length) c112]⟩], [], [⟨b123, 24, [.int .i64 y_46, .int .i64 y_47, .int .i64 y_48, .slice a118 ((y_49).length) c119]⟩], L134, L146, [⟨b152, 43, [.slice none 0 0, .int .i64 0, .slice none 0 0]⟩]]) (fun _ h => h) ?_
                          refine WO_storeB tbok 23 [.slice a140 ((y_53).length) c141, .int .i64 y_54, .slice a143 ((y_55).length) c144] rfl rfl rfl rfl rfl rfl rfl ?_
                          refine WO.cls (C' := St w0 m m148 [[⟨b3, 24, [.int .i64 p0_0, .int .i64 p0_1, .int .i64 p0_2, .slice a_p0_3 p0_3.length c_p0_3]⟩], [⟨b4, 24, [.int .i64 p1_0, .int .i64 p1_1, .int .i64 p1_2, .slice a_p1_3 p1_3.length c_p1_3]⟩], [⟨b5, 38, [.int .u8 p2_0, .int .u8 p2_1]⟩], L15, L28, [⟨b34, 43, [.slice a22 ((y_5).length) c23, .int .i64 y_6, .slice a25 ((y_7).length) c26]⟩], L42, [⟨b44, 24, [.int .i64 y_10, .int .i64 y_11, .int .i64 y_12, .slice a39 ((y_13).length) c40]⟩], L61, [⟨b63, 24, [.int .i64 y_17, .int .i64 y_18, .int .i64 y_19, .slice a58 ((y_20).length) c59]⟩], L68, [⟨b70, 24, [.int .i64 y_22, .int .i64 y_23, .int .i64 y_24, .slice a65 ((y_25).length) c66]⟩], L75, [⟨b77, 24, [.int .i64 y_27, .int .i64 y_28, .int .i64 y_29, .slice a72 ((y_30).length) c73]⟩], L85, L102, [⟨b104, 24, [.int .i64 y_35, .int .i64 y_36, .int .i64 y_37, .slice a99 ((y_38).length) c100]⟩], [], [⟨b116, 24, [.int .i64 y_41, .int .i64 y_42, .int .i64 y_43, .slice a111 ((y_44).length) c112]⟩], [], [⟨b123, 24, [.int .i64 y_46, .int .i64 y_47, .int .i64 y_48, .slice a118 ((y_49).length) c119]⟩], L134, L146, [⟨b152, 43, [.slice a140 ((y_53).length) c141, .int .i64 y_54, .slice a143 ((y_55).length) c144]⟩]]) (fun _ h => h) ?_
                          refine WO_pure tbok 1 [(6, .bool false), (8, .int .i64 y_45), (9, .pointer (some ⟨b34, 0, none⟩)), (16, .int .i64 y_50), (18, .int .i64 y_52), (23, .int .i64 y_56), (24, .int .i64 (Int.tmod (w64 (p2_0)) p0_1)), (25, .int .i64 (w64 (1 + (Int.tmod (w64 (p2_1)) (w64 (p0_1 - (Int.tmod (w64 (p2_0)) p0_1))))))), (28, .slice a131 ((y_51).length) c132), (29, .pointer (some ⟨b152, 0, none⟩))] rfl ⟨rfl, rfl, rfl, rfl, rfl, rfl, rfl, rfl, rfl, rfl, trivial⟩ ?_
                          refine WO_end ?_
                          refine WK_seq ?_
                          refine WK_region ?_
                          refine WO_pure tbok 2 [(6, .bool false), (8, .int .i64 y_45), (16, .int .i64 y_50), (18, .int .i64 y_52), (23, .int .i64 y_56), (24, .int .i64 (Int.tmod (w64 (p2_0)) p0_1)), (25, .int .i64 (w64 (1 + (Int.tmod (w64 (p2_1)) (w64 (p0_1 - (Int.tmod (w64 (p2_0)) p0_1))))))), (29, .pointer (some ⟨b152, 0, none⟩)), (221, .slice a131 ((y_51).length) c132), (222, .pointer (some ⟨b34, 0, none⟩))] rfl ⟨rfl, rfl, rfl, rfl, rfl, rfl, rfl, rfl, rfl, rfl, trivial⟩ ?_
                          refine WO_loadB tbok 5 rfl rfl rfl rfl (fun _ h => h) rfl rfl ?_
                          refine WO_pure tbok 4 [(6, .bool false), (8, .int .i64 y_45), (16, .int .i64 y_50), (18, .int .i64 y_52), (23, .int .i64 y_56), (29, .pointer (some ⟨b152, 0, none⟩)), (221, .slice a131 ((y_51).length) c132), (223, .slice a22 ((y_5).length) c23), (224, .int .i64 (Int.tmod (w64 (p2_0)) p0_1)), (227, .int .i64 (w64 ((Int.tmod (w64 (p2_0)) p0_1) + (w64 (1 + (Int.tmod (w64 (p2_1)) (w64 (p0_1 - (Int.tmod (w64 (p2_0)) p0_1)))))))))] rfl ⟨rfl, rfl, rfl, rfl, rfl, rfl, rfl, rfl, rfl, rfl, trivial⟩ ?_
                          obtain ⟨hc153, hm⟩ := chk_some hm
                          have hc153 : 0 ≤ (Int.tmod (w64 (p2_0)) p0_1 : Int) ∧ (Int.tmod (w64 (p2_0)) p0_1 : Int) ≤ (w64 ((Int.tmod (w64 (p2_0)) p0_1) + (w64 (1 + (Int.tmod (w64 (p2_1)) (w64 (p0_1 - (Int.tmod (w64 (p2_0)) p0_1))))))) : Int) ∧ (w64 ((Int.tmod (w64 (p2_0)) p0_1) + (w64 (1 + (Int.tmod (w64 (p2_1)) (w64 (p0_1 - (Int.tmod (w64 (p2_0)) p0_1))))))) : Int) ≤ (y_5.length : Int) := hc153
                          have hz157 : SlR (FE (I1 .i64)) 1 m148 (.slice a22 ((y_5).length) c23) y_5 := ((((h32.mono (mono_FE _) hle125).mono (mono_FE _) hle128).mono (mono_FE _) hle137).mono (mono_FE _) hle149)
                          refine WO_slice tbok (some (Int.tmod (w64 (p2_0)) p0_1 : Int)) (some (w64 ((Int.tmod (w64 (p2_0)) p0_1) + (w64 (1 + (Int.tmod (w64 (p2_1)) (w64 (p0_1 - (Int.tmod (w64 (p2_0)) p0_1))))))) : Int)) none (Int.tmod (w64 (p2_0)) p0_1 : Int).toNat (w64 ((Int.tmod (w64 (p2_0)) p0_1) + (w64 (1 + (Int.tmod (w64 (p2_1)) (w64 (p0_1 - (Int.tmod (w64 (p2_0)) p0_1))))))) : Int).toNat rfl rfl rfl rfl rfl rfl rfl rfl rfl rfl rfl hz157 (by simp only [Option.getD_some] <;> omega) (by simp only [Option.getD_some] <;> omega) (fun q hq => by cases hq) (by omega) (by omega) (fun hh => by cases hh) (fun a154 c155 h156 => ?_)
                          obtain ⟨⟨y_57, y_58⟩, hc159, hm⟩ := bind_some hm
                          refine WO_call0 (.tuple #[.int .i64 y_57, .int .i64 y_58]) rfl rfl trivial rfl rfl rfl rfl St_closed ⟨18, #[], #[], rfl, callable_18, fun w hw => ⟨_, hw.sat, seam_Total_walk (h138.mono (mono_RowE (mono_FE _) _) hle149) h156 hc159⟩⟩ ?_
                          refine WO_pure tbok 5 [(6, .bool false), (8, .int .i64 y_45), (16, .int .i64 y_50), (18, .int .i64 y_52), (23, .int .i64 y_56), (29, .pointer (some ⟨b152, 0, none⟩)), (30, .int .i64 y_57), (31, .int .i64 y_58)] rfl ⟨rfl, rfl, rfl, rfl, rfl, rfl, rfl, rfl, trivial⟩ ?_
                          refine WO_end ?_
                          refine WK_seq ?_
                          refine WK_region ?_
                          refine WO_pure tbok 11 [(6, .bool false), (29, .pointer (some ⟨b152, 0, none⟩)), (30, .int .i64 y_57), (242, .bool ((w64 ((w64 ((w64 ((w64 (y_45 + y_50)) + y_52)) + y_56)) + y_58)) == 0))] rfl ⟨rfl, rfl, rfl, rfl, trivial⟩ ?_
                          refine WO_split (d := 242) (b := (w64 ((w64 ((w64 ((w64 (y_45 + y_50)) + y_52)) + y_56)) + y_58)) == 0) rfl (fun hb160 => ?_) (fun hb160 => ?_)
                          · have hm := ifT hb160 hm
                            refine WO_pure tbok 1 [(6, .bool false), (30, .int .i64 y_57), (242, .bool true), (243, .pointer (some ⟨b152, 1, none⟩))] rfl ⟨rfl, rfl, rfl, rfl, trivial⟩ ?_
                            refine WO_loadB tbok 23 rfl rfl rfl rfl (fun _ h => h) rfl rfl ?_
                            refine WO_pure tbok 4 [(6, .bool (decide (y_54 ≤ y_57)))] rfl ⟨rfl, trivial⟩ ?_
                            refine WO_end ?_
                            cases hm
                            exact WK_ret (ret_out (L := []) (RLc_tmp rfl RLc_nil) (List.nil_sublist _) rfl)
                          · have hm := ifF hb160 hm
                            refine WO_pure tbok 6 [(6, .bool false)] rfl ⟨rfl, trivial⟩ ?_
                            refine WO_end ?_
                            cases hm
                            exact WK_ret (ret_out (L := []) (RLc_tmp rfl RLc_nil) (List.nil_sublist _) rfl)
                      · refine WK_region ?_
                        refine WO_pure tbok 9 [(3, .pointer (some ⟨b3, 0, none⟩)), (4, .pointer (some ⟨b4, 0, none⟩)), (5, .pointer (some ⟨b5, 0, none⟩)), (6, .bool false), (9, .pointer (some ⟨b34, 0, none⟩)), (17, .pointer (some ⟨b77, 0, none⟩)), (22, .pointer (some ⟨b104, 0, none⟩)), (170, .bool ((w64 ((w64 ((w64 (y_21 + y_26)) + y_31)) + y_39)) != 0))] rfl ⟨rfl, rfl, rfl, rfl, rfl, rfl, rfl, rfl, trivial⟩ ?_
                        refine WO_split (d := 170) (b := (w64 ((w64 ((w64 (y_21 + y_26)) + y_31)) + y_39)) != 0) rfl (fun hb161 => ?_) (fun hb161 => ?_)
                        · have hx105 := ifT hb161 hx105
                          refine WO_pure tbok 2 [(3, .pointer (some ⟨b3, 0, none⟩)), (4, .pointer (some ⟨b4, 0, none⟩)), (5, .pointer (some ⟨b5, 0, none⟩)), (6, .bool false), (9, .pointer (some ⟨b34, 0, none⟩)), (170, .bool true)] rfl ⟨rfl, rfl, rfl, rfl, rfl, rfl, trivial⟩ ?_
                          refine WO_skip rfl rfl ?_
                          refine WO_pure tbok 2 [(3, .pointer (some ⟨b3, 0, none⟩)), (4, .pointer (some ⟨b4, 0, none⟩)), (5, .pointer (some ⟨b5, 0, none⟩)), (6, .bool false), (9, .pointer (some ⟨b34, 0, none⟩)), (175, .bool true)] rfl ⟨rfl, rfl, rfl, rfl, rfl, rfl, trivial⟩ ?_
                          refine WO_end ?_
                          cases hx105
                          refine WK.sub ?_ (WK.cls (fun _ h => h) hk106)
                          exact ⟨rfl, rfl, rfl, rfl, rfl, rfl, trivial⟩
                        · have hx105 := ifF hb161 hx105
                          refine WO_loadB tbok 16 rfl rfl rfl rfl (fun _ h => h) rfl rfl ?_
                          refine WO_loadB tbok 13 rfl rfl rfl rfl (fun _ h => h) rfl rfl ?_
                          obtain ⟨y_59, hc162, hx105⟩ := bind_some hx105
                          refine WO_call0 (.bool y_59) rfl rfl trivial rfl rfl rfl rfl St_closed ⟨16, #[], #[], rfl, callable_16, fun w hw => ⟨_, hw.satV, raster_Equal_walk (OwnE.rd (E := (I1 .i64)) (k := 1) (fun _ => rfl) hL102 (fun _ hx => hw.memV (i := 15) rfl hx)) (OwnE.rd (E := (I1 .i64)) (k := 1) (fun _ => rfl) hL75 (fun _ hx => hw.memV (i := 12) rfl hx)) hc162⟩⟩ ?_
                          refine WO_pure tbok 2 [(3, .pointer (some ⟨b3, 0, none⟩)), (4, .pointer (some ⟨b4, 0, none⟩)), (5, .pointer (some ⟨b5, 0, none⟩)), (6, .bool false), (9, .pointer (some ⟨b34, 0, none⟩)), (175, .bool (!y_59))] rfl ⟨rfl, rfl, rfl, rfl, rfl, rfl, trivial⟩ ?_
                          refine WO_end ?_
                          cases hx105
                          refine WK.sub ?_ (WK.cls (fun _ h => h) hk106)
                          exact ⟨rfl, rfl, rfl, rfl, rfl, rfl, trivial⟩
                    · refine WK_block ?_
                      refine WK_loop (S := List Int × Int) (G := Option Addr × Nat × Nat × List Ent) (fun s => fiducialtop_TopSeams_s2 p0_0 y_5 s.1 s.2) (fun s g => [(3, .pointer (some ⟨b3, 0, none⟩)), (4, .pointer (some ⟨b4, 0, none⟩)), (5, .pointer (some ⟨b5, 0, none⟩)), (6, .bool false), (8, .int .i64 y_21), (9, .pointer (some ⟨b34, 0, none⟩)), (14, .pointer (some ⟨b63, 0, none⟩)), (15, .pointer (some ⟨b70, 0, none⟩)), (16, .int .i64 y_26), (17, .pointer (some ⟨b77, 0, none⟩)), (18, .int .i64 y_31), (19, .slice g.1 g.2.1 g.2.2.1), (141, .slice a22 ((y_5).length) c23), (142, .int .i64 ((y_5).length : Int)), (143, .int .i64 s.2)]) (fun s g => St w0 m m30 [[⟨b3, 24, [.int .i64 p0_0, .int .i64 p0_1, .int .i64 p0_2, .slice a_p0_3 p0_3.length c_p0_3]⟩], [⟨b4, 24, [.int .i64 p1_0, .int .i64 p1_1, .int .i64 p1_2, .slice a_p1_3 p1_3.length c_p1_3]⟩], [⟨b5, 38, [.int .u8 p2_0, .int .u8 p2_1]⟩], L15, L28, [⟨b34, 43, [.slice a22 ((y_5).length) c23, .int .i64 y_6, .slice a25 ((y_7).length) c26]⟩], L42, [⟨b44, 24, [.int .i64 y_10, .int .i64 y_11, .int .i64 y_12, .slice a39 ((y_13).length) c40]⟩], L61, [⟨b63, 24, [.int .i64 y_17, .int .i64 y_18, .int .i64 y_19, .slice a58 ((y_20).length) c59]⟩], L68, [⟨b70, 24, [.int .i64 y_22, .int .i64 y_23, .int .i64 y_24, .slice a65 ((y_25).length) c66]⟩], L75, [⟨b77, 24, [.int .i64 y_27, .int .i64 y_28, .int .i64 y_29, .slice a72 ((y_30).length) c73]⟩], g.2.2.2]) (fun s g => OwnE 3 1 (I1 .i64) (.slice g.1 g.2.1 g.2.2.1) s.1 g.2.2.2) FUEL (([] : List Int), 0) (none, 0, 0, []) x89 hx90 (OwnE.nil (T := 3) (k := 1) (E := (I1 .i64)) none) ⟨rfl, rfl, rfl, rfl, rfl, rfl, rfl, rfl, rfl, rfl, rfl, rfl, rfl, rfl, rfl, trivial⟩ (fun _ h => h) ?_
                      rintro ⟨l_32, s_33⟩ ⟨a81, q82, c83, L80⟩ o93 fl94 hm92 hL80 hn95 hd96
                      have hm92 : fiducialtop_TopSeams_s2 p0_0 y_5 l_32 s_33 = some o93 := hm92
                      unfold fiducialtop_TopSeams_s2 at hm92
                      have hqq : q82 = l_32.length := OwnE.qlen hL80
                      subst hqq
                      refine WK.sub (e' := [(3, .pointer (some ⟨b3, 0, none⟩)), (4, .pointer (some ⟨b4, 0, none⟩)), (5, .pointer (some ⟨b5, 0, none⟩)), (6, .bool false), (8, .int .i64 y_21), (9, .pointer (some ⟨b34, 0, none⟩)), (14, .pointer (some ⟨b63, 0, none⟩)), (15, .pointer (some ⟨b70, 0, none⟩)), (16, .int .i64 y_26), (17, .pointer (some ⟨b77, 0, none⟩)), (18, .int .i64 y_31), (19, .slice a81 ((l_32).length) c83), (141, .slice a22 ((y_5).length) c23), (142, .int .i64 ((y_5).length : Int)), (143, .int .i64 s_33)]) ⟨rfl, rfl, rfl, rfl, rfl, rfl, rfl, rfl, rfl, rfl, rfl, rfl, rfl, rfl, rfl, trivial⟩ (WK.cls (C' := St w0 m m30 [[⟨b3, 24, [.int .i64 p0_0, .int .i64 p0_1, .int .i64 p0_2, .slice a_p0_3 p0_3.length c_p0_3]⟩], [⟨b4, 24, [.int .i64 p1_0, .int .i64 p1_1, .int .i64 p1_2, .slice a_p1_3 p1_3.length c_p1_3]⟩], [⟨b5, 38, [.int .u8 p2_0, .int .u8 p2_1]⟩], L15, L28, [⟨b34, 43, [.slice a22 ((y_5).length) c23, .int .i64 y_6, .slice a25 ((y_7).length) c26]⟩], L42, [⟨b44, 24, [.int .i64 y_10, .int .i64 y_11, .int .i64 y_12, .slice a39 ((y_13).length) c40]⟩], L61, [⟨b63, 24, [.int .i64 y_17, .int .i64 y_18, .int .i64 y_19, .slice a58 ((y_20).length) c59]⟩], L68, [⟨b70, 24, [.int .i64 y_22, .int .i64 y_23, .int .i64 y_24, .slice a65 ((y_25).length) c66]⟩], L75, [⟨b77, 24, [.int .i64 y_27, .int .i64 y_28, .int .i64 y_29, .slice a72 ((y_30).length) c73]⟩], L80]) (fun _ h => h) ?_)
                      refine WK_seq ?_
                      refine WK_region ?_
                      refine WO_pure tbok 1 [(3, .pointer (some ⟨b3, 0, none⟩)), (4, .pointer (some ⟨b4, 0, none⟩)), (5, .pointer (some ⟨b5, 0, none⟩)), (6, .bool false), (8, .int .i64 y_21), (9, .pointer (some ⟨b34, 0, none⟩)), (14, .pointer (some ⟨b63, 0, none⟩)), (15, .pointer (some ⟨b70, 0, none⟩)), (16, .int .i64 y_26), (17, .pointer (some ⟨b77, 0, none⟩)), (18, .int .i64 y_31), (19, .slice a81 ((l_32).length) c83), (141, .slice a22 ((y_5).length) c23), (142, .int .i64 ((y_5).length : Int)), (143, .int .i64 s_33), (144, .bool (decide (s_33 < ((y_5).length : Int))))] rfl ⟨rfl, rfl, rfl, rfl, rfl, rfl, rfl, rfl, rfl, rfl, rfl, rfl, rfl, rfl, rfl, rfl, trivial⟩ ?_
                      refine WO_end ?_
                      refine WK_seq ?_
                      refine WK_cond (b := decide (s_33 < ((y_5).length : Int))) rfl (fun hb163 => ?_) (fun hb163 => ?_)
                      · have hm92 := ifT hb163 hm92
                        refine WK_skip ?_
                        refine WK_seq ?_
                        refine WK_block ?_
                        refine WK_seq ?_
                        refine WK_region ?_
                        obtain ⟨v_60, hy164, hm92⟩ := bind_some hm92
                        obtain ⟨hc165, hy164⟩ := ix_some hy164
                        refine WO_index tbok rfl rfl rfl rfl rfl rfl rfl rfl (SlR.addr h32) hc165 ?_
                        refine WO_loadE tbok rfl rfl rfl rfl (fun _ h => St.sat h) h32 hy164 rfl ?_
                        refine WO_pure tbok 1 [(3, .pointer (some ⟨b3, 0, none⟩)), (4, .pointer (some ⟨b4, 0, none⟩)), (5, .pointer (some ⟨b5, 0, none⟩)), (6, .bool false), (8, .int .i64 y_21), (9, .pointer (some ⟨b34, 0, none⟩)), (14, .pointer (some ⟨b63, 0, none⟩)), (15, .pointer (some ⟨b70, 0, none⟩)), (16, .int .i64 y_26), (17, .pointer (some ⟨b77, 0, none⟩)), (18, .int .i64 y_31), (19, .slice a81 ((l_32).length) c83), (21, .int .i64 v_60), (141, .slice a22 ((y_5).length) c23), (142, .int .i64 ((y_5).length : Int)), (143, .int .i64 s_33)] rfl ⟨rfl, rfl, rfl, rfl, rfl, rfl, rfl, rfl, rfl, rfl, rfl, rfl, rfl, rfl, rfl, rfl, trivial⟩ ?_
                        refine WO_end ?_
                        refine WK_region ?_
                        refine WO_pure tbok 2 [(3, .pointer (some ⟨b3, 0, none⟩)), (4, .pointer (some ⟨b4, 0, none⟩)), (5, .pointer (some ⟨b5, 0, none⟩)), (6, .bool false), (8, .int .i64 y_21), (9, .pointer (some ⟨b34, 0, none⟩)), (14, .pointer (some ⟨b63, 0, none⟩)), (15, .pointer (some ⟨b70, 0, none⟩)), (16, .int .i64 y_26), (17, .pointer (some ⟨b77, 0, none⟩)), (18, .int .i64 y_31), (19, .slice a81 ((l_32).length) c83), (21, .int .i64 v_60), (141, .slice a22 ((y_5).length) c23), (142, .int .i64 ((y_5).length : Int)), (143, .int .i64 s_33), (147, .slice a81 ((l_32).length) c83), (148, .pointer (some ⟨b3, 0, none⟩))] rfl ⟨rfl, rfl, rfl, rfl, rfl, rfl, rfl, rfl, rfl, rfl, rfl, rfl, rfl, rfl, rfl, rfl, rfl, rfl, trivial⟩ ?_
                        refine WO_loadB tbok 0 rfl rfl rfl rfl (fun _ h => h) rfl rfl ?_
                        refine WO_pure tbok 2 [(3, .pointer (some ⟨b3, 0, none⟩)), (4, .pointer (some ⟨b4, 0, none⟩)), (5, .pointer (some ⟨b5, 0, none⟩)), (6, .bool false), (8, .int .i64 y_21), (9, .pointer (some ⟨b34, 0, none⟩)), (14, .pointer (some ⟨b63, 0, none⟩)), (15, .pointer (some ⟨b70, 0, none⟩)), (16, .int .i64 y_26), (17, .pointer (some ⟨b77, 0, none⟩)), (18, .int .i64 y_31), (19, .slice a81 ((l_32).length) c83), (141, .slice a22 ((y_5).length) c23), (142, .int .i64 ((y_5).length : Int)), (143, .int .i64 s_33), (147, .slice a81 ((l_32).length) c83), (151, .int .i64 (w64 (p0_0 - v_60)))] rfl ⟨rfl, rfl, rfl, rfl, rfl, rfl, rfl, rfl, rfl, rfl, rfl, rfl, rfl, rfl, rfl, rfl, rfl, trivial⟩ ?_
                        refine WO_bslice (E := (I1 .i64)) tbok (fun _ => rfl) (by decide) [.int .i64 (w64 (p0_0 - v_60))] ([w64 (p0_0 - v_60)] : List Int) rfl rfl trivial rfl rfl rfl rfl rfl rfl rfl rfl rfl rfl rfl rfl (fun b166 hb166 => ?_)
                        refine WO.cls (C' := St w0 m m30 [[⟨b3, 24, [.int .i64 p0_0, .int .i64 p0_1, .int .i64 p0_2, .slice a_p0_3 p0_3.length c_p0_3]⟩], [⟨b4, 24, [.int .i64 p1_0, .int .i64 p1_1, .int .i64 p1_2, .slice a_p1_3 p1_3.length c_p1_3]⟩], [⟨b5, 38, [.int .u8 p2_0, .int .u8 p2_1]⟩], L15, L28, [⟨b34, 43, [.slice a22 ((y_5).length) c23, .int .i64 y_6, .slice a25 ((y_7).length) c26]⟩], L42, [⟨b44, 24, [.int .i64 y_10, .int .i64 y_11, .int .i64 y_12, .slice a39 ((y_13).length) c40]⟩], L61, [⟨b63, 24, [.int .i64 y_17, .int .i64 y_18, .int .i64 y_19, .slice a58 ((y_20).length) c59]⟩], L68, [⟨b70, 24, [.int .i64 y_22, .int .i64 y_23, .int .i64 y_24, .slice a65 ((y_25).length) c66]⟩], L75, [⟨b77, 24, [.int .i64 y_27, .int .i64 y_28, .int .i64 y_29, .slice a72 ((y_30).length) c73]⟩], L80, [⟨b166, 3, ([w64 (p0_0 - v_60)] : List Int).flatMap (I1 .i64)⟩]]) (fun _ h => h) ?_
                        obtain ⟨hc168, hm92⟩ := chk_some hm92
                        refine WO_append (E := (I1 .i64)) tbok (fun _ => rfl) 14 ([w64 (p0_0 - v_60)] : List Int) (fun _ _ => rfl) rfl rfl rfl rfl rfl rfl rfl rfl rfl rfl rfl rfl hL80 rfl (src_seg (j := 15) rfl) (ap_ok (by decide) hc168) (ap_max hc168) (fun a169 c170 L171 hL171 => ?_)
                        refine WO.cls (C' := St w0 m m30 [[⟨b3, 24, [.int .i64 p0_0, .int .i64 p0_1, .int .i64 p0_2, .slice a_p0_3 p0_3.length c_p0_3]⟩], [⟨b4, 24, [.int .i64 p1_0, .int .i64 p1_1, .int .i64 p1_2, .slice a_p1_3 p1_3.length c_p1_3]⟩], [⟨b5, 38, [.int .u8 p2_0, .int .u8 p2_1]⟩], L15, L28, [⟨b34, 43, [.slice a22 ((y_5).length) c23, .int .i64 y_6, .slice a25 ((y_7).length) c26]⟩], L42, [⟨b44, 24, [.int .i64 y_10, .int .i64 y_11, .int .i64 y_12, .slice a39 ((y_13).length) c40]⟩], L61, [⟨b63, 24, [.int .i64 y_17, .int .i64 y_18, .int .i64 y_19, .slice a58 ((y_20).length) c59]⟩], L68, [⟨b70, 24, [.int .i64 y_22, .int .i64 y_23, .int .i64 y_24, .slice a65 ((y_25).length) c66]⟩], L75, [⟨b77, 24, [.int .i64 y_27, .int .i64 y_28, .int .i64 y_29, .slice a72 ((y_30).length) c73]⟩], L171, [⟨b166, 3, ([w64 (p0_0 - v_60)] : List Int).flatMap (I1 .i64)⟩]]) (fun _ h => h) ?_
                        refine WO_pure tbok 1 [(3, .pointer (some ⟨b3, 0, none⟩)), (4, .pointer (some ⟨b4, 0, none⟩)), (5, .pointer (some ⟨b5, 0, none⟩)), (6, .bool false), (8, .int .i64 y_21), (9, .pointer (some ⟨b34, 0, none⟩)), (14, .pointer (some ⟨b63, 0, none⟩)), (15, .pointer (some ⟨b70, 0, none⟩)), (16, .int .i64 y_26), (17, .pointer (some ⟨b77, 0, none⟩)), (18, .int .i64 y_31), (19, .slice a169 ((l_32 ++ ([w64 (p0_0 - v_60)] : List Int)).length) c170), (141, .slice a22 ((y_5).length) c23), (142, .int .i64 ((y_5).length : Int)), (143, .int .i64 s_33)] rfl ⟨rfl, rfl, rfl, rfl, rfl, rfl, rfl, rfl, rfl, rfl, rfl, rfl, rfl, rfl, rfl, trivial⟩ ?_
                        refine WO_end ?_
                        refine WK_blk ?_
                        refine WK_region ?_
                        refine WO_pure tbok 2 [(3, .pointer (some ⟨b3, 0, none⟩)), (4, .pointer (some ⟨b4, 0, none⟩)), (5, .pointer (some ⟨b5, 0, none⟩)), (6, .bool false), (8, .int .i64 y_21), (9, .pointer (some ⟨b34, 0, none⟩)), (14, .pointer (some ⟨b63, 0, none⟩)), (15, .pointer (some ⟨b70, 0, none⟩)), (16, .int .i64 y_26), (17, .pointer (some ⟨b77, 0, none⟩)), (18, .int .i64 y_31), (19, .slice a169 ((l_32 ++ ([w64 (p0_0 - v_60)] : List Int)).length) c170), (141, .slice a22 ((y_5).length) c23), (142, .int .i64 ((y_5).length : Int)), (143, .int .i64 (w64 (s_33 + 1)))] rfl ⟨rfl, rfl, rfl, rfl, rfl, rfl, rfl, rfl, rfl, rfl, rfl, rfl, rfl, rfl, rfl, trivial⟩ ?_
                        refine WO_end ?_
                        cases hm92
                        refine WK.sub ?_ (WK.cls (fun _ h => St.take 15 h) (hn95 _ (a169, (l_32 ++ ([w64 (p0_0 - v_60)] : List Int)).length, c170, L171) rfl hL171))
                        exact ⟨rfl, rfl, rfl, rfl, rfl, rfl, rfl, rfl, rfl, rfl, rfl, rfl, rfl, rfl, rfl, trivial⟩
                      · have hm92 := ifF hb163 hm92
                        refine WK_exit rfl ?_
                        cases hm92
                        refine WK.sub ?_ (WK.cls (fun _ h => h) (hk91 (l_32, (a81, _, c83, L80)) ⟨(hd96 _ rfl), hL80⟩))
                        exact ⟨rfl, rfl, rfl, rfl, rfl, rfl, rfl, rfl, rfl, rfl, rfl, rfl, trivial⟩
                  · refine WK_block ?_
                    refine WK_loop (S := Int) (G := Unit) (fun s => fiducialtop_TopSeams_s1 p0_3 p1_3 y_13 s) (fun s g => [(3, .pointer (some ⟨b3, 0, none⟩)), (4, .pointer (some ⟨b4, 0, none⟩)), (5, .pointer (some ⟨b5, 0, none⟩)), (6, .bool false), (9, .pointer (some ⟨b34, 0, none⟩)), (10, .pointer (some ⟨b44, 0, none⟩)), (100, .slice a_p0_3 p0_3.length c_p0_3), (101, .int .i64 (p0_3.length : Int)), (102, .int .i64 s)]) (fun s g => St w0 m m30 [[⟨b3, 24, [.int .i64 p0_0, .int .i64 p0_1, .int .i64 p0_2, .slice a_p0_3 p0_3.length c_p0_3]⟩], [⟨b4, 24, [.int .i64 p1_0, .int .i64 p1_1, .int .i64 p1_2, .slice a_p1_3 p1_3.length c_p1_3]⟩], [⟨b5, 38, [.int .u8 p2_0, .int .u8 p2_1]⟩], L15, L28, [⟨b34, 43, [.slice a22 ((y_5).length) c23, .int .i64 y_6, .slice a25 ((y_7).length) c26]⟩], L42, [⟨b44, 24, [.int .i64 y_10, .int .i64 y_11, .int .i64 y_12, .slice a39 ((y_13).length) c40]⟩]]) (fun s g => True) FUEL 0 () x48 hx49 trivial ⟨rfl, rfl, rfl, rfl, rfl, rfl, rfl, rfl, rfl, trivial⟩ (fun _ h => h) ?_
                    rintro s_16 ⟨⟩ o52 fl53 hm51 - hn54 hd55
                    have hm51 : fiducialtop_TopSeams_s1 p0_3 p1_3 y_13 s_16 = some o52 := hm51
                    unfold fiducialtop_TopSeams_s1 at hm51
                    refine WK.sub (e' := [(3, .pointer (some ⟨b3, 0, none⟩)), (4, .pointer (some ⟨b4, 0, none⟩)), (5, .pointer (some ⟨b5, 0, none⟩)), (6, .bool false), (9, .pointer (some ⟨b34, 0, none⟩)), (10, .pointer (some ⟨b44, 0, none⟩)), (100, .slice a_p0_3 p0_3.length c_p0_3), (101, .int .i64 (p0_3.length : Int)), (102, .int .i64 s_16)]) ⟨rfl, rfl, rfl, rfl, rfl, rfl, rfl, rfl, rfl, trivial⟩ (WK.cls (C' := St w0 m m30 [[⟨b3, 24, [.int .i64 p0_0, .int .i64 p0_1, .int .i64 p0_2, .slice a_p0_3 p0_3.length c_p0_3]⟩], [⟨b4, 24, [.int .i64 p1_0, .int .i64 p1_1, .int .i64 p1_2, .slice a_p1_3 p1_3.length c_p1_3]⟩], [⟨b5, 38, [.int .u8 p2_0, .int .u8 p2_1]⟩], L15, L28, [⟨b34, 43, [.slice a22 ((y_5).length) c23, .int .i64 y_6, .slice a25 ((y_7).length) c26]⟩], L42, [⟨b44, 24, [.int .i64 y_10, .int .i64 y_11, .int .i64 y_12, .slice a39 ((y_13).length) c40]⟩]]) (fun _ h => h) ?_)
                    refine WK_seq ?_
                    refine WK_region ?_
                    refine WO_pure tbok 1 [(3, .pointer (some ⟨b3, 0, none⟩)), (4, .pointer (some ⟨b4, 0, none⟩)), (5, .pointer (some ⟨b5, 0, none⟩)), (6, .bool false), (9, .pointer (some ⟨b34, 0, none⟩)), (10, .pointer (some ⟨b44, 0, none⟩)), (100, .slice a_p0_3 p0_3.length c_p0_3), (101, .int .i64 (p0_3.length : Int)), (102, .int .i64 s_16), (103, .bool (decide (s_16 < (p0_3.length : Int))))] rfl ⟨rfl, rfl, rfl, rfl, rfl, rfl, rfl, rfl, rfl, rfl, trivial⟩ ?_
                    refine WO_end ?_
                    refine WK_seq ?_
                    refine WK_cond (b := decide (s_16 < (p0_3.length : Int))) rfl (fun hb173 => ?_) (fun hb173 => ?_)
                    · have hm51 := ifT hb173 hm51
                      refine WK_skip ?_
                      refine WK_seq ?_
                      refine WK_block ?_
                      refine WK_seq ?_
                      refine WK_region ?_
                      refine WO_pure tbok 1 [(3, .pointer (some ⟨b3, 0, none⟩)), (4, .pointer (some ⟨b4, 0, none⟩)), (5, .pointer (some ⟨b5, 0, none⟩)), (6, .bool false), (9, .pointer (some ⟨b34, 0, none⟩)), (10, .pointer (some ⟨b44, 0, none⟩)), (100, .slice a_p0_3 p0_3.length c_p0_3), (101, .int .i64 (p0_3.length : Int)), (102, .int .i64 s_16), (104, .int .i64 s_16)] rfl ⟨rfl, rfl, rfl, rfl, rfl, rfl, rfl, rfl, rfl, rfl, trivial⟩ ?_
                      obtain ⟨v_61, hy174, hm51⟩ := bind_some hm51
                      obtain ⟨hc175, hy174⟩ := ix_some hy174
                      refine WO_index tbok rfl rfl rfl rfl rfl rfl rfl rfl (SlR.addr ((h_p0_3.mono (mono_FE _) hle18).mono (mono_FE _) hle31)) hc175 ?_
                      refine WO_loadE tbok rfl rfl rfl rfl (fun _ h => St.sat h) ((h_p0_3.mono (mono_FE _) hle18).mono (mono_FE _) hle31) hy174 rfl ?_
                      refine WO_pure tbok 2 [(3, .pointer (some ⟨b3, 0, none⟩)), (4, .pointer (some ⟨b4, 0, none⟩)), (5, .pointer (some ⟨b5, 0, none⟩)), (6, .bool false), (9, .pointer (some ⟨b34, 0, none⟩)), (10, .pointer (some ⟨b44, 0, none⟩)), (11, .int .i64 s_16), (12, .int .i64 v_61), (100, .slice a_p0_3 p0_3.length c_p0_3), (101, .int .i64 (p0_3.length : Int)), (102, .int .i64 s_16)] rfl ⟨rfl, rfl, rfl, rfl, rfl, rfl, rfl, rfl, rfl, rfl, rfl, trivial⟩ ?_
                      refine WO_end ?_
                      refine WK_seq ?_
                      refine WK_region ?_
                      refine WO_pure tbok 1 [(3, .pointer (some ⟨b3, 0, none⟩)), (4, .pointer (some ⟨b4, 0, none⟩)), (5, .pointer (some ⟨b5, 0, none⟩)), (6, .bool false), (9, .pointer (some ⟨b34, 0, none⟩)), (10, .pointer (some ⟨b44, 0, none⟩)), (11, .int .i64 s_16), (12, .int .i64 v_61), (100, .slice a_p0_3 p0_3.length c_p0_3), (101, .int .i64 (p0_3.length : Int)), (102, .int .i64 s_16), (107, .pointer (some ⟨b4, 3, none⟩))] rfl ⟨rfl, rfl, rfl, rfl, rfl, rfl, rfl, rfl, rfl, rfl, rfl, rfl, trivial⟩ ?_
                      refine WO_loadB tbok 1 rfl rfl rfl rfl (fun _ h => h) rfl rfl ?_
                      refine WO_pure tbok 1 [(3, .pointer (some ⟨b3, 0, none⟩)), (4, .pointer (some ⟨b4, 0, none⟩)), (5, .pointer (some ⟨b5, 0, none⟩)), (6, .bool false), (9, .pointer (some ⟨b34, 0, none⟩)), (10, .pointer (some ⟨b44, 0, none⟩)), (11, .int .i64 s_16), (12, .int .i64 v_61), (100, .slice a_p0_3 p0_3.length c_p0_3), (101, .int .i64 (p0_3.length : Int)), (102, .int .i64 s_16), (108, .slice a_p1_3 p1_3.length c_p1_3), (109, .int .i64 s_16)] rfl ⟨rfl, rfl, rfl, rfl, rfl, rfl, rfl, rfl, rfl, rfl, rfl, rfl, rfl, trivial⟩ ?_
                      obtain ⟨v_62, hy176, hm51⟩ := bind_some hm51
                      obtain ⟨hc177, hy176⟩ := ix_some hy176
                      refine WO_index tbok rfl rfl rfl rfl rfl rfl rfl rfl (SlR.addr ((h_p1_3.mono (mono_FE _) hle18).mono (mono_FE _) hle31)) hc177 ?_
                      refine WO_loadE tbok rfl rfl rfl rfl (fun _ h => St.sat h) ((h_p1_3.mono (mono_FE _) hle18).mono (mono_FE _) hle31) hy176 rfl ?_
                      refine WO_pure tbok 1 [(3, .pointer (some ⟨b3, 0, none⟩)), (4, .pointer (some ⟨b4, 0, none⟩)), (5, .pointer (some ⟨b5, 0, none⟩)), (6, .bool false), (9, .pointer (some ⟨b34, 0, none⟩)), (10, .pointer (some ⟨b44, 0, none⟩)), (11, .int .i64 s_16), (12, .int .i64 v_61), (13, .int .i64 v_62), (100, .slice a_p0_3 p0_3.length c_p0_3), (101, .int .i64 (p0_3.length : Int)), (102, .int .i64 s_16)] rfl ⟨rfl, rfl, rfl, rfl, rfl, rfl, rfl, rfl, rfl, rfl, rfl, rfl, trivial⟩ ?_
                      refine WO_end ?_
                      refine WK_seq ?_
                      obtain ⟨s_63, hx178, hm51⟩ := bind_some hm51
                      refine WK_meet [(3, .pointer (some ⟨b3, 0, none⟩)), (4, .pointer (some ⟨b4, 0, none⟩)), (5, .pointer (some ⟨b5, 0, none⟩)), (6, .bool false), (9, .pointer (some ⟨b34, 0, none⟩)), (10, .pointer (some ⟨b44, 0, none⟩)), (100, .slice a_p0_3 p0_3.length c_p0_3), (101, .int .i64 (p0_3.length : Int)), (102, .int .i64 s_16), (123, .bool s_63)] (St w0 m m30 [[⟨b3, 24, [.int .i64 p0_0, .int .i64 p0_1, .int .i64 p0_2, .slice a_p0_3 p0_3.length c_p0_3]⟩], [⟨b4, 24, [.int .i64 p1_0, .int .i64 p1_1, .int .i64 p1_2, .slice a_p1_3 p1_3.length c_p1_3]⟩], [⟨b5, 38, [.int .u8 p2_0, .int .u8 p2_1]⟩], L15, L28, [⟨b34, 43, [.slice a22 ((y_5).length) c23, .int .i64 y_6, .slice a25 ((y_7).length) c26]⟩], L42, [⟨b44, 24, [.int .i64 y_10, .int .i64 y_11, .int .i64 y_12, .slice a39 ((y_13).length) c40]⟩]]) ?_ (fun hk179 => ?_)
                      · refine WK_cond (b := s_63) rfl (fun hb180 => ?_) (fun hb180 => ?_)
                        · have hm51 := ifT hb180 hm51
                          refine WK_seq ?_
                          refine WK_region ?_
                          refine WO_pure tbok 1 [(3, .pointer (some ⟨b3, 0, none⟩)), (4, .pointer (some ⟨b4, 0, none⟩)), (5, .pointer (some ⟨b5, 0, none⟩)), (6, .bool false), (9, .pointer (some ⟨b34, 0, none⟩)), (10, .pointer (some ⟨b44, 0, none⟩)), (100, .slice a_p0_3 p0_3.length c_p0_3), (101, .int .i64 (p0_3.length : Int)), (102, .int .i64 s_16)] rfl ⟨rfl, rfl, rfl, rfl, rfl, rfl, rfl, rfl, rfl, trivial⟩ ?_
                          refine WO_end ?_
                          cases hm51
                          have hq := hd55 _ rfl
                          subst hq
                          have hm : some _ = some _ := hm
                          cases hm
                          exact WK_ret (ret_out (L := []) (RLc_tmp rfl RLc_nil) (List.nil_sublist _) rfl)
                        · have hm51 := ifF hb180 hm51
                          refine WK_skip ?_
                          refine WK_blk ?_
                          refine WK_region ?_
                          refine WO_pure tbok 2 [(3, .pointer (some ⟨b3, 0, none⟩)), (4, .pointer (some ⟨b4, 0, none⟩)), (5, .pointer (some ⟨b5, 0, none⟩)), (6, .bool false), (9, .pointer (some ⟨b34, 0, none⟩)), (10, .pointer (some ⟨b44, 0, none⟩)), (100, .slice a_p0_3 p0_3.length c_p0_3), (101, .int .i64 (p0_3.length : Int)), (102, .int .i64 (w64 (s_16 + 1)))] rfl ⟨rfl, rfl, rfl, rfl, rfl, rfl, rfl, rfl, rfl, trivial⟩ ?_
                          refine WO_end ?_
                          cases hm51
                          refine WK.sub ?_ (WK.cls (fun _ h => h) (hn54 _ () rfl trivial))
                          exact ⟨rfl, rfl, rfl, rfl, rfl, rfl, rfl, rfl, rfl, trivial⟩
                      · refine WK_region ?_
                        refine WO_pure tbok 4 [(3, .pointer (some ⟨b3, 0, none⟩)), (4, .pointer (some ⟨b4, 0, none⟩)), (5, .pointer (some ⟨b5, 0, none⟩)), (6, .bool false), (9, .pointer (some ⟨b34, 0, none⟩)), (10, .pointer (some ⟨b44, 0, none⟩)), (11, .int .i64 s_16), (12, .int .i64 v_61), (100, .slice a_p0_3 p0_3.length c_p0_3), (101, .int .i64 (p0_3.length : Int)), (102, .int .i64 s_16), (115, .bool (v_61 == v_62))] rfl ⟨rfl, rfl, rfl, rfl, rfl, rfl, rfl, rfl, rfl, rfl, rfl, rfl, trivial⟩ ?_
                        refine WO_split (d := 115) (b := v_61 == v_62) rfl (fun hb181 => ?_) (fun hb181 => ?_)
                        · have hx178 := ifT hb181 hx178
                          refine WO_pure tbok 1 [(3, .pointer (some ⟨b3, 0, none⟩)), (4, .pointer (some ⟨b4, 0, none⟩)), (5, .pointer (some ⟨b5, 0, none⟩)), (6, .bool false), (9, .pointer (some ⟨b34, 0, none⟩)), (10, .pointer (some ⟨b44, 0, none⟩)), (11, .int .i64 s_16), (12, .int .i64 v_61), (100, .slice a_p0_3 p0_3.length c_p0_3), (101, .int .i64 (p0_3.length : Int)), (102, .int .i64 s_16), (115, .bool true), (116, .pointer (some ⟨b44, 3, none⟩))] rfl ⟨rfl, rfl, rfl, rfl, rfl, rfl, rfl, rfl, rfl, rfl, rfl, rfl, rfl, trivial⟩ ?_
                          refine WO_loadB tbok 7 rfl rfl rfl rfl (fun _ h => h) rfl rfl ?_
                          refine WO_pure tbok 1 [(3, .pointer (some ⟨b3, 0, none⟩)), (4, .pointer (some ⟨b4, 0, none⟩)), (5, .pointer (some ⟨b5, 0, none⟩)), (6, .bool false), (9, .pointer (some ⟨b34, 0, none⟩)), (10, .pointer (some ⟨b44, 0, none⟩)), (12, .int .i64 v_61), (100, .slice a_p0_3 p0_3.length c_p0_3), (101, .int .i64 (p0_3.length : Int)), (102, .int .i64 s_16), (115, .bool true), (117, .slice a39 ((y_13).length) c40), (118, .int .i64 s_16)] rfl ⟨rfl, rfl, rfl, rfl, rfl, rfl, rfl, rfl, rfl, rfl, rfl, rfl, rfl, trivial⟩ ?_
                          obtain ⟨v_64, hy182, hx178⟩ := bind_some hx178
                          obtain ⟨hc183, hy182⟩ := ix_some hy182
                          refine WO_index tbok rfl rfl rfl rfl rfl rfl rfl rfl (OwnE.addr hL42) (by simpa using hc183) ?_
                          refine WO_loadO (E := (I1 .i64)) tbok (fun _ => rfl) 6 rfl rfl rfl rfl (fun _ h => h) hL42 rfl hy182 rfl ?_
                          refine WO_pure tbok 3 [(3, .pointer (some ⟨b3, 0, none⟩)), (4, .pointer (some ⟨b4, 0, none⟩)), (5, .pointer (some ⟨b5, 0, none⟩)), (6, .bool false), (9, .pointer (some ⟨b34, 0, none⟩)), (10, .pointer (some ⟨b44, 0, none⟩)), (100, .slice a_p0_3 p0_3.length c_p0_3), (101, .int .i64 (p0_3.length : Int)), (102, .int .i64 s_16), (123, .bool (v_64 != v_61))] rfl ⟨rfl, rfl, rfl, rfl, rfl, rfl, rfl, rfl, rfl, rfl, trivial⟩ ?_
                          refine WO_end ?_
                          cases hx178
                          refine WK.sub ?_ (WK.cls (fun _ h => h) hk179)
                          exact ⟨rfl, rfl, rfl, rfl, rfl, rfl, rfl, rfl, rfl, rfl, trivial⟩
                        · have hx178 := ifF hb181 hx178
                          refine WO_pure tbok 8 [(3, .pointer (some ⟨b3, 0, none⟩)), (4, .pointer (some ⟨b4, 0, none⟩)), (5, .pointer (some ⟨b5, 0, none⟩)), (6, .bool false), (9, .pointer (some ⟨b34, 0, none⟩)), (10, .pointer (some ⟨b44, 0, none⟩)), (100, .slice a_p0_3 p0_3.length c_p0_3), (101, .int .i64 (p0_3.length : Int)), (102, .int .i64 s_16), (123, .bool false)] rfl ⟨rfl, rfl, rfl, rfl, rfl, rfl, rfl, rfl, rfl, rfl, trivial⟩ ?_
                          refine WO_end ?_
                          cases hx178
                          refine WK.sub ?_ (WK.cls (fun _ h => h) hk179)
                          exact ⟨rfl, rfl, rfl, rfl, rfl, rfl, rfl, rfl, rfl, rfl, trivial⟩
                    · have hm51 := ifF hb173 hm51
                      refine WK_exit rfl ?_
                      cases hm51
                      refine WK.sub ?_ (WK.cls (fun _ h => h) (hk50 ((), ()) (hd55 _ rfl)))
                      exact ⟨rfl, rfl, rfl, rfl, rfl, rfl, trivial⟩
              · refine WK_region ?_
                refine WO_pure tbok 3 [(3, .pointer (some ⟨b3, 0, none⟩)), (4, .pointer (some ⟨b4, 0, none⟩)), (5, .pointer (some ⟨b5, 0, none⟩)), (6, .bool false), (9, .pointer (some ⟨b34, 0, none⟩)), (10, .pointer (some ⟨b44, 0, none⟩)), (85, .bool (y_14 != 0))] rfl ⟨rfl, rfl, rfl, rfl, rfl, rfl, rfl, trivial⟩ ?_
                refine WO_split (d := 85) (b := y_14 != 0) rfl (fun hb184 => ?_) (fun hb184 => ?_)
                · have hx45 := ifT hb184 hx45
                  refine WO_pure tbok 1 [(3, .pointer (some ⟨b3, 0, none⟩)), (4, .pointer (some ⟨b4, 0, none⟩)), (5, .pointer (some ⟨b5, 0, none⟩)), (6, .bool false), (9, .pointer (some ⟨b34, 0, none⟩)), (10, .pointer (some ⟨b44, 0, none⟩)), (85, .bool true)] rfl ⟨rfl, rfl, rfl, rfl, rfl, rfl, rfl, trivial⟩ ?_
                  refine WO_skip rfl rfl ?_
                  refine WO_pure tbok 11 [(3, .pointer (some ⟨b3, 0, none⟩)), (4, .pointer (some ⟨b4, 0, none⟩)), (5, .pointer (some ⟨b5, 0, none⟩)), (6, .bool false), (9, .pointer (some ⟨b34, 0, none⟩)), (10, .pointer (some ⟨b44, 0, none⟩)), (98, .bool true)] rfl ⟨rfl, rfl, rfl, rfl, rfl, rfl, rfl, trivial⟩ ?_
                  refine WO_end ?_
                  cases hx45
                  refine WK.sub ?_ (WK.cls (fun _ h => h) hk46)
                  exact ⟨rfl, rfl, rfl, rfl, rfl, rfl, rfl, trivial⟩
                · have hx45 := ifF hb184 hx45
                  refine WO_loadB tbok 7 rfl rfl rfl rfl (fun _ h => h) rfl rfl ?_
                  obtain ⟨y_65, hc185, hx45⟩ := bind_some hx45
                  refine WO_call0 (.int .i64 y_65) rfl rfl trivial rfl rfl rfl rfl St_closed ⟨7, #[], #[], rfl, callable_7, fun w hw => ⟨_, hw.satV, fiducialref13_Check_walk (OwnE.rd (E := (I1 .i64)) (k := 1) (fun _ => rfl) hL42 (fun _ hx => hw.memV (i := 6) rfl hx)) hc185⟩⟩ ?_
                  refine WO_pure tbok 3 [(3, .pointer (some ⟨b3, 0, none⟩)), (4, .pointer (some ⟨b4, 0, none⟩)), (5, .pointer (some ⟨b5, 0, none⟩)), (6, .bool false), (9, .pointer (some ⟨b34, 0, none⟩)), (10, .pointer (some ⟨b44, 0, none⟩)), (90, .bool (y_65 != 0))] rfl ⟨rfl, rfl, rfl, rfl, rfl, rfl, rfl, trivial⟩ ?_
                  refine WO_split (d := 90) (b := y_65 != 0) rfl (fun hb186 => ?_) (fun hb186 => ?_)
                  · have hx45 := ifT hb186 hx45
                    refine WO_pure tbok 8 [(3, .pointer (some ⟨b3, 0, none⟩)), (4, .pointer (some ⟨b4, 0, none⟩)), (5, .pointer (some ⟨b5, 0, none⟩)), (6, .bool false), (9, .pointer (some ⟨b34, 0, none⟩)), (10, .pointer (some ⟨b44, 0, none⟩)), (98, .bool true)] rfl ⟨rfl, rfl, rfl, rfl, rfl, rfl, rfl, trivial⟩ ?_
                    refine WO_end ?_
                    cases hx45
                    refine WK.sub ?_ (WK.cls (fun _ h => h) hk46)
                    exact ⟨rfl, rfl, rfl, rfl, rfl, rfl, rfl, trivial⟩
                  · have hx45 := ifF hb186 hx45
                    refine WO_pure tbok 1 [(3, .pointer (some ⟨b3, 0, none⟩)), (4, .pointer (some ⟨b4, 0, none⟩)), (5, .pointer (some ⟨b5, 0, none⟩)), (6, .bool false), (9, .pointer (some ⟨b34, 0, none⟩)), (10, .pointer (some ⟨b44, 0, none⟩)), (90, .bool false), (91, .pointer (some ⟨b44, 3, none⟩))] rfl ⟨rfl, rfl, rfl, rfl, rfl, rfl, rfl, rfl, trivial⟩ ?_
                    refine WO_loadB tbok 7 rfl rfl rfl rfl (fun _ h => h) rfl rfl ?_
                    refine WO_pure tbok 2 [(3, .pointer (some ⟨b3, 0, none⟩)), (4, .pointer (some ⟨b4, 0, none⟩)), (5, .pointer (some ⟨b5, 0, none⟩)), (6, .bool false), (9, .pointer (some ⟨b34, 0, none⟩)), (10, .pointer (some ⟨b44, 0, none⟩)), (90, .bool false), (93, .int .i64 ((y_13).length : Int)), (94, .pointer (some ⟨b3, 3, none⟩))] rfl ⟨rfl, rfl, rfl, rfl, rfl, rfl, rfl, rfl, rfl, trivial⟩ ?_
                    refine WO_loadB tbok 0 rfl rfl rfl rfl (fun _ h => h) rfl rfl ?_
                    refine WO_pure tbok 3 [(3, .pointer (some ⟨b3, 0, none⟩)), (4, .pointer (some ⟨b4, 0, none⟩)), (5, .pointer (some ⟨b5, 0, none⟩)), (6, .bool false), (9, .pointer (some ⟨b34, 0, none⟩)), (10, .pointer (some ⟨b44, 0, none⟩)), (98, .bool (((y_13).length : Int) != (p0_3.length : Int)))] rfl ⟨rfl, rfl, rfl, rfl, rfl, rfl, rfl, trivial⟩ ?_
                    refine WO_end ?_
                    cases hx45
                    refine WK.sub ?_ (WK.cls (fun _ h => h) hk46)
                    exact ⟨rfl, rfl, rfl, rfl, rfl, rfl, rfl, trivial⟩
          · refine WK_region ?_
            refine WO_pure tbok 3 [(3, .pointer (some ⟨b3, 0, none⟩)), (4, .pointer (some ⟨b4, 0, none⟩)), (5, .pointer (some ⟨b5, 0, none⟩)), (6, .bool false), (9, .pointer (some ⟨b34, 0, none⟩)), (67, .bool (y_8 != 0))] rfl ⟨rfl, rfl, rfl, rfl, rfl, rfl, trivial⟩ ?_
            refine WO_split (d := 67) (b := y_8 != 0) rfl (fun hb187 => ?_) (fun hb187 => ?_)
            · have hx35 := ifT hb187 hx35
              refine WO_pure tbok 7 [(3, .pointer (some ⟨b3, 0, none⟩)), (4, .pointer (some ⟨b4, 0, none⟩)), (5, .pointer (some ⟨b5, 0, none⟩)), (6, .bool false), (9, .pointer (some ⟨b34, 0, none⟩)), (74, .bool true)] rfl ⟨rfl, rfl, rfl, rfl, rfl, rfl, trivial⟩ ?_
              refine WO_end ?_
              cases hx35
              refine WK.sub ?_ (WK.cls (fun _ h => h) hk36)
              exact ⟨rfl, rfl, rfl, rfl, rfl, rfl, trivial⟩
            · have hx35 := ifF hb187 hx35
              refine WO_pure tbok 1 [(3, .pointer (some ⟨b3, 0, none⟩)), (4, .pointer (some ⟨b4, 0, none⟩)), (5, .pointer (some ⟨b5, 0, none⟩)), (6, .bool false), (9, .pointer (some ⟨b34, 0, none⟩)), (67, .bool false), (68, .pointer (some ⟨b34, 0, none⟩))] rfl ⟨rfl, rfl, rfl, rfl, rfl, rfl, rfl, trivial⟩ ?_
              refine WO_loadB tbok 5 rfl rfl rfl rfl (fun _ h => h) rfl rfl ?_
              refine WO_pure tbok 2 [(3, .pointer (some ⟨b3, 0, none⟩)), (4, .pointer (some ⟨b4, 0, none⟩)), (5, .pointer (some ⟨b5, 0, none⟩)), (6, .bool false), (9, .pointer (some ⟨b34, 0, none⟩)), (67, .bool false), (70, .int .i64 ((y_5).length : Int)), (71, .pointer (some ⟨b3, 1, none⟩))] rfl ⟨rfl, rfl, rfl, rfl, rfl, rfl, rfl, rfl, trivial⟩ ?_
              refine WO_loadB tbok 0 rfl rfl rfl rfl (fun _ h => h) rfl rfl ?_
              refine WO_pure tbok 2 [(3, .pointer (some ⟨b3, 0, none⟩)), (4, .pointer (some ⟨b4, 0, none⟩)), (5, .pointer (some ⟨b5, 0, none⟩)), (6, .bool false), (9, .pointer (some ⟨b34, 0, none⟩)), (74, .bool (((y_5).length : Int) != p0_1))] rfl ⟨rfl, rfl, rfl, rfl, rfl, rfl, trivial⟩ ?_
              refine WO_end ?_
              cases hx35
              refine WK.sub ?_ (WK.cls (fun _ h => h) hk36)
              exact ⟨rfl, rfl, rfl, rfl, rfl, rfl, trivial⟩
    · refine WK_region ?_
      refine WO_loadB tbok 0 rfl rfl rfl rfl (fun _ h => h) rfl rfl ?_
      obtain ⟨y_66, hc188, hx8⟩ := bind_some hx8
      refine WO_call0 (.int .i64 y_66) rfl rfl trivial rfl rfl rfl rfl St_closed ⟨7, #[], #[], rfl, callable_7, fun w hw => ⟨_, hw.sat, fiducialref13_Check_walk h_p0_3 hc188⟩⟩ ?_
      refine WO_pure tbok 2 [(3, .pointer (some ⟨b3, 0, none⟩)), (4, .pointer (some ⟨b4, 0, none⟩)), (5, .pointer (some ⟨b5, 0, none⟩)), (6, .bool false), (37, .bool (y_66 != 0))] rfl ⟨rfl, rfl, rfl, rfl, rfl, trivial⟩ ?_
      refine WO_split (d := 37) (b := y_66 != 0) rfl (fun hb189 => ?_) (fun hb189 => ?_)
      · have hx8 := ifT hb189 hx8
        refine WO_pure tbok 1 [(3, .pointer (some ⟨b3, 0, none⟩)), (4, .pointer (some ⟨b4, 0, none⟩)), (5, .pointer (some ⟨b5, 0, none⟩)), (6, .bool false), (37, .bool true)] rfl ⟨rfl, rfl, rfl, rfl, rfl, trivial⟩ ?_
        refine WO_skip rfl rfl ?_
        refine WO_pure tbok 10 [(3, .pointer (some ⟨b3, 0, none⟩)), (4, .pointer (some ⟨b4, 0, none⟩)), (5, .pointer (some ⟨b5, 0, none⟩)), (6, .bool false), (49, .bool true)] rfl ⟨rfl, rfl, rfl, rfl, rfl, trivial⟩ ?_
        refine WO_end ?_
        cases hx8
        refine WK.sub ?_ (WK.cls (fun _ h => h) hk9)
        exact ⟨rfl, rfl, rfl, rfl, rfl, trivial⟩
      · have hx8 := ifF hb189 hx8
        refine WO_loadB tbok 1 rfl rfl rfl rfl (fun _ h => h) rfl rfl ?_
        obtain ⟨y_67, hc190, hx8⟩ := bind_some hx8
        refine WO_call0 (.int .i64 y_67) rfl rfl trivial rfl rfl rfl rfl St_closed ⟨7, #[], #[], rfl, callable_7, fun w hw => ⟨_, hw.sat, fiducialref13_Check_walk h_p1_3 hc190⟩⟩ ?_
        refine WO_pure tbok 3 [(3, .pointer (some ⟨b3, 0, none⟩)), (4, .pointer (some ⟨b4, 0, none⟩)), (5, .pointer (some ⟨b5, 0, none⟩)), (6, .bool false), (42, .bool (y_67 != 0))] rfl ⟨rfl, rfl, rfl, rfl, rfl, trivial⟩ ?_
        refine WO_split (d := 42) (b := y_67 != 0) rfl (fun hb191 => ?_) (fun hb191 => ?_)
        · have hx8 := ifT hb191 hx8
          refine WO_pure tbok 7 [(3, .pointer (some ⟨b3, 0, none⟩)), (4, .pointer (some ⟨b4, 0, none⟩)), (5, .pointer (some ⟨b5, 0, none⟩)), (6, .bool false), (49, .bool true)] rfl ⟨rfl, rfl, rfl, rfl, rfl, trivial⟩ ?_
          refine WO_end ?_
          cases hx8
          refine WK.sub ?_ (WK.cls (fun _ h => h) hk9)
          exact ⟨rfl, rfl, rfl, rfl, rfl, trivial⟩
        · have hx8 := ifF hb191 hx8
          refine WO_pure tbok 1 [(3, .pointer (some ⟨b3, 0, none⟩)), (4, .pointer (some ⟨b4, 0, none⟩)), (5, .pointer (some ⟨b5, 0, none⟩)), (6, .bool false), (42, .bool false), (43, .pointer (some ⟨b3, 0, none⟩))] rfl ⟨rfl, rfl, rfl, rfl, rfl, rfl, trivial⟩ ?_
          refine WO_loadB tbok 0 rfl rfl rfl rfl (fun _ h => h) rfl rfl ?_
          refine WO_pure tbok 1 [(3, .pointer (some ⟨b3, 0, none⟩)), (4, .pointer (some ⟨b4, 0, none⟩)), (5, .pointer (some ⟨b5, 0, none⟩)), (6, .bool false), (42, .bool false), (44, .int .i64 p0_0), (45, .pointer (some ⟨b3, 1, none⟩))] rfl ⟨rfl, rfl, rfl, rfl, rfl, rfl, rfl, trivial⟩ ?_
          refine WO_loadB tbok 0 rfl rfl rfl rfl (fun _ h => h) rfl rfl ?_
          refine WO_pure tbok 3 [(3, .pointer (some ⟨b3, 0, none⟩)), (4, .pointer (some ⟨b4, 0, none⟩)), (5, .pointer (some ⟨b5, 0, none⟩)), (6, .bool false), (49, .bool (decide (7 < (if p0_0 < p0_1 then p0_1 else p0_0))))] rfl ⟨rfl, rfl, rfl, rfl, rfl, trivial⟩ ?_
          refine WO_end ?_
          cases hx8
          refine WK.sub ?_ (WK.cls (fun _ h => h) hk9)
          exact ⟨rfl, rfl, rfl, rfl, rfl, trivial⟩
end Go.Proofs.Ytbolefkhmfbnlaa
