import Derived.Test.YtomlpofoaokmdaaTab
import Derived.Test.YtomlpofoaokmdaaM
import Derived.Test.YtomlpofoaokmdaaW2
set_option linter.unusedVariables false
set_option maxRecDepth 100000
set_option maxHeartbeats 4000000
namespace Go.Proofs.Ytomlpofoaokmdaa
open Go.E Go.RowKit
attribute [local irreducible] Go.E.WO Go.E.WK
theorem fiduciallaw50_proved_walk {m : Mu} {p0 : List (List Int)} {p1_0 : List Int} {p1_1 : Int} {p1_2 : List (List Int)} {a_p0 : Option Addr} {q_p0 c_p0 : Nat} {a_p1_0 : Option Addr} {q_p1_0 c_p1_0 : Nat} {a_p1_2 : Option Addr} {q_p1_2 c_p1_2 : Nat} (h_p0 : SlR (RowE (FE (I1 .i64)) 1) 1 m (.slice a_p0 q_p0 c_p0) p0) (h_p1_0 : SlR (FE (I1 .i64)) 1 m (.slice a_p1_0 q_p1_0 c_p1_0) p1_0) (h_p1_2 : SlR (RowE (FE (I1 .i64)) 1) 1 m (.slice a_p1_2 q_p1_2 c_p1_2) p1_2) {r : Int} (hm : fiduciallaw50_proved p0 p1_0 p1_1 p1_2 = some r) :
    Go.E.Spec Try.prog 16 [.slice a_p0 q_p0 c_p0, .agg #[.slice a_p1_0 q_p1_0 c_p1_0, .int .i64 p1_1, .slice a_p1_2 q_p1_2 c_p1_2]] m (fun v _ _ => v = .int .i64 r) := by
  refine Spec_enter Try.func16 rfl rfl rfl (fun w0 => ?_)
  refine WK.sub (e' := [(0, .slice a_p0 q_p0 c_p0), (1, .agg #[.slice a_p1_0 q_p1_0 c_p1_0, .int .i64 p1_1, .slice a_p1_2 q_p1_2 c_p1_2])]) ⟨rfl, rfl, trivial⟩ ?_
  obtain rfl := SlR.qlen h_p0
  obtain rfl := SlR.qlen h_p1_0
  obtain rfl := SlR.qlen h_p1_2
  refine WK.sub (e' := [(0, .slice a_p0 p0.length c_p0), (1, .agg #[.slice a_p1_0 p1_0.length c_p1_0, .int .i64 p1_1, .slice a_p1_2 p1_2.length c_p1_2])]) ⟨rfl, rfl, trivial⟩ ?_
  unfold fiduciallaw50_proved at hm
  refine WK_seq ?_
  refine WK_region ?_
  refine WO_box [.slice a_p1_0 p1_0.length c_p1_0, .int .i64 p1_1, .slice a_p1_2 p1_2.length c_p1_2] rfl rfl trivial rfl rfl rfl (fun b4 => ?_)
  refine WO.cls (C' := St w0 m m [[⟨b4, 25, [.slice a_p1_0 p1_0.length c_p1_0, .int .i64 p1_1, .slice a_p1_2 p1_2.length c_p1_2]⟩]]) (fun _ h => h) ?_
  refine WO_pure tbok 1 [(0, .slice a_p0 p0.length c_p0), (3, .pointer (some ⟨b4, 0, none⟩)), (4, .int .i64 0)] rfl ⟨rfl, rfl, rfl, trivial⟩ ?_
  refine WO_end ?_
  refine WK_seq ?_
  refine WK_seq ?_
  refine WK_region ?_
  refine WO_pure tbok 1 [(0, .slice a_p0 p0.length c_p0), (3, .pointer (some ⟨b4, 0, none⟩)), (4, .int .i64 0), (11, .slice a_p0 p0.length c_p0)] rfl ⟨rfl, rfl, rfl, rfl, trivial⟩ ?_
  obtain ⟨y_1, hc5, hm⟩ := bind_some hm
  refine WO_call0 (.int .i64 y_1) rfl rfl trivial rfl rfl rfl rfl St_closed ⟨17, #[], #[], rfl, callable_17, fun w hw => ⟨_, hw.sat, fiduciallaw50_Checked_walk h_p0 hc5⟩⟩ ?_
  refine WO_pure tbok 1 [(0, .slice a_p0 p0.length c_p0), (3, .pointer (some ⟨b4, 0, none⟩)), (4, .int .i64 0), (5, .int .i64 y_1)] rfl ⟨rfl, rfl, rfl, rfl, trivial⟩ ?_
  refine WO_end ?_
  refine WK_seq ?_
  refine WK_region ?_
  refine WO_pure tbok 2 [(0, .slice a_p0 p0.length c_p0), (3, .pointer (some ⟨b4, 0, none⟩)), (4, .int .i64 0), (5, .int .i64 y_1), (14, .bool (y_1 != 0))] rfl ⟨rfl, rfl, rfl, rfl, rfl, trivial⟩ ?_
  refine WO_end ?_
  refine WK_cond (b := y_1 != 0) rfl (fun hb6 => ?_) (fun hb6 => ?_)
  · have hm := ifT hb6 hm
    refine WK_seq ?_
    refine WK_region ?_
    refine WO_pure tbok 2 [(0, .slice a_p0 p0.length c_p0), (3, .pointer (some ⟨b4, 0, none⟩)), (4, .int .i64 y_1)] rfl ⟨rfl, rfl, rfl, trivial⟩ ?_
    refine WO_end ?_
    cases hm
    exact WK_ret (ret_out (L := []) (RLc_tmp rfl RLc_nil) (List.nil_sublist _) rfl)
  · have hm := ifF hb6 hm
    refine WK_skip ?_
    refine WK_seq ?_
    refine WK_seq ?_
    obtain ⟨s_2, hx7, hm⟩ := bind_some hm
    refine WK_meet [(0, .slice a_p0 p0.length c_p0), (3, .pointer (some ⟨b4, 0, none⟩)), (4, .int .i64 0), (37, .bool s_2)] (St w0 m m [[⟨b4, 25, [.slice a_p1_0 p1_0.length c_p1_0, .int .i64 p1_1, .slice a_p1_2 p1_2.length c_p1_2]⟩]]) ?_ (fun hk8 => ?_)
    · refine WK_cond (b := s_2) rfl (fun hb9 => ?_) (fun hb9 => ?_)
      · have hm := ifT hb9 hm
        refine WK_seq ?_
        refine WK_region ?_
        refine WO_pure tbok 1 [(0, .slice a_p0 p0.length c_p0), (3, .pointer (some ⟨b4, 0, none⟩)), (4, .int .i64 12)] rfl ⟨rfl, rfl, rfl, trivial⟩ ?_
        refine WO_end ?_
        cases hm
        exact WK_ret (ret_out (L := []) (RLc_tmp rfl RLc_nil) (List.nil_sublist _) rfl)
      · have hm := ifF hb9 hm
        refine WK_skip ?_
        refine WK_seq ?_
        refine WK_seq ?_
        refine WK_region ?_
        refine WO_pure tbok 1 [(0, .slice a_p0 p0.length c_p0), (3, .pointer (some ⟨b4, 0, none⟩)), (4, .int .i64 0), (38, .pointer (some ⟨b4, 2, none⟩))] rfl ⟨rfl, rfl, rfl, rfl, trivial⟩ ?_
        refine WO_loadB tbok 0 rfl rfl rfl rfl (fun _ h => h) rfl rfl ?_
        refine WO_pure tbok 2 [(0, .slice a_p0 p0.length c_p0), (3, .pointer (some ⟨b4, 0, none⟩)), (4, .int .i64 0), (39, .slice a_p1_2 p1_2.length c_p1_2), (40, .int .i64 (p1_2.length : Int)), (41, .int .i64 0)] rfl ⟨rfl, rfl, rfl, rfl, rfl, rfl, trivial⟩ ?_
        refine WO_end ?_
        obtain ⟨x10, hx11, hm⟩ := bind_some hm
        refine WK_join (β := Unit × Unit) (fun p => Sum.inr p.1 = x10) (fun p => [(0, .slice a_p0 p0.length c_p0), (3, .pointer (some ⟨b4, 0, none⟩)), (4, .int .i64 0)]) (fun p => St w0 m m [[⟨b4, 25, [.slice a_p1_0 p1_0.length c_p1_0, .int .i64 p1_1, .slice a_p1_2 p1_2.length c_p1_2]⟩]]) ?_ (fun hk12 => ?_)
        · rintro ⟨⟨⟩, ⟨⟩⟩ hq18
          subst hq18
          refine WK.sub (e' := [(0, .slice a_p0 p0.length c_p0), (3, .pointer (some ⟨b4, 0, none⟩)), (4, .int .i64 0)]) ⟨rfl, rfl, rfl, trivial⟩ (WK.cls (C' := St w0 m m [[⟨b4, 25, [.slice a_p1_0 p1_0.length c_p1_0, .int .i64 p1_1, .slice a_p1_2 p1_2.length c_p1_2]⟩]]) (fun _ h => h) ?_)
          refine WK_seq ?_
          refine WK_seq ?_
          refine WK_draw 11 [0, 1, 2, 3, 4, 5, 6, 8, 9, 7, 10] follows_ok (by kernel_rfl) St_closed ?_
          refine WO_pure tbok 1 [(0, .slice a_p0 p0.length c_p0), (3, .pointer (some ⟨b4, 0, none⟩)), (4, .int .i64 0), (116, .pointer (some ⟨b4, 2, none⟩))] rfl ⟨rfl, rfl, rfl, rfl, trivial⟩ ?_
          refine WO_loadB tbok 0 rfl rfl rfl rfl (fun _ h => h) rfl rfl ?_
          refine WO_pure tbok 3 [(3, .pointer (some ⟨b4, 0, none⟩)), (4, .int .i64 0), (117, .slice a_p1_2 p1_2.length c_p1_2), (120, .int .i64 (w64 ((p0.length : Int) - 1)))] rfl ⟨rfl, rfl, rfl, rfl, trivial⟩ ?_
          obtain ⟨v_4, hy19, hm⟩ := bind_some hm
          obtain ⟨hc20, hy19⟩ := ix_some hy19
          refine WO_index tbok rfl rfl rfl rfl rfl rfl rfl rfl (SlR.addr h_p1_2) hc20 ?_
          refine WO_loadR tbok rfl rfl rfl rfl (fun _ h => St.sat h) h_p1_2 hy19 rfl rfl (fun a21 c22 h23 => ?_)
          refine WO_pure tbok 1 [(4, .int .i64 0), (122, .slice a21 ((v_4).length) c22), (124, .pointer (some ⟨b4, 1, none⟩))] rfl ⟨rfl, rfl, rfl, trivial⟩ ?_
          refine WO_loadB tbok 0 rfl rfl rfl rfl (fun _ h => h) rfl rfl ?_
          obtain ⟨y_5, hc25, hm⟩ := bind_some hm
          refine WO_call0 (.int .i64 y_5) rfl rfl St_closed rfl rfl rfl rfl St_closed ⟨41, #[], #[], rfl, callable_41, fun w hw => ⟨_, hw.sat, slices_Min_sint_walk h23 hc25⟩⟩ ?_
          refine WO_pure tbok 1 [(4, .int .i64 0), (126, .bool (decide (y_5 < p1_1)))] rfl ⟨rfl, rfl, trivial⟩ ?_
          refine WO_tail ?_
          refine WO_end ?_
          refine WK_cond (b := decide (y_5 < p1_1)) rfl (fun hb26 => ?_) (fun hb26 => ?_)
          · have hm := ifT hb26 hm
            refine WK_seq ?_
            refine WK_region ?_
            refine WO_pure tbok 1 [(4, .int .i64 12)] rfl ⟨rfl, trivial⟩ ?_
            refine WO_end ?_
            cases hm
            exact WK_ret (ret_out (L := []) (RLc_tmp rfl RLc_nil) (List.nil_sublist _) rfl)
          · have hm := ifF hb26 hm
            refine WK_skip ?_
            refine WK_seq ?_
            refine WK_region ?_
            refine WO_pure tbok 1 [(4, .int .i64 0)] rfl ⟨rfl, trivial⟩ ?_
            refine WO_end ?_
            cases hm
            exact WK_ret (ret_out (L := []) (RLc_tmp rfl RLc_nil) (List.nil_sublist _) rfl)
        · refine WK_block ?_
          refine WK_loop (S := Int) (G := Unit) (fun s => fiduciallaw50_proved_s1 p0 p1_2 s) (fun s g => [(0, .slice a_p0 p0.length c_p0), (3, .pointer (some ⟨b4, 0, none⟩)), (4, .int .i64 0), (39, .slice a_p1_2 p1_2.length c_p1_2), (40, .int .i64 (p1_2.length : Int)), (41, .int .i64 s)]) (fun s g => St w0 m m [[⟨b4, 25, [.slice a_p1_0 p1_0.length c_p1_0, .int .i64 p1_1, .slice a_p1_2 p1_2.length c_p1_2]⟩]]) (fun s g => True) FUEL 0 () x10 hx11 trivial ⟨rfl, rfl, rfl, rfl, rfl, rfl, trivial⟩ (fun _ h => h) ?_
          rintro s_3 ⟨⟩ o14 fl15 hm13 - hn16 hd17
          have hm13 : fiduciallaw50_proved_s1 p0 p1_2 s_3 = some o14 := hm13
          unfold fiduciallaw50_proved_s1 at hm13
          refine WK.sub (e' := [(0, .slice a_p0 p0.length c_p0), (3, .pointer (some ⟨b4, 0, none⟩)), (4, .int .i64 0), (39, .slice a_p1_2 p1_2.length c_p1_2), (40, .int .i64 (p1_2.length : Int)), (41, .int .i64 s_3)]) ⟨rfl, rfl, rfl, rfl, rfl, rfl, trivial⟩ (WK.cls (C' := St w0 m m [[⟨b4, 25, [.slice a_p1_0 p1_0.length c_p1_0, .int .i64 p1_1, .slice a_p1_2 p1_2.length c_p1_2]⟩]]) (fun _ h => h) ?_)
          refine WK_seq ?_
          refine WK_region ?_
          refine WO_pure tbok 1 [(0, .slice a_p0 p0.length c_p0), (3, .pointer (some ⟨b4, 0, none⟩)), (4, .int .i64 0), (39, .slice a_p1_2 p1_2.length c_p1_2), (40, .int .i64 (p1_2.length : Int)), (41, .int .i64 s_3), (42, .bool (decide (s_3 < (p1_2.length : Int))))] rfl ⟨rfl, rfl, rfl, rfl, rfl, rfl, rfl, trivial⟩ ?_
          refine WO_end ?_
          refine WK_seq ?_
          refine WK_cond (b := decide (s_3 < (p1_2.length : Int))) rfl (fun hb27 => ?_) (fun hb27 => ?_)
          · have hm13 := ifT hb27 hm13
            refine WK_skip ?_
            refine WK_seq ?_
            refine WK_block ?_
            refine WK_seq ?_
            refine WK_region ?_
            refine WO_pure tbok 1 [(0, .slice a_p0 p0.length c_p0), (3, .pointer (some ⟨b4, 0, none⟩)), (4, .int .i64 0), (39, .slice a_p1_2 p1_2.length c_p1_2), (40, .int .i64 (p1_2.length : Int)), (41, .int .i64 s_3), (43, .int .i64 s_3)] rfl ⟨rfl, rfl, rfl, rfl, rfl, rfl, rfl, trivial⟩ ?_
            obtain ⟨v_6, hy28, hm13⟩ := bind_some hm13
            obtain ⟨hc29, hy28⟩ := ix_some hy28
            refine WO_index tbok rfl rfl rfl rfl rfl rfl rfl rfl (SlR.addr h_p1_2) hc29 ?_
            refine WO_loadR tbok rfl rfl rfl rfl (fun _ h => St.sat h) h_p1_2 hy28 rfl rfl (fun a30 c31 h32 => ?_)
            refine WO_pure tbok 2 [(0, .slice a_p0 p0.length c_p0), (3, .pointer (some ⟨b4, 0, none⟩)), (4, .int .i64 0), (6, .int .i64 s_3), (7, .slice a30 ((v_6).length) c31), (39, .slice a_p1_2 p1_2.length c_p1_2), (40, .int .i64 (p1_2.length : Int)), (41, .int .i64 s_3)] rfl ⟨rfl, rfl, rfl, rfl, rfl, rfl, rfl, rfl, trivial⟩ ?_
            refine WO_end ?_
            refine WK_seq ?_
            refine WK_seq ?_
            refine WK_region ?_
            refine WO_pure tbok 3 [(0, .slice a_p0 p0.length c_p0), (3, .pointer (some ⟨b4, 0, none⟩)), (4, .int .i64 0), (6, .int .i64 s_3), (7, .slice a30 ((v_6).length) c31), (39, .slice a_p1_2 p1_2.length c_p1_2), (40, .int .i64 (p1_2.length : Int)), (41, .int .i64 s_3), (47, .int .i64 ((v_6).length : Int)), (48, .slice a_p0 p0.length c_p0)] rfl ⟨rfl, rfl, rfl, rfl, rfl, rfl, rfl, rfl, rfl, rfl, trivial⟩ ?_
            obtain ⟨v_7, hy34, hm13⟩ := bind_some hm13
            obtain ⟨hc35, hy34⟩ := ix_some hy34
            refine WO_index tbok rfl rfl rfl rfl rfl rfl rfl rfl (SlR.addr h_p0) hc35 ?_
            refine WO_loadR tbok rfl rfl rfl rfl (fun _ h => St.sat h) h_p0 hy34 rfl rfl (fun a36 c37 h38 => ?_)
            refine WO_pure tbok 2 [(0, .slice a_p0 p0.length c_p0), (3, .pointer (some ⟨b4, 0, none⟩)), (4, .int .i64 0), (6, .int .i64 s_3), (7, .slice a30 ((v_6).length) c31), (39, .slice a_p1_2 p1_2.length c_p1_2), (40, .int .i64 (p1_2.length : Int)), (41, .int .i64 s_3), (52, .bool (((v_6).length : Int) != ((v_7).length : Int)))] rfl ⟨rfl, rfl, rfl, rfl, rfl, rfl, rfl, rfl, rfl, trivial⟩ ?_
            refine WO_end ?_
            refine WK_cond (b := ((v_6).length : Int) != ((v_7).length : Int)) rfl (fun hb40 => ?_) (fun hb40 => ?_)
            · have hm13 := ifT hb40 hm13
              refine WK_seq ?_
              refine WK_region ?_
              refine WO_pure tbok 1 [(0, .slice a_p0 p0.length c_p0), (3, .pointer (some ⟨b4, 0, none⟩)), (4, .int .i64 12), (6, .int .i64 s_3), (7, .slice a30 ((v_6).length) c31), (39, .slice a_p1_2 p1_2.length c_p1_2), (40, .int .i64 (p1_2.length : Int)), (41, .int .i64 s_3)] rfl ⟨rfl, rfl, rfl, rfl, rfl, rfl, rfl, rfl, trivial⟩ ?_
              refine WO_end ?_
              cases hm13
              have hq := hd17 _ rfl
              subst hq
              have hm : some _ = some _ := hm
              cases hm
              exact WK_ret (ret_out (L := []) (RLc_tmp rfl RLc_nil) (List.nil_sublist _) rfl)
            · have hm13 := ifF hb40 hm13
              refine WK_skip ?_
              refine WK_seq ?_
              refine WK_region ?_
              refine WO_pure tbok 3 [(0, .slice a_p0 p0.length c_p0), (3, .pointer (some ⟨b4, 0, none⟩)), (4, .int .i64 0), (6, .int .i64 s_3), (39, .slice a_p1_2 p1_2.length c_p1_2), (40, .int .i64 (p1_2.length : Int)), (41, .int .i64 s_3), (53, .slice a30 ((v_6).length) c31), (54, .int .i64 ((v_6).length : Int)), (55, .int .i64 0)] rfl ⟨rfl, rfl, rfl, rfl, rfl, rfl, rfl, rfl, rfl, rfl, trivial⟩ ?_
              refine WO_end ?_
              obtain ⟨x41, hx42, hm13⟩ := bind_some hm13
              refine WK_join (β := Unit × Unit) (fun p => Sum.inr p.1 = x41) (fun p => [(0, .slice a_p0 p0.length c_p0), (3, .pointer (some ⟨b4, 0, none⟩)), (4, .int .i64 0), (39, .slice a_p1_2 p1_2.length c_p1_2), (40, .int .i64 (p1_2.length : Int)), (41, .int .i64 s_3)]) (fun p => St w0 m m [[⟨b4, 25, [.slice a_p1_0 p1_0.length c_p1_0, .int .i64 p1_1, .slice a_p1_2 p1_2.length c_p1_2]⟩]]) ?_ (fun hk43 => ?_)
              · rintro ⟨⟨⟩, ⟨⟩⟩ hq49
                subst hq49
                refine WK.sub (e' := [(0, .slice a_p0 p0.length c_p0), (3, .pointer (some ⟨b4, 0, none⟩)), (4, .int .i64 0), (39, .slice a_p1_2 p1_2.length c_p1_2), (40, .int .i64 (p1_2.length : Int)), (41, .int .i64 s_3)]) ⟨rfl, rfl, rfl, rfl, rfl, rfl, trivial⟩ (WK.cls (C' := St w0 m m [[⟨b4, 25, [.slice a_p1_0 p1_0.length c_p1_0, .int .i64 p1_1, .slice a_p1_2 p1_2.length c_p1_2]⟩]]) (fun _ h => h) ?_)
                refine WK_blk ?_
                refine WK_region ?_
                refine WO_pure tbok 2 [(0, .slice a_p0 p0.length c_p0), (3, .pointer (some ⟨b4, 0, none⟩)), (4, .int .i64 0), (39, .slice a_p1_2 p1_2.length c_p1_2), (40, .int .i64 (p1_2.length : Int)), (41, .int .i64 (w64 (s_3 + 1)))] rfl ⟨rfl, rfl, rfl, rfl, rfl, rfl, trivial⟩ ?_
                refine WO_end ?_
                cases hm13
                refine WK.sub ?_ (WK.cls (fun _ h => h) (hn16 _ () rfl trivial))
                exact ⟨rfl, rfl, rfl, rfl, rfl, rfl, trivial⟩
              · refine WK_block ?_
                refine WK_loop (S := Int) (G := Unit) (fun s => fiduciallaw50_proved_s2 p0 p1_2 s_3 v_6 s) (fun s g => [(0, .slice a_p0 p0.length c_p0), (3, .pointer (some ⟨b4, 0, none⟩)), (4, .int .i64 0), (6, .int .i64 s_3), (39, .slice a_p1_2 p1_2.length c_p1_2), (40, .int .i64 (p1_2.length : Int)), (41, .int .i64 s_3), (53, .slice a30 ((v_6).length) c31), (54, .int .i64 ((v_6).length : Int)), (55, .int .i64 s)]) (fun s g => St w0 m m [[⟨b4, 25, [.slice a_p1_0 p1_0.length c_p1_0, .int .i64 p1_1, .slice a_p1_2 p1_2.length c_p1_2]⟩]]) (fun s g => True) FUEL 0 () x41 hx42 trivial ⟨rfl, rfl, rfl, rfl, rfl, rfl, rfl, rfl, rfl, rfl, trivial⟩ (fun _ h => h) ?_
                rintro s_8 ⟨⟩ o45 fl46 hm44 - hn47 hd48
                have hm44 : fiduciallaw50_proved_s2 p0 p1_2 s_3 v_6 s_8 = some o45 := hm44
                unfold fiduciallaw50_proved_s2 at hm44
                refine WK.sub (e' := [(0, .slice a_p0 p0.length c_p0), (3, .pointer (some ⟨b4, 0, none⟩)), (4, .int .i64 0), (6, .int .i64 s_3), (39, .slice a_p1_2 p1_2.length c_p1_2), (40, .int .i64 (p1_2.length : Int)), (41, .int .i64 s_3), (53, .slice a30 ((v_6).length) c31), (54, .int .i64 ((v_6).length : Int)), (55, .int .i64 s_8)]) ⟨rfl, rfl, rfl, rfl, rfl, rfl, rfl, rfl, rfl, rfl, trivial⟩ (WK.cls (C' := St w0 m m [[⟨b4, 25, [.slice a_p1_0 p1_0.length c_p1_0, .int .i64 p1_1, .slice a_p1_2 p1_2.length c_p1_2]⟩]]) (fun _ h => h) ?_)
                refine WK_seq ?_
                refine WK_region ?_
                refine WO_pure tbok 1 [(0, .slice a_p0 p0.length c_p0), (3, .pointer (some ⟨b4, 0, none⟩)), (4, .int .i64 0), (6, .int .i64 s_3), (39, .slice a_p1_2 p1_2.length c_p1_2), (40, .int .i64 (p1_2.length : Int)), (41, .int .i64 s_3), (53, .slice a30 ((v_6).length) c31), (54, .int .i64 ((v_6).length : Int)), (55, .int .i64 s_8), (56, .bool (decide (s_8 < ((v_6).length : Int))))] rfl ⟨rfl, rfl, rfl, rfl, rfl, rfl, rfl, rfl, rfl, rfl, rfl, trivial⟩ ?_
                refine WO_end ?_
                refine WK_seq ?_
                refine WK_cond (b := decide (s_8 < ((v_6).length : Int))) rfl (fun hb50 => ?_) (fun hb50 => ?_)
                · have hm44 := ifT hb50 hm44
                  refine WK_skip ?_
                  refine WK_seq ?_
                  refine WK_block ?_
                  refine WK_seq ?_
                  refine WK_region ?_
                  refine WO_pure tbok 1 [(0, .slice a_p0 p0.length c_p0), (3, .pointer (some ⟨b4, 0, none⟩)), (4, .int .i64 0), (6, .int .i64 s_3), (39, .slice a_p1_2 p1_2.length c_p1_2), (40, .int .i64 (p1_2.length : Int)), (41, .int .i64 s_3), (53, .slice a30 ((v_6).length) c31), (54, .int .i64 ((v_6).length : Int)), (55, .int .i64 s_8), (57, .int .i64 s_8)] rfl ⟨rfl, rfl, rfl, rfl, rfl, rfl, rfl, rfl, rfl, rfl, rfl, trivial⟩ ?_
                  obtain ⟨v_9, hy51, hm44⟩ := bind_some hm44
                  obtain ⟨hc52, hy51⟩ := ix_some hy51
                  refine WO_index tbok rfl rfl rfl rfl rfl rfl rfl rfl (SlR.addr h32) hc52 ?_
                  refine WO_loadE tbok rfl rfl rfl rfl (fun _ h => St.sat h) h32 hy51 rfl ?_
                  refine WO_pure tbok 2 [(0, .slice a_p0 p0.length c_p0), (3, .pointer (some ⟨b4, 0, none⟩)), (4, .int .i64 0), (6, .int .i64 s_3), (8, .int .i64 s_8), (9, .int .i64 v_9), (39, .slice a_p1_2 p1_2.length c_p1_2), (40, .int .i64 (p1_2.length : Int)), (41, .int .i64 s_3), (53, .slice a30 ((v_6).length) c31), (54, .int .i64 ((v_6).length : Int)), (55, .int .i64 s_8)] rfl ⟨rfl, rfl, rfl, rfl, rfl, rfl, rfl, rfl, rfl, rfl, rfl, rfl, trivial⟩ ?_
                  refine WO_end ?_
                  refine WK_seq ?_
                  refine WK_seq ?_
                  obtain ⟨s_10, hx53, hm44⟩ := bind_some hm44
                  refine WK_meet [(0, .slice a_p0 p0.length c_p0), (3, .pointer (some ⟨b4, 0, none⟩)), (4, .int .i64 0), (6, .int .i64 s_3), (8, .int .i64 s_8), (9, .int .i64 v_9), (39, .slice a_p1_2 p1_2.length c_p1_2), (40, .int .i64 (p1_2.length : Int)), (41, .int .i64 s_3), (53, .slice a30 ((v_6).length) c31), (54, .int .i64 ((v_6).length : Int)), (55, .int .i64 s_8), (71, .bool s_10)] (St w0 m m [[⟨b4, 25, [.slice a_p1_0 p1_0.length c_p1_0, .int .i64 p1_1, .slice a_p1_2 p1_2.length c_p1_2]⟩]]) ?_ (fun hk54 => ?_)
                  · refine WK_cond (b := s_10) rfl (fun hb55 => ?_) (fun hb55 => ?_)
                    · have hm44 := ifT hb55 hm44
                      refine WK_seq ?_
                      refine WK_region ?_
                      refine WO_pure tbok 1 [(0, .slice a_p0 p0.length c_p0), (3, .pointer (some ⟨b4, 0, none⟩)), (4, .int .i64 12), (6, .int .i64 s_3), (8, .int .i64 s_8), (9, .int .i64 v_9), (39, .slice a_p1_2 p1_2.length c_p1_2), (40, .int .i64 (p1_2.length : Int)), (41, .int .i64 s_3), (53, .slice a30 ((v_6).length) c31), (54, .int .i64 ((v_6).length : Int)), (55, .int .i64 s_8)] rfl ⟨rfl, rfl, rfl, rfl, rfl, rfl, rfl, rfl, rfl, rfl, rfl, rfl, trivial⟩ ?_
                      refine WO_end ?_
                      cases hm44
                      have hq := hd48 _ rfl
                      subst hq
                      have hm13 : some _ = some _ := hm13
                      cases hm13
                      have hq := hd17 _ rfl
                      subst hq
                      have hm : some _ = some _ := hm
                      cases hm
                      exact WK_ret (ret_out (L := []) (RLc_tmp rfl RLc_nil) (List.nil_sublist _) rfl)
                    · have hm44 := ifF hb55 hm44
                      refine WK_skip ?_
                      refine WK_seq ?_
                      refine WK_region ?_
                      refine WO_pure tbok 3 [(0, .slice a_p0 p0.length c_p0), (3, .pointer (some ⟨b4, 0, none⟩)), (4, .int .i64 0), (6, .int .i64 s_3), (8, .int .i64 s_8), (9, .int .i64 v_9), (10, .int .i64 (w64 (s_8 - 1))), (39, .slice a_p1_2 p1_2.length c_p1_2), (40, .int .i64 (p1_2.length : Int)), (41, .int .i64 s_3), (53, .slice a30 ((v_6).length) c31), (54, .int .i64 ((v_6).length : Int)), (55, .int .i64 s_8)] rfl ⟨rfl, rfl, rfl, rfl, rfl, rfl, rfl, rfl, rfl, rfl, rfl, rfl, rfl, trivial⟩ ?_
                      refine WO_end ?_
                      obtain ⟨x56, hx57, hm44⟩ := bind_some hm44
                      refine WK_join (β := Unit × Unit) (fun p => Sum.inr p.1 = x56) (fun p => [(0, .slice a_p0 p0.length c_p0), (3, .pointer (some ⟨b4, 0, none⟩)), (4, .int .i64 0), (6, .int .i64 s_3), (39, .slice a_p1_2 p1_2.length c_p1_2), (40, .int .i64 (p1_2.length : Int)), (41, .int .i64 s_3), (53, .slice a30 ((v_6).length) c31), (54, .int .i64 ((v_6).length : Int)), (55, .int .i64 s_8)]) (fun p => St w0 m m [[⟨b4, 25, [.slice a_p1_0 p1_0.length c_p1_0, .int .i64 p1_1, .slice a_p1_2 p1_2.length c_p1_2]⟩]]) ?_ (fun hk58 => ?_)
                      · rintro ⟨⟨⟩, ⟨⟩⟩ hq64
                        subst hq64
                        refine WK.sub (e' := [(0, .slice a_p0 p0.length c_p0), (3, .pointer (some ⟨b4, 0, none⟩)), (4, .int .i64 0), (6, .int .i64 s_3), (39, .slice a_p1_2 p1_2.length c_p1_2), (40, .int .i64 (p1_2.length : Int)), (41, .int .i64 s_3), (53, .slice a30 ((v_6).length) c31), (54, .int .i64 ((v_6).length : Int)), (55, .int .i64 s_8)]) ⟨rfl, rfl, rfl, rfl, rfl, rfl, rfl, rfl, rfl, rfl, trivial⟩ (WK.cls (C' := St w0 m m [[⟨b4, 25, [.slice a_p1_0 p1_0.length c_p1_0, .int .i64 p1_1, .slice a_p1_2 p1_2.length c_p1_2]⟩]]) (fun _ h => h) ?_)
                        refine WK_blk ?_
                        refine WK_region ?_
                        refine WO_pure tbok 2 [(0, .slice a_p0 p0.length c_p0), (3, .pointer (some ⟨b4, 0, none⟩)), (4, .int .i64 0), (6, .int .i64 s_3), (39, .slice a_p1_2 p1_2.length c_p1_2), (40, .int .i64 (p1_2.length : Int)), (41, .int .i64 s_3), (53, .slice a30 ((v_6).length) c31), (54, .int .i64 ((v_6).length : Int)), (55, .int .i64 (w64 (s_8 + 1)))] rfl ⟨rfl, rfl, rfl, rfl, rfl, rfl, rfl, rfl, rfl, rfl, trivial⟩ ?_
                        refine WO_end ?_
                        cases hm44
                        refine WK.sub ?_ (WK.cls (fun _ h => h) (hn47 _ () rfl trivial))
                        exact ⟨rfl, rfl, rfl, rfl, rfl, rfl, rfl, rfl, rfl, rfl, trivial⟩
                      · refine WK_block ?_
                        refine WK_loop (S := Int) (G := Unit) (fun s => fiduciallaw50_proved_s3 p0 p1_2 s_3 s_8 v_9 s) (fun s g => [(0, .slice a_p0 p0.length c_p0), (3, .pointer (some ⟨b4, 0, none⟩)), (4, .int .i64 0), (6, .int .i64 s_3), (8, .int .i64 s_8), (9, .int .i64 v_9), (10, .int .i64 s), (39, .slice a_p1_2 p1_2.length c_p1_2), (40, .int .i64 (p1_2.length : Int)), (41, .int .i64 s_3), (53, .slice a30 ((v_6).length) c31), (54, .int .i64 ((v_6).length : Int)), (55, .int .i64 s_8)]) (fun s g => St w0 m m [[⟨b4, 25, [.slice a_p1_0 p1_0.length c_p1_0, .int .i64 p1_1, .slice a_p1_2 p1_2.length c_p1_2]⟩]]) (fun s g => True) FUEL (w64 (s_8 - 1)) () x56 hx57 trivial ⟨rfl, rfl, rfl, rfl, rfl, rfl, rfl, rfl, rfl, rfl, rfl, rfl, rfl, trivial⟩ (fun _ h => h) ?_
                        rintro s_11 ⟨⟩ o60 fl61 hm59 - hn62 hd63
                        have hm59 : fiduciallaw50_proved_s3 p0 p1_2 s_3 s_8 v_9 s_11 = some o60 := hm59
                        unfold fiduciallaw50_proved_s3 at hm59
                        refine WK.sub (e' := [(0, .slice a_p0 p0.length c_p0), (3, .pointer (some ⟨b4, 0, none⟩)), (4, .int .i64 0), (6, .int .i64 s_3), (8, .int .i64 s_8), (9, .int .i64 v_9), (10, .int .i64 s_11), (39, .slice a_p1_2 p1_2.length c_p1_2), (40, .int .i64 (p1_2.length : Int)), (41, .int .i64 s_3), (53, .slice a30 ((v_6).length) c31), (54, .int .i64 ((v_6).length : Int)), (55, .int .i64 s_8)]) ⟨rfl, rfl, rfl, rfl, rfl, rfl, rfl, rfl, rfl, rfl, rfl, rfl, rfl, trivial⟩ (WK.cls (C' := St w0 m m [[⟨b4, 25, [.slice a_p1_0 p1_0.length c_p1_0, .int .i64 p1_1, .slice a_p1_2 p1_2.length c_p1_2]⟩]]) (fun _ h => h) ?_)
                        refine WK_seq ?_
                        refine WK_seq ?_
                        obtain ⟨s_12, hx65, hm59⟩ := bind_some hm59
                        refine WK_meet [(0, .slice a_p0 p0.length c_p0), (3, .pointer (some ⟨b4, 0, none⟩)), (4, .int .i64 0), (6, .int .i64 s_3), (8, .int .i64 s_8), (9, .int .i64 v_9), (10, .int .i64 s_11), (39, .slice a_p1_2 p1_2.length c_p1_2), (40, .int .i64 (p1_2.length : Int)), (41, .int .i64 s_3), (53, .slice a30 ((v_6).length) c31), (54, .int .i64 ((v_6).length : Int)), (55, .int .i64 s_8), (81, .bool s_12)] (St w0 m m [[⟨b4, 25, [.slice a_p1_0 p1_0.length c_p1_0, .int .i64 p1_1, .slice a_p1_2 p1_2.length c_p1_2]⟩]]) ?_ (fun hk66 => ?_)
                        · refine WK_cond (b := s_12) rfl (fun hb67 => ?_) (fun hb67 => ?_)
                          · have hm59 := ifT hb67 hm59
                            refine WK_skip ?_
                            refine WK_seq ?_
                            refine WK_block ?_
                            refine WK_seq ?_
                            obtain ⟨s_13, hx68, hm59⟩ := bind_some hm59
                            refine WK_meet [(0, .slice a_p0 p0.length c_p0), (3, .pointer (some ⟨b4, 0, none⟩)), (4, .int .i64 0), (6, .int .i64 s_3), (8, .int .i64 s_8), (9, .int .i64 v_9), (10, .int .i64 s_11), (39, .slice a_p1_2 p1_2.length c_p1_2), (40, .int .i64 (p1_2.length : Int)), (41, .int .i64 s_3), (53, .slice a30 ((v_6).length) c31), (54, .int .i64 ((v_6).length : Int)), (55, .int .i64 s_8), (113, .bool s_13)] (St w0 m m [[⟨b4, 25, [.slice a_p1_0 p1_0.length c_p1_0, .int .i64 p1_1, .slice a_p1_2 p1_2.length c_p1_2]⟩]]) ?_ (fun hk69 => ?_)
                            · refine WK_cond (b := s_13) rfl (fun hb70 => ?_) (fun hb70 => ?_)
                              · have hm59 := ifT hb70 hm59
                                refine WK_seq ?_
                                refine WK_region ?_
                                refine WO_pure tbok 1 [(0, .slice a_p0 p0.length c_p0), (3, .pointer (some ⟨b4, 0, none⟩)), (4, .int .i64 12), (6, .int .i64 s_3), (8, .int .i64 s_8), (9, .int .i64 v_9), (10, .int .i64 s_11), (39, .slice a_p1_2 p1_2.length c_p1_2), (40, .int .i64 (p1_2.length : Int)), (41, .int .i64 s_3), (53, .slice a30 ((v_6).length) c31), (54, .int .i64 ((v_6).length : Int)), (55, .int .i64 s_8)] rfl ⟨rfl, rfl, rfl, rfl, rfl, rfl, rfl, rfl, rfl, rfl, rfl, rfl, rfl, trivial⟩ ?_
                                refine WO_end ?_
                                cases hm59
                                have hq := hd63 _ rfl
                                subst hq
                                have hm44 : some _ = some _ := hm44
                                cases hm44
                                have hq := hd48 _ rfl
                                subst hq
                                have hm13 : some _ = some _ := hm13
                                cases hm13
                                have hq := hd17 _ rfl
                                subst hq
                                have hm : some _ = some _ := hm
                                cases hm
                                exact WK_ret (ret_out (L := []) (RLc_tmp rfl RLc_nil) (List.nil_sublist _) rfl)
                              · have hm59 := ifF hb70 hm59
                                refine WK_skip ?_
                                refine WK_blk ?_
                                refine WK_region ?_
                                refine WO_pure tbok 3 [(0, .slice a_p0 p0.length c_p0), (3, .pointer (some ⟨b4, 0, none⟩)), (4, .int .i64 0), (6, .int .i64 s_3), (8, .int .i64 s_8), (9, .int .i64 v_9), (10, .int .i64 (w64 (s_11 + 1))), (39, .slice a_p1_2 p1_2.length c_p1_2), (40, .int .i64 (p1_2.length : Int)), (41, .int .i64 s_3), (53, .slice a30 ((v_6).length) c31), (54, .int .i64 ((v_6).length : Int)), (55, .int .i64 s_8)] rfl ⟨rfl, rfl, rfl, rfl, rfl, rfl, rfl, rfl, rfl, rfl, rfl, rfl, rfl, trivial⟩ ?_
                                refine WO_end ?_
                                cases hm59
                                refine WK.sub ?_ (WK.cls (fun _ h => h) (hn62 _ () rfl trivial))
                                exact ⟨rfl, rfl, rfl, rfl, rfl, rfl, rfl, rfl, rfl, rfl, rfl, rfl, rfl, trivial⟩
                            · refine WK_draw 30 [0, 1, 2, 3, 4, 5, 6, 7, 8, 9, 10, 11, 12, 13, 14, 15, 16, 17, 18, 19, 20, 21, 22, 23, 24, 25, 26, 27, 28, 29] follows_ok (by kernel_rfl) St_closed ?_
                              refine WO_pure tbok 3 [(0, .slice a_p0 p0.length c_p0), (3, .pointer (some ⟨b4, 0, none⟩)), (4, .int .i64 0), (6, .int .i64 s_3), (8, .int .i64 s_8), (9, .int .i64 v_9), (10, .int .i64 s_11), (39, .slice a_p1_2 p1_2.length c_p1_2), (40, .int .i64 (p1_2.length : Int)), (41, .int .i64 s_3), (53, .slice a30 ((v_6).length) c31), (54, .int .i64 ((v_6).length : Int)), (55, .int .i64 s_8), (86, .bool (decide (0 ≤ s_11)))] rfl ⟨rfl, rfl, rfl, rfl, rfl, rfl, rfl, rfl, rfl, rfl, rfl, rfl, rfl, rfl, trivial⟩ ?_
                              refine WO_split (d := 86) (b := decide (0 ≤ s_11)) rfl (fun hb71 => ?_) (fun hb71 => ?_)
                              · have hx68 := ifT hb71 hx68
                                refine WO_pure tbok 2 [(0, .slice a_p0 p0.length c_p0), (3, .pointer (some ⟨b4, 0, none⟩)), (4, .int .i64 0), (6, .int .i64 s_3), (8, .int .i64 s_8), (9, .int .i64 v_9), (10, .int .i64 s_11), (39, .slice a_p1_2 p1_2.length c_p1_2), (40, .int .i64 (p1_2.length : Int)), (41, .int .i64 s_3), (53, .slice a30 ((v_6).length) c31), (54, .int .i64 ((v_6).length : Int)), (55, .int .i64 s_8), (86, .bool true), (87, .int .i64 s_11), (88, .slice a_p0 p0.length c_p0)] rfl ⟨rfl, rfl, rfl, rfl, rfl, rfl, rfl, rfl, rfl, rfl, rfl, rfl, rfl, rfl, rfl, rfl, trivial⟩ ?_
                                obtain ⟨v_14, hy72, hx68⟩ := bind_some hx68
                                obtain ⟨hc73, hy72⟩ := ix_some hy72
                                refine WO_index tbok rfl rfl rfl rfl rfl rfl rfl rfl (SlR.addr h_p0) hc73 ?_
                                refine WO_loadR tbok rfl rfl rfl rfl (fun _ h => St.sat h) h_p0 hy72 rfl rfl (fun a74 c75 h76 => ?_)
                                refine WO_pure tbok 4 [(0, .slice a_p0 p0.length c_p0), (3, .pointer (some ⟨b4, 0, none⟩)), (4, .int .i64 0), (6, .int .i64 s_3), (8, .int .i64 s_8), (9, .int .i64 v_9), (10, .int .i64 s_11), (39, .slice a_p1_2 p1_2.length c_p1_2), (40, .int .i64 (p1_2.length : Int)), (41, .int .i64 s_3), (53, .slice a30 ((v_6).length) c31), (54, .int .i64 ((v_6).length : Int)), (55, .int .i64 s_8), (94, .bool (decide (s_11 < ((v_14).length : Int))))] rfl ⟨rfl, rfl, rfl, rfl, rfl, rfl, rfl, rfl, rfl, rfl, rfl, rfl, rfl, rfl, trivial⟩ ?_
                                refine WO_split (d := 94) (b := decide (s_11 < ((v_14).length : Int))) rfl (fun hb78 => ?_) (fun hb78 => ?_)
                                · have hx68 := ifT hb78 hx68
                                  refine WO_pure tbok 2 [(0, .slice a_p0 p0.length c_p0), (3, .pointer (some ⟨b4, 0, none⟩)), (4, .int .i64 0), (6, .int .i64 s_3), (8, .int .i64 s_8), (9, .int .i64 v_9), (10, .int .i64 s_11), (39, .slice a_p1_2 p1_2.length c_p1_2), (40, .int .i64 (p1_2.length : Int)), (41, .int .i64 s_3), (53, .slice a30 ((v_6).length) c31), (54, .int .i64 ((v_6).length : Int)), (55, .int .i64 s_8), (94, .bool true), (95, .int .i64 v_9), (96, .pointer (some ⟨b4, 2, none⟩))] rfl ⟨rfl, rfl, rfl, rfl, rfl, rfl, rfl, rfl, rfl, rfl, rfl, rfl, rfl, rfl, rfl, rfl, trivial⟩ ?_
                                  refine WO_loadB tbok 0 rfl rfl rfl rfl (fun _ h => h) rfl rfl ?_
                                  refine WO_pure tbok 2 [(0, .slice a_p0 p0.length c_p0), (3, .pointer (some ⟨b4, 0, none⟩)), (4, .int .i64 0), (6, .int .i64 s_3), (8, .int .i64 s_8), (9, .int .i64 v_9), (10, .int .i64 s_11), (39, .slice a_p1_2 p1_2.length c_p1_2), (40, .int .i64 (p1_2.length : Int)), (41, .int .i64 s_3), (53, .slice a30 ((v_6).length) c31), (54, .int .i64 ((v_6).length : Int)), (55, .int .i64 s_8), (94, .bool true), (95, .int .i64 v_9), (97, .slice a_p1_2 p1_2.length c_p1_2), (99, .int .i64 (w64 (s_3 - 1)))] rfl ⟨rfl, rfl, rfl, rfl, rfl, rfl, rfl, rfl, rfl, rfl, rfl, rfl, rfl, rfl, rfl, rfl, rfl, trivial⟩ ?_
                                  obtain ⟨v_15, hy79, hx68⟩ := bind_some hx68
                                  obtain ⟨hc80, hy79⟩ := ix_some hy79
                                  refine WO_index tbok rfl rfl rfl rfl rfl rfl rfl rfl (SlR.addr h_p1_2) hc80 ?_
                                  refine WO_loadR tbok rfl rfl rfl rfl (fun _ h => St.sat h) h_p1_2 hy79 rfl rfl (fun a81 c82 h83 => ?_)
                                  refine WO_pure tbok 1 [(0, .slice a_p0 p0.length c_p0), (3, .pointer (some ⟨b4, 0, none⟩)), (4, .int .i64 0), (6, .int .i64 s_3), (8, .int .i64 s_8), (9, .int .i64 v_9), (10, .int .i64 s_11), (39, .slice a_p1_2 p1_2.length c_p1_2), (40, .int .i64 (p1_2.length : Int)), (41, .int .i64 s_3), (53, .slice a30 ((v_6).length) c31), (54, .int .i64 ((v_6).length : Int)), (55, .int .i64 s_8), (94, .bool true), (95, .int .i64 v_9), (101, .slice a81 ((v_15).length) c82), (102, .int .i64 s_11)] rfl ⟨rfl, rfl, rfl, rfl, rfl, rfl, rfl, rfl, rfl, rfl, rfl, rfl, rfl, rfl, rfl, rfl, rfl, trivial⟩ ?_
                                  obtain ⟨v_16, hy85, hx68⟩ := bind_some hx68
                                  obtain ⟨hc86, hy85⟩ := ix_some hy85
                                  refine WO_index tbok rfl rfl rfl rfl rfl rfl rfl rfl (SlR.addr h83) hc86 ?_
                                  refine WO_loadE tbok rfl rfl rfl rfl (fun _ h => St.sat h) h83 hy85 rfl ?_
                                  refine WO_pure tbok 2 [(0, .slice a_p0 p0.length c_p0), (3, .pointer (some ⟨b4, 0, none⟩)), (4, .int .i64 0), (6, .int .i64 s_3), (8, .int .i64 s_8), (9, .int .i64 v_9), (10, .int .i64 s_11), (39, .slice a_p1_2 p1_2.length c_p1_2), (40, .int .i64 (p1_2.length : Int)), (41, .int .i64 s_3), (53, .slice a30 ((v_6).length) c31), (54, .int .i64 ((v_6).length : Int)), (55, .int .i64 s_8), (94, .bool true), (95, .int .i64 v_9), (104, .int .i64 v_16), (105, .slice a_p0 p0.length c_p0), (106, .int .i64 s_3)] rfl ⟨rfl, rfl, rfl, rfl, rfl, rfl, rfl, rfl, rfl, rfl, rfl, rfl, rfl, rfl, rfl, rfl, rfl, rfl, trivial⟩ ?_
                                  obtain ⟨v_17, hy87, hx68⟩ := bind_some hx68
                                  obtain ⟨hc88, hy87⟩ := ix_some hy87
                                  refine WO_index tbok rfl rfl rfl rfl rfl rfl rfl rfl (SlR.addr h_p0) hc88 ?_
                                  refine WO_loadR tbok rfl rfl rfl rfl (fun _ h => St.sat h) h_p0 hy87 rfl rfl (fun a89 c90 h91 => ?_)
                                  refine WO_pure tbok 1 [(0, .slice a_p0 p0.length c_p0), (3, .pointer (some ⟨b4, 0, none⟩)), (4, .int .i64 0), (6, .int .i64 s_3), (8, .int .i64 s_8), (9, .int .i64 v_9), (10, .int .i64 s_11), (39, .slice a_p1_2 p1_2.length c_p1_2), (40, .int .i64 (p1_2.length : Int)), (41, .int .i64 s_3), (53, .slice a30 ((v_6).length) c31), (54, .int .i64 ((v_6).length : Int)), (55, .int .i64 s_8), (94, .bool true), (95, .int .i64 v_9), (104, .int .i64 v_16), (108, .slice a89 ((v_17).length) c90), (109, .int .i64 s_8)] rfl ⟨rfl, rfl, rfl, rfl, rfl, rfl, rfl, rfl, rfl, rfl, rfl, rfl, rfl, rfl, rfl, rfl, rfl, rfl, trivial⟩ ?_
                                  obtain ⟨v_18, hy93, hx68⟩ := bind_some hx68
                                  obtain ⟨hc94, hy93⟩ := ix_some hy93
                                  refine WO_index tbok rfl rfl rfl rfl rfl rfl rfl rfl (SlR.addr h91) hc94 ?_
                                  refine WO_loadE tbok rfl rfl rfl rfl (fun _ h => St.sat h) h91 hy93 rfl ?_
                                  obtain ⟨y_19, hc95, hx68⟩ := bind_some hx68
                                  refine WO_call0 (.bool y_19) rfl rfl St_closed rfl rfl rfl rfl St_closed ⟨42, #[], #[], rfl, callable_42, fun w hw => ⟨_, hw.sat, fiduciallaw50_above_walk hc95⟩⟩ ?_
                                  refine WO_pure tbok 1 [(0, .slice a_p0 p0.length c_p0), (3, .pointer (some ⟨b4, 0, none⟩)), (4, .int .i64 0), (6, .int .i64 s_3), (8, .int .i64 s_8), (9, .int .i64 v_9), (10, .int .i64 s_11), (39, .slice a_p1_2 p1_2.length c_p1_2), (40, .int .i64 (p1_2.length : Int)), (41, .int .i64 s_3), (53, .slice a30 ((v_6).length) c31), (54, .int .i64 ((v_6).length : Int)), (55, .int .i64 s_8), (113, .bool y_19)] rfl ⟨rfl, rfl, rfl, rfl, rfl, rfl, rfl, rfl, rfl, rfl, rfl, rfl, rfl, rfl, trivial⟩ ?_
                                  refine WO_tail ?_
                                  refine WO_end ?_
                                  cases hx68
                                  refine WK.sub ?_ (WK.cls (fun _ h => h) hk69)
                                  exact ⟨rfl, rfl, rfl, rfl, rfl, rfl, rfl, rfl, rfl, rfl, rfl, rfl, rfl, rfl, trivial⟩
                                · have hx68 := ifF hb78 hx68
                                  refine WO_pure tbok 17 [(0, .slice a_p0 p0.length c_p0), (3, .pointer (some ⟨b4, 0, none⟩)), (4, .int .i64 0), (6, .int .i64 s_3), (8, .int .i64 s_8), (9, .int .i64 v_9), (10, .int .i64 s_11), (39, .slice a_p1_2 p1_2.length c_p1_2), (40, .int .i64 (p1_2.length : Int)), (41, .int .i64 s_3), (53, .slice a30 ((v_6).length) c31), (54, .int .i64 ((v_6).length : Int)), (55, .int .i64 s_8), (94, .bool false)] rfl ⟨rfl, rfl, rfl, rfl, rfl, rfl, rfl, rfl, rfl, rfl, rfl, rfl, rfl, rfl, trivial⟩ ?_
                                  refine WO_skip rfl rfl ?_
                                  refine WO_pure tbok 1 [(0, .slice a_p0 p0.length c_p0), (3, .pointer (some ⟨b4, 0, none⟩)), (4, .int .i64 0), (6, .int .i64 s_3), (8, .int .i64 s_8), (9, .int .i64 v_9), (10, .int .i64 s_11), (39, .slice a_p1_2 p1_2.length c_p1_2), (40, .int .i64 (p1_2.length : Int)), (41, .int .i64 s_3), (53, .slice a30 ((v_6).length) c31), (54, .int .i64 ((v_6).length : Int)), (55, .int .i64 s_8), (113, .bool false)] rfl ⟨rfl, rfl, rfl, rfl, rfl, rfl, rfl, rfl, rfl, rfl, rfl, rfl, rfl, rfl, trivial⟩ ?_
                                  refine WO_tail ?_
                                  refine WO_end ?_
                                  cases hx68
                                  refine WK.sub ?_ (WK.cls (fun _ h => h) hk69)
                                  exact ⟨rfl, rfl, rfl, rfl, rfl, rfl, rfl, rfl, rfl, rfl, rfl, rfl, rfl, rfl, trivial⟩
                              · have hx68 := ifF hb71 hx68
                                refine WO_pure tbok 25 [(0, .slice a_p0 p0.length c_p0), (3, .pointer (some ⟨b4, 0, none⟩)), (4, .int .i64 0), (6, .int .i64 s_3), (8, .int .i64 s_8), (9, .int .i64 v_9), (10, .int .i64 s_11), (39, .slice a_p1_2 p1_2.length c_p1_2), (40, .int .i64 (p1_2.length : Int)), (41, .int .i64 s_3), (53, .slice a30 ((v_6).length) c31), (54, .int .i64 ((v_6).length : Int)), (55, .int .i64 s_8), (94, .bool false)] rfl ⟨rfl, rfl, rfl, rfl, rfl, rfl, rfl, rfl, rfl, rfl, rfl, rfl, rfl, rfl, trivial⟩ ?_
                                refine WO_skip rfl rfl ?_
                                refine WO_pure tbok 1 [(0, .slice a_p0 p0.length c_p0), (3, .pointer (some ⟨b4, 0, none⟩)), (4, .int .i64 0), (6, .int .i64 s_3), (8, .int .i64 s_8), (9, .int .i64 v_9), (10, .int .i64 s_11), (39, .slice a_p1_2 p1_2.length c_p1_2), (40, .int .i64 (p1_2.length : Int)), (41, .int .i64 s_3), (53, .slice a30 ((v_6).length) c31), (54, .int .i64 ((v_6).length : Int)), (55, .int .i64 s_8), (113, .bool false)] rfl ⟨rfl, rfl, rfl, rfl, rfl, rfl, rfl, rfl, rfl, rfl, rfl, rfl, rfl, rfl, trivial⟩ ?_
                                refine WO_tail ?_
                                refine WO_end ?_
                                cases hx68
                                refine WK.sub ?_ (WK.cls (fun _ h => h) hk69)
                                exact ⟨rfl, rfl, rfl, rfl, rfl, rfl, rfl, rfl, rfl, rfl, rfl, rfl, rfl, rfl, trivial⟩
                          · have hm59 := ifF hb67 hm59
                            refine WK_exit rfl ?_
                            cases hm59
                            refine WK.sub ?_ (WK.cls (fun _ h => h) (hk58 ((), ()) (hd63 _ rfl)))
                            exact ⟨rfl, rfl, rfl, rfl, rfl, rfl, rfl, rfl, rfl, rfl, trivial⟩
                        · refine WK_region ?_
                          refine WO_pure tbok 5 [(0, .slice a_p0 p0.length c_p0), (3, .pointer (some ⟨b4, 0, none⟩)), (4, .int .i64 0), (6, .int .i64 s_3), (8, .int .i64 s_8), (9, .int .i64 v_9), (10, .int .i64 s_11), (39, .slice a_p1_2 p1_2.length c_p1_2), (40, .int .i64 (p1_2.length : Int)), (41, .int .i64 s_3), (53, .slice a30 ((v_6).length) c31), (54, .int .i64 ((v_6).length : Int)), (55, .int .i64 s_8), (78, .bool (decide (s_11 ≤ (w64 (s_8 + 1)))))] rfl ⟨rfl, rfl, rfl, rfl, rfl, rfl, rfl, rfl, rfl, rfl, rfl, rfl, rfl, rfl, trivial⟩ ?_
                          refine WO_split (d := 78) (b := decide (s_11 ≤ (w64 (s_8 + 1)))) rfl (fun hb96 => ?_) (fun hb96 => ?_)
                          · have hx65 := ifT hb96 hx65
                            refine WO_pure tbok 3 [(0, .slice a_p0 p0.length c_p0), (3, .pointer (some ⟨b4, 0, none⟩)), (4, .int .i64 0), (6, .int .i64 s_3), (8, .int .i64 s_8), (9, .int .i64 v_9), (10, .int .i64 s_11), (39, .slice a_p1_2 p1_2.length c_p1_2), (40, .int .i64 (p1_2.length : Int)), (41, .int .i64 s_3), (53, .slice a30 ((v_6).length) c31), (54, .int .i64 ((v_6).length : Int)), (55, .int .i64 s_8), (81, .bool (decide (0 < s_3)))] rfl ⟨rfl, rfl, rfl, rfl, rfl, rfl, rfl, rfl, rfl, rfl, rfl, rfl, rfl, rfl, trivial⟩ ?_
                            refine WO_end ?_
                            cases hx65
                            refine WK.sub ?_ (WK.cls (fun _ h => h) hk66)
                            exact ⟨rfl, rfl, rfl, rfl, rfl, rfl, rfl, rfl, rfl, rfl, rfl, rfl, rfl, rfl, trivial⟩
                          · have hx65 := ifF hb96 hx65
                            refine WO_pure tbok 3 [(0, .slice a_p0 p0.length c_p0), (3, .pointer (some ⟨b4, 0, none⟩)), (4, .int .i64 0), (6, .int .i64 s_3), (8, .int .i64 s_8), (9, .int .i64 v_9), (10, .int .i64 s_11), (39, .slice a_p1_2 p1_2.length c_p1_2), (40, .int .i64 (p1_2.length : Int)), (41, .int .i64 s_3), (53, .slice a30 ((v_6).length) c31), (54, .int .i64 ((v_6).length : Int)), (55, .int .i64 s_8), (81, .bool false)] rfl ⟨rfl, rfl, rfl, rfl, rfl, rfl, rfl, rfl, rfl, rfl, rfl, rfl, rfl, rfl, trivial⟩ ?_
                            refine WO_end ?_
                            cases hx65
                            refine WK.sub ?_ (WK.cls (fun _ h => h) hk66)
                            exact ⟨rfl, rfl, rfl, rfl, rfl, rfl, rfl, rfl, rfl, rfl, rfl, rfl, rfl, rfl, trivial⟩
                  · refine WK_region ?_
                    refine WO_pure tbok 3 [(0, .slice a_p0 p0.length c_p0), (3, .pointer (some ⟨b4, 0, none⟩)), (4, .int .i64 0), (6, .int .i64 s_3), (8, .int .i64 s_8), (9, .int .i64 v_9), (39, .slice a_p1_2 p1_2.length c_p1_2), (40, .int .i64 (p1_2.length : Int)), (41, .int .i64 s_3), (53, .slice a30 ((v_6).length) c31), (54, .int .i64 ((v_6).length : Int)), (55, .int .i64 s_8), (62, .bool (s_3 == 0))] rfl ⟨rfl, rfl, rfl, rfl, rfl, rfl, rfl, rfl, rfl, rfl, rfl, rfl, rfl, trivial⟩ ?_
                    refine WO_split (d := 62) (b := s_3 == 0) rfl (fun hb97 => ?_) (fun hb97 => ?_)
                    · have hx53 := ifT hb97 hx53
                      refine WO_pure tbok 2 [(0, .slice a_p0 p0.length c_p0), (3, .pointer (some ⟨b4, 0, none⟩)), (4, .int .i64 0), (6, .int .i64 s_3), (8, .int .i64 s_8), (9, .int .i64 v_9), (39, .slice a_p1_2 p1_2.length c_p1_2), (40, .int .i64 (p1_2.length : Int)), (41, .int .i64 s_3), (53, .slice a30 ((v_6).length) c31), (54, .int .i64 ((v_6).length : Int)), (55, .int .i64 s_8), (62, .bool true), (63, .int .i64 v_9), (64, .slice a_p0 p0.length c_p0)] rfl ⟨rfl, rfl, rfl, rfl, rfl, rfl, rfl, rfl, rfl, rfl, rfl, rfl, rfl, rfl, rfl, trivial⟩ ?_
                      obtain ⟨v_20, hy98, hx53⟩ := bind_some hx53
                      obtain ⟨hc99, hy98⟩ := ix_some hy98
                      refine WO_index tbok rfl rfl rfl rfl rfl rfl rfl rfl (SlR.addr h_p0) hc99 ?_
                      refine WO_loadR tbok rfl rfl rfl rfl (fun _ h => St.sat h) h_p0 hy98 rfl rfl (fun a100 c101 h102 => ?_)
                      refine WO_pure tbok 1 [(0, .slice a_p0 p0.length c_p0), (3, .pointer (some ⟨b4, 0, none⟩)), (4, .int .i64 0), (6, .int .i64 s_3), (8, .int .i64 s_8), (9, .int .i64 v_9), (39, .slice a_p1_2 p1_2.length c_p1_2), (40, .int .i64 (p1_2.length : Int)), (41, .int .i64 s_3), (53, .slice a30 ((v_6).length) c31), (54, .int .i64 ((v_6).length : Int)), (55, .int .i64 s_8), (62, .bool true), (63, .int .i64 v_9), (66, .slice a100 ((v_20).length) c101), (67, .int .i64 s_8)] rfl ⟨rfl, rfl, rfl, rfl, rfl, rfl, rfl, rfl, rfl, rfl, rfl, rfl, rfl, rfl, rfl, rfl, trivial⟩ ?_
                      obtain ⟨v_21, hy104, hx53⟩ := bind_some hx53
                      obtain ⟨hc105, hy104⟩ := ix_some hy104
                      refine WO_index tbok rfl rfl rfl rfl rfl rfl rfl rfl (SlR.addr h102) hc105 ?_
                      refine WO_loadE tbok rfl rfl rfl rfl (fun _ h => St.sat h) h102 hy104 rfl ?_
                      refine WO_pure tbok 2 [(0, .slice a_p0 p0.length c_p0), (3, .pointer (some ⟨b4, 0, none⟩)), (4, .int .i64 0), (6, .int .i64 s_3), (8, .int .i64 s_8), (9, .int .i64 v_9), (39, .slice a_p1_2 p1_2.length c_p1_2), (40, .int .i64 (p1_2.length : Int)), (41, .int .i64 s_3), (53, .slice a30 ((v_6).length) c31), (54, .int .i64 ((v_6).length : Int)), (55, .int .i64 s_8), (71, .bool (decide (v_21 < v_9)))] rfl ⟨rfl, rfl, rfl, rfl, rfl, rfl, rfl, rfl, rfl, rfl, rfl, rfl, rfl, trivial⟩ ?_
                      refine WO_end ?_
                      cases hx53
                      refine WK.sub ?_ (WK.cls (fun _ h => h) hk54)
                      exact ⟨rfl, rfl, rfl, rfl, rfl, rfl, rfl, rfl, rfl, rfl, rfl, rfl, rfl, trivial⟩
                    · have hx53 := ifF hb97 hx53
                      refine WO_pure tbok 9 [(0, .slice a_p0 p0.length c_p0), (3, .pointer (some ⟨b4, 0, none⟩)), (4, .int .i64 0), (6, .int .i64 s_3), (8, .int .i64 s_8), (9, .int .i64 v_9), (39, .slice a_p1_2 p1_2.length c_p1_2), (40, .int .i64 (p1_2.length : Int)), (41, .int .i64 s_3), (53, .slice a30 ((v_6).length) c31), (54, .int .i64 ((v_6).length : Int)), (55, .int .i64 s_8), (71, .bool false)] rfl ⟨rfl, rfl, rfl, rfl, rfl, rfl, rfl, rfl, rfl, rfl, rfl, rfl, rfl, trivial⟩ ?_
                      refine WO_end ?_
                      cases hx53
                      refine WK.sub ?_ (WK.cls (fun _ h => h) hk54)
                      exact ⟨rfl, rfl, rfl, rfl, rfl, rfl, rfl, rfl, rfl, rfl, rfl, rfl, rfl, trivial⟩
                · have hm44 := ifF hb50 hm44
                  refine WK_exit rfl ?_
                  cases hm44
                  refine WK.sub ?_ (WK.cls (fun _ h => h) (hk43 ((), ()) (hd48 _ rfl)))
                  exact ⟨rfl, rfl, rfl, rfl, rfl, rfl, trivial⟩
          · have hm13 := ifF hb27 hm13
            refine WK_exit rfl ?_
            cases hm13
            refine WK.sub ?_ (WK.cls (fun _ h => h) (hk12 ((), ()) (hd17 _ rfl)))
            exact ⟨rfl, rfl, rfl, trivial⟩
    · refine WK_draw 22 [0, 1, 2, 3, 4, 5, 6, 7, 8, 10, 11, 9, 12, 13, 14, 15, 16, 17, 18, 19, 20, 21] follows_ok (by kernel_rfl) St_closed ?_
      refine WO_pure tbok 2 [(0, .slice a_p0 p0.length c_p0), (3, .pointer (some ⟨b4, 0, none⟩)), (4, .int .i64 0), (16, .slice a_p0 p0.length c_p0), (17, .pointer (some ⟨b4, 0, none⟩))] rfl ⟨rfl, rfl, rfl, rfl, rfl, trivial⟩ ?_
      refine WO_loadB tbok 0 rfl rfl rfl rfl (fun _ h => h) rfl rfl ?_
      obtain ⟨y_22, hc106, hx7⟩ := bind_some hx7
      refine WO_call0 (.bool y_22) rfl rfl St_closed rfl rfl rfl rfl St_closed ⟨26, #[], #[], rfl, callable_26, fun w hw => ⟨_, hw.sat, fiduciallaw50_Right_walk h_p0 h_p1_0 hc106⟩⟩ ?_
      refine WO_pure tbok 2 [(0, .slice a_p0 p0.length c_p0), (3, .pointer (some ⟨b4, 0, none⟩)), (4, .int .i64 0), (21, .bool (!y_22))] rfl ⟨rfl, rfl, rfl, rfl, trivial⟩ ?_
      refine WO_split (d := 21) (b := !y_22) rfl (fun hb107 => ?_) (fun hb107 => ?_)
      · have hx7 := ifT hb107 hx7
        refine WO_pure tbok 5 [(0, .slice a_p0 p0.length c_p0), (3, .pointer (some ⟨b4, 0, none⟩)), (4, .int .i64 0), (21, .bool true)] rfl ⟨rfl, rfl, rfl, rfl, trivial⟩ ?_
        refine WO_skip rfl rfl ?_
        refine WO_pure tbok 10 [(0, .slice a_p0 p0.length c_p0), (3, .pointer (some ⟨b4, 0, none⟩)), (4, .int .i64 0), (37, .bool true)] rfl ⟨rfl, rfl, rfl, rfl, trivial⟩ ?_
        refine WO_tail ?_
        refine WO_end ?_
        cases hx7
        refine WK.sub ?_ (WK.cls (fun _ h => h) hk8)
        exact ⟨rfl, rfl, rfl, rfl, trivial⟩
      · have hx7 := ifF hb107 hx7
        refine WO_pure tbok 2 [(0, .slice a_p0 p0.length c_p0), (3, .pointer (some ⟨b4, 0, none⟩)), (4, .int .i64 0), (21, .bool false), (22, .slice a_p0 p0.length c_p0), (23, .pointer (some ⟨b4, 0, none⟩))] rfl ⟨rfl, rfl, rfl, rfl, rfl, rfl, trivial⟩ ?_
        refine WO_loadB tbok 0 rfl rfl rfl rfl (fun _ h => h) rfl rfl ?_
        refine WO_pure tbok 1 [(0, .slice a_p0 p0.length c_p0), (3, .pointer (some ⟨b4, 0, none⟩)), (4, .int .i64 0), (21, .bool false), (22, .slice a_p0 p0.length c_p0), (24, .slice a_p1_0 p1_0.length c_p1_0), (26, .pointer (some ⟨b4, 1, none⟩))] rfl ⟨rfl, rfl, rfl, rfl, rfl, rfl, rfl, trivial⟩ ?_
        refine WO_loadB tbok 0 rfl rfl rfl rfl (fun _ h => h) rfl rfl ?_
        obtain ⟨y_23, hc108, hx7⟩ := bind_some hx7
        refine WO_call0 (.int .i64 y_23) rfl rfl St_closed rfl rfl rfl rfl St_closed ⟨27, #[], #[], rfl, callable_27, fun w hw => ⟨_, hw.sat, fiduciallaw50_Total_walk h_p0 h_p1_0 hc108⟩⟩ ?_
        refine WO_pure tbok 3 [(0, .slice a_p0 p0.length c_p0), (3, .pointer (some ⟨b4, 0, none⟩)), (4, .int .i64 0), (30, .bool (y_23 != p1_1))] rfl ⟨rfl, rfl, rfl, rfl, trivial⟩ ?_
        refine WO_split (d := 30) (b := y_23 != p1_1) rfl (fun hb109 => ?_) (fun hb109 => ?_)
        · have hx7 := ifT hb109 hx7
          refine WO_pure tbok 7 [(0, .slice a_p0 p0.length c_p0), (3, .pointer (some ⟨b4, 0, none⟩)), (4, .int .i64 0), (37, .bool true)] rfl ⟨rfl, rfl, rfl, rfl, trivial⟩ ?_
          refine WO_tail ?_
          refine WO_end ?_
          cases hx7
          refine WK.sub ?_ (WK.cls (fun _ h => h) hk8)
          exact ⟨rfl, rfl, rfl, rfl, trivial⟩
        · have hx7 := ifF hb109 hx7
          refine WO_pure tbok 1 [(0, .slice a_p0 p0.length c_p0), (3, .pointer (some ⟨b4, 0, none⟩)), (4, .int .i64 0), (30, .bool false), (31, .pointer (some ⟨b4, 2, none⟩))] rfl ⟨rfl, rfl, rfl, rfl, rfl, trivial⟩ ?_
          refine WO_loadB tbok 0 rfl rfl rfl rfl (fun _ h => h) rfl rfl ?_
          refine WO_pure tbok 5 [(0, .slice a_p0 p0.length c_p0), (3, .pointer (some ⟨b4, 0, none⟩)), (4, .int .i64 0), (37, .bool ((p1_2.length : Int) != (p0.length : Int)))] rfl ⟨rfl, rfl, rfl, rfl, trivial⟩ ?_
          refine WO_tail ?_
          refine WO_end ?_
          cases hx7
          refine WK.sub ?_ (WK.cls (fun _ h => h) hk8)
          exact ⟨rfl, rfl, rfl, rfl, trivial⟩
theorem fiduciallaw50_SeamProves_walk {m : Mu} {p0 : List (List Int)} {p1_0 : List Int} {p1_1 : Int} {p1_2 : List (List Int)} {a_p0 : Option Addr} {q_p0 c_p0 : Nat} {a_p1_0 : Option Addr} {q_p1_0 c_p1_0 : Nat} {a_p1_2 : Option Addr} {q_p1_2 c_p1_2 : Nat} (h_p0 : SlR (RowE (FE (I1 .i64)) 1) 1 m (.slice a_p0 q_p0 c_p0) p0) (h_p1_0 : SlR (FE (I1 .i64)) 1 m (.slice a_p1_0 q_p1_0 c_p1_0) p1_0) (h_p1_2 : SlR (RowE (FE (I1 .i64)) 1) 1 m (.slice a_p1_2 q_p1_2 c_p1_2) p1_2) {r : Bool} (hm : fiduciallaw50_SeamProves p0 p1_0 p1_1 p1_2 = some r) :
    Go.E.Spec Try.prog 3 [.slice a_p0 q_p0 c_p0, .agg #[.slice a_p1_0 q_p1_0 c_p1_0, .int .i64 p1_1, .slice a_p1_2 q_p1_2 c_p1_2]] m (fun v _ _ => v = .bool r) := by
  refine Spec_enter Try.func3 rfl rfl rfl (fun w0 => ?_)
  refine WK.sub (e' := [(0, .slice a_p0 q_p0 c_p0), (1, .agg #[.slice a_p1_0 q_p1_0 c_p1_0, .int .i64 p1_1, .slice a_p1_2 q_p1_2 c_p1_2])]) ⟨rfl, rfl, trivial⟩ ?_
  obtain rfl := SlR.qlen h_p0
  obtain rfl := SlR.qlen h_p1_0
  obtain rfl := SlR.qlen h_p1_2
  refine WK.sub (e' := [(0, .slice a_p0 p0.length c_p0), (1, .agg #[.slice a_p1_0 p1_0.length c_p1_0, .int .i64 p1_1, .slice a_p1_2 p1_2.length c_p1_2])]) ⟨rfl, rfl, trivial⟩ ?_
  unfold fiduciallaw50_SeamProves at hm
  refine WK_seq ?_
  refine WK_region ?_
  refine WO_box [.slice a_p1_0 p1_0.length c_p1_0, .int .i64 p1_1, .slice a_p1_2 p1_2.length c_p1_2] rfl rfl trivial rfl rfl rfl (fun b4 => ?_)
  refine WO.cls (C' := St w0 m m [[⟨b4, 25, [.slice a_p1_0 p1_0.length c_p1_0, .int .i64 p1_1, .slice a_p1_2 p1_2.length c_p1_2]⟩]]) (fun _ h => h) ?_
  refine WO_pure tbok 1 [(0, .slice a_p0 p0.length c_p0), (3, .pointer (some ⟨b4, 0, none⟩)), (4, .bool false)] rfl ⟨rfl, rfl, rfl, trivial⟩ ?_
  refine WO_end ?_
  refine WK_seq ?_
  refine WK_seq ?_
  refine WK_region ?_
  obtain ⟨y_1, hc5, hm⟩ := bind_some hm
  refine WO_call0 (.bool y_1) rfl rfl trivial rfl rfl rfl rfl St_closed ⟨11, #[], #[], rfl, callable_11, fun w hw => ⟨_, hw.sat, fiduciallaw50_known_walk hc5⟩⟩ ?_
  refine WO_pure tbok 1 [(0, .slice a_p0 p0.length c_p0), (3, .pointer (some ⟨b4, 0, none⟩)), (4, .bool false), (8, .bool (!y_1))] rfl ⟨rfl, rfl, rfl, rfl, trivial⟩ ?_
  refine WO_end ?_
  refine WK_cond (b := !y_1) rfl (fun hb6 => ?_) (fun hb6 => ?_)
  · have hm := ifT hb6 hm
    refine WK_seq ?_
    refine WK_region ?_
    refine WO_pure tbok 1 [(0, .slice a_p0 p0.length c_p0), (3, .pointer (some ⟨b4, 0, none⟩)), (4, .bool false)] rfl ⟨rfl, rfl, rfl, trivial⟩ ?_
    refine WO_end ?_
    cases hm
    exact WK_ret (ret_out (L := []) (RLc_tmp rfl RLc_nil) (List.nil_sublist _) rfl)
  · have hm := ifF hb6 hm
    refine WK_skip ?_
    refine WK_seq ?_
    refine WK_seq ?_
    obtain ⟨s_2, hx7, hm⟩ := bind_some hm
    refine WK_meet [(0, .slice a_p0 p0.length c_p0), (3, .pointer (some ⟨b4, 0, none⟩)), (4, .bool false), (23, .bool s_2)] (St w0 m m [[⟨b4, 25, [.slice a_p1_0 p1_0.length c_p1_0, .int .i64 p1_1, .slice a_p1_2 p1_2.length c_p1_2]⟩]]) ?_ (fun hk8 => ?_)
    · refine WK_cond (b := s_2) rfl (fun hb9 => ?_) (fun hb9 => ?_)
      · have hm := ifT hb9 hm
        refine WK_seq ?_
        refine WK_region ?_
        refine WO_pure tbok 1 [(0, .slice a_p0 p0.length c_p0), (3, .pointer (some ⟨b4, 0, none⟩)), (4, .bool true)] rfl ⟨rfl, rfl, rfl, trivial⟩ ?_
        refine WO_end ?_
        cases hm
        exact WK_ret (ret_out (L := []) (RLc_tmp rfl RLc_nil) (List.nil_sublist _) rfl)
      · have hm := ifF hb9 hm
        refine WK_skip ?_
        refine WK_seq ?_
        refine WK_seq ?_
        refine WK_region ?_
        refine WO_pure tbok 1 [(0, .slice a_p0 p0.length c_p0), (3, .pointer (some ⟨b4, 0, none⟩)), (4, .bool false), (24, .pointer (some ⟨b4, 2, none⟩))] rfl ⟨rfl, rfl, rfl, rfl, trivial⟩ ?_
        refine WO_loadB tbok 0 rfl rfl rfl rfl (fun _ h => h) rfl rfl ?_
        refine WO_pure tbok 2 [(0, .slice a_p0 p0.length c_p0), (3, .pointer (some ⟨b4, 0, none⟩)), (4, .bool false), (25, .slice a_p1_2 p1_2.length c_p1_2), (26, .int .i64 (p1_2.length : Int)), (27, .int .i64 0)] rfl ⟨rfl, rfl, rfl, rfl, rfl, rfl, trivial⟩ ?_
        refine WO_end ?_
        obtain ⟨x10, hx11, hm⟩ := bind_some hm
        refine WK_join (β := Unit × Unit) (fun p => Sum.inr p.1 = x10) (fun p => [(0, .slice a_p0 p0.length c_p0), (3, .pointer (some ⟨b4, 0, none⟩)), (4, .bool false)]) (fun p => St w0 m m [[⟨b4, 25, [.slice a_p1_0 p1_0.length c_p1_0, .int .i64 p1_1, .slice a_p1_2 p1_2.length c_p1_2]⟩]]) ?_ (fun hk12 => ?_)
        · rintro ⟨⟨⟩, ⟨⟩⟩ hq18
          subst hq18
          refine WK.sub (e' := [(0, .slice a_p0 p0.length c_p0), (3, .pointer (some ⟨b4, 0, none⟩)), (4, .bool false)]) ⟨rfl, rfl, rfl, trivial⟩ (WK.cls (C' := St w0 m m [[⟨b4, 25, [.slice a_p1_0 p1_0.length c_p1_0, .int .i64 p1_1, .slice a_p1_2 p1_2.length c_p1_2]⟩]]) (fun _ h => h) ?_)
          refine WK_seq ?_
          refine WK_draw 8 [0, 1, 3, 4, 2, 5, 6, 7] follows_ok (by kernel_rfl) St_closed ?_
          refine WO_pure tbok 1 [(0, .slice a_p0 p0.length c_p0), (3, .pointer (some ⟨b4, 0, none⟩)), (4, .bool false), (34, .slice a_p0 p0.length c_p0)] rfl ⟨rfl, rfl, rfl, rfl, trivial⟩ ?_
          refine WO_loadB tbok 0 rfl rfl rfl rfl (fun _ h => h) rfl rfl ?_
          refine WO_pure tbok 1 [(3, .pointer (some ⟨b4, 0, none⟩)), (4, .bool false), (34, .slice a_p0 p0.length c_p0), (35, .agg #[.slice a_p1_0 p1_0.length c_p1_0, .int .i64 p1_1, .slice a_p1_2 p1_2.length c_p1_2]), (37, .slice a_p0 p0.length c_p0)] rfl ⟨rfl, rfl, rfl, rfl, rfl, trivial⟩ ?_
          refine WO_loadB tbok 0 rfl rfl rfl rfl (fun _ h => h) rfl rfl ?_
          obtain ⟨y_4, hc19, hm⟩ := bind_some hm
          refine WO_call0 (.int .i64 y_4) rfl rfl St_closed rfl rfl rfl rfl St_closed ⟨15, #[], #[], rfl, callable_15, fun w hw => ⟨_, hw.sat, seam_Prove_walk h_p0 h_p1_0 h_p1_2 hc19⟩⟩ ?_
          obtain ⟨y_5, hc20, hm⟩ := bind_some hm
          refine WO_call0 (.int .i64 y_5) rfl rfl St_closed rfl rfl rfl rfl St_closed ⟨16, #[], #[], rfl, callable_16, fun w hw => ⟨_, hw.sat, fiduciallaw50_proved_walk h_p0 h_p1_0 h_p1_2 hc20⟩⟩ ?_
          refine WO_pure tbok 2 [(4, .bool (y_4 == y_5))] rfl ⟨rfl, trivial⟩ ?_
          refine WO_tail ?_
          refine WO_end ?_
          cases hm
          exact WK_ret (ret_out (L := []) (RLc_tmp rfl RLc_nil) (List.nil_sublist _) rfl)
        · refine WK_block ?_
          refine WK_loop (S := Int) (G := Unit) (fun s => fiduciallaw50_SeamProves_s1 p1_2 s) (fun s g => [(0, .slice a_p0 p0.length c_p0), (3, .pointer (some ⟨b4, 0, none⟩)), (4, .bool false), (25, .slice a_p1_2 p1_2.length c_p1_2), (26, .int .i64 (p1_2.length : Int)), (27, .int .i64 s)]) (fun s g => St w0 m m [[⟨b4, 25, [.slice a_p1_0 p1_0.length c_p1_0, .int .i64 p1_1, .slice a_p1_2 p1_2.length c_p1_2]⟩]]) (fun s g => True) FUEL 0 () x10 hx11 trivial ⟨rfl, rfl, rfl, rfl, rfl, rfl, trivial⟩ (fun _ h => h) ?_
          rintro s_3 ⟨⟩ o14 fl15 hm13 - hn16 hd17
          have hm13 : fiduciallaw50_SeamProves_s1 p1_2 s_3 = some o14 := hm13
          unfold fiduciallaw50_SeamProves_s1 at hm13
          refine WK.sub (e' := [(0, .slice a_p0 p0.length c_p0), (3, .pointer (some ⟨b4, 0, none⟩)), (4, .bool false), (25, .slice a_p1_2 p1_2.length c_p1_2), (26, .int .i64 (p1_2.length : Int)), (27, .int .i64 s_3)]) ⟨rfl, rfl, rfl, rfl, rfl, rfl, trivial⟩ (WK.cls (C' := St w0 m m [[⟨b4, 25, [.slice a_p1_0 p1_0.length c_p1_0, .int .i64 p1_1, .slice a_p1_2 p1_2.length c_p1_2]⟩]]) (fun _ h => h) ?_)
          refine WK_seq ?_
          refine WK_region ?_
          refine WO_pure tbok 1 [(0, .slice a_p0 p0.length c_p0), (3, .pointer (some ⟨b4, 0, none⟩)), (4, .bool false), (25, .slice a_p1_2 p1_2.length c_p1_2), (26, .int .i64 (p1_2.length : Int)), (27, .int .i64 s_3), (28, .bool (decide (s_3 < (p1_2.length : Int))))] rfl ⟨rfl, rfl, rfl, rfl, rfl, rfl, rfl, trivial⟩ ?_
          refine WO_end ?_
          refine WK_seq ?_
          refine WK_cond (b := decide (s_3 < (p1_2.length : Int))) rfl (fun hb21 => ?_) (fun hb21 => ?_)
          · have hm13 := ifT hb21 hm13
            refine WK_skip ?_
            refine WK_seq ?_
            refine WK_block ?_
            refine WK_seq ?_
            refine WK_region ?_
            obtain ⟨v_6, hy22, hm13⟩ := bind_some hm13
            obtain ⟨hc23, hy22⟩ := ix_some hy22
            refine WO_index tbok rfl rfl rfl rfl rfl rfl rfl rfl (SlR.addr h_p1_2) hc23 ?_
            refine WO_loadR tbok rfl rfl rfl rfl (fun _ h => St.sat h) h_p1_2 hy22 rfl rfl (fun a24 c25 h26 => ?_)
            refine WO_pure tbok 1 [(0, .slice a_p0 p0.length c_p0), (3, .pointer (some ⟨b4, 0, none⟩)), (4, .bool false), (6, .slice a24 ((v_6).length) c25), (25, .slice a_p1_2 p1_2.length c_p1_2), (26, .int .i64 (p1_2.length : Int)), (27, .int .i64 s_3)] rfl ⟨rfl, rfl, rfl, rfl, rfl, rfl, rfl, trivial⟩ ?_
            refine WO_end ?_
            refine WK_seq ?_
            refine WK_region ?_
            refine WO_pure tbok 1 [(0, .slice a_p0 p0.length c_p0), (3, .pointer (some ⟨b4, 0, none⟩)), (4, .bool false), (25, .slice a_p1_2 p1_2.length c_p1_2), (26, .int .i64 (p1_2.length : Int)), (27, .int .i64 s_3), (31, .slice a24 ((v_6).length) c25)] rfl ⟨rfl, rfl, rfl, rfl, rfl, rfl, rfl, trivial⟩ ?_
            obtain ⟨y_8, hc28, hm13⟩ := bind_some hm13
            refine WO_call0 (.bool y_8) rfl rfl trivial rfl rfl rfl rfl St_closed ⟨13, #[], #[], rfl, callable_13, fun w hw => ⟨_, hw.sat, slices_ContainsFunc_sint_walk h26 (fun m1 hm1 z_7 _ h => specV_cap callable_14 (fiduciallaw50_SeamProves_c1_walk h)) hc28⟩⟩ ?_
            refine WO_end ?_
            refine WK_cond (b := y_8) rfl (fun hb29 => ?_) (fun hb29 => ?_)
            · have hm13 := ifT hb29 hm13
              refine WK_seq ?_
              refine WK_region ?_
              refine WO_pure tbok 1 [(0, .slice a_p0 p0.length c_p0), (3, .pointer (some ⟨b4, 0, none⟩)), (4, .bool true), (25, .slice a_p1_2 p1_2.length c_p1_2), (26, .int .i64 (p1_2.length : Int)), (27, .int .i64 s_3)] rfl ⟨rfl, rfl, rfl, rfl, rfl, rfl, trivial⟩ ?_
              refine WO_end ?_
              cases hm13
              have hq := hd17 _ rfl
              subst hq
              have hm : some _ = some _ := hm
              cases hm
              exact WK_ret (ret_out (L := []) (RLc_tmp rfl RLc_nil) (List.nil_sublist _) rfl)
            · have hm13 := ifF hb29 hm13
              refine WK_skip ?_
              refine WK_blk ?_
              refine WK_region ?_
              refine WO_pure tbok 2 [(0, .slice a_p0 p0.length c_p0), (3, .pointer (some ⟨b4, 0, none⟩)), (4, .bool false), (25, .slice a_p1_2 p1_2.length c_p1_2), (26, .int .i64 (p1_2.length : Int)), (27, .int .i64 (w64 (s_3 + 1)))] rfl ⟨rfl, rfl, rfl, rfl, rfl, rfl, trivial⟩ ?_
              refine WO_end ?_
              cases hm13
              refine WK.sub ?_ (WK.cls (fun _ h => h) (hn16 _ () rfl trivial))
              exact ⟨rfl, rfl, rfl, rfl, rfl, rfl, trivial⟩
          · have hm13 := ifF hb21 hm13
            refine WK_exit rfl ?_
            cases hm13
            refine WK.sub ?_ (WK.cls (fun _ h => h) (hk12 ((), ()) (hd17 _ rfl)))
            exact ⟨rfl, rfl, rfl, trivial⟩
    · refine WK_region ?_
      refine WO_pure tbok 1 [(0, .slice a_p0 p0.length c_p0), (3, .pointer (some ⟨b4, 0, none⟩)), (4, .bool false), (9, .slice a_p0 p0.length c_p0)] rfl ⟨rfl, rfl, rfl, rfl, trivial⟩ ?_
      obtain ⟨y_9, hc30, hx7⟩ := bind_some hx7
      refine WO_call0 (.bool y_9) rfl rfl trivial rfl rfl rfl rfl St_closed ⟨12, #[], #[], rfl, callable_12, fun w hw => ⟨_, hw.sat, fiduciallaw50_Few_walk h_p0 hc30⟩⟩ ?_
      refine WO_pure tbok 2 [(0, .slice a_p0 p0.length c_p0), (3, .pointer (some ⟨b4, 0, none⟩)), (4, .bool false), (12, .bool (!y_9))] rfl ⟨rfl, rfl, rfl, rfl, trivial⟩ ?_
      refine WO_split (d := 12) (b := !y_9) rfl (fun hb31 => ?_) (fun hb31 => ?_)
      · have hx7 := ifT hb31 hx7
        refine WO_pure tbok 2 [(0, .slice a_p0 p0.length c_p0), (3, .pointer (some ⟨b4, 0, none⟩)), (4, .bool false), (12, .bool true)] rfl ⟨rfl, rfl, rfl, rfl, trivial⟩ ?_
        refine WO_skip rfl rfl ?_
        refine WO_pure tbok 8 [(0, .slice a_p0 p0.length c_p0), (3, .pointer (some ⟨b4, 0, none⟩)), (4, .bool false), (23, .bool true)] rfl ⟨rfl, rfl, rfl, rfl, trivial⟩ ?_
        refine WO_end ?_
        cases hx7
        refine WK.sub ?_ (WK.cls (fun _ h => h) hk8)
        exact ⟨rfl, rfl, rfl, rfl, trivial⟩
      · have hx7 := ifF hb31 hx7
        refine WO_pure tbok 1 [(0, .slice a_p0 p0.length c_p0), (3, .pointer (some ⟨b4, 0, none⟩)), (4, .bool false), (12, .bool false), (13, .pointer (some ⟨b4, 2, none⟩))] rfl ⟨rfl, rfl, rfl, rfl, rfl, trivial⟩ ?_
        refine WO_loadB tbok 0 rfl rfl rfl rfl (fun _ h => h) rfl rfl ?_
        obtain ⟨y_10, hc32, hx7⟩ := bind_some hx7
        refine WO_call0 (.bool y_10) rfl rfl trivial rfl rfl rfl rfl St_closed ⟨12, #[], #[], rfl, callable_12, fun w hw => ⟨_, hw.sat, fiduciallaw50_Few_walk h_p1_2 hc32⟩⟩ ?_
        refine WO_pure tbok 3 [(0, .slice a_p0 p0.length c_p0), (3, .pointer (some ⟨b4, 0, none⟩)), (4, .bool false), (18, .bool (!y_10))] rfl ⟨rfl, rfl, rfl, rfl, trivial⟩ ?_
        refine WO_split (d := 18) (b := !y_10) rfl (fun hb33 => ?_) (fun hb33 => ?_)
        · have hx7 := ifT hb33 hx7
          refine WO_pure tbok 5 [(0, .slice a_p0 p0.length c_p0), (3, .pointer (some ⟨b4, 0, none⟩)), (4, .bool false), (23, .bool true)] rfl ⟨rfl, rfl, rfl, rfl, trivial⟩ ?_
          refine WO_end ?_
          cases hx7
          refine WK.sub ?_ (WK.cls (fun _ h => h) hk8)
          exact ⟨rfl, rfl, rfl, rfl, trivial⟩
        · have hx7 := ifF hb33 hx7
          refine WO_pure tbok 1 [(0, .slice a_p0 p0.length c_p0), (3, .pointer (some ⟨b4, 0, none⟩)), (4, .bool false), (18, .bool false), (19, .pointer (some ⟨b4, 0, none⟩))] rfl ⟨rfl, rfl, rfl, rfl, rfl, trivial⟩ ?_
          refine WO_loadB tbok 0 rfl rfl rfl rfl (fun _ h => h) rfl rfl ?_
          refine WO_pure tbok 3 [(0, .slice a_p0 p0.length c_p0), (3, .pointer (some ⟨b4, 0, none⟩)), (4, .bool false), (23, .bool (decide (20 < (p1_0.length : Int))))] rfl ⟨rfl, rfl, rfl, rfl, trivial⟩ ?_
          refine WO_end ?_
          cases hx7
          refine WK.sub ?_ (WK.cls (fun _ h => h) hk8)
          exact ⟨rfl, rfl, rfl, rfl, trivial⟩
theorem fiduciallaw50_SeamMonotone_walk {m : Mu} {p0 : List (List Int)} {p1 : List (List Int)} {a_p0 : Option Addr} {q_p0 c_p0 : Nat} {a_p1 : Option Addr} {q_p1 c_p1 : Nat} (h_p0 : SlR (RowE (FE (I1 .i64)) 1) 1 m (.slice a_p0 q_p0 c_p0) p0) (h_p1 : SlR (RowE (FE (I1 .i64)) 1) 1 m (.slice a_p1 q_p1 c_p1) p1) {r : Bool} (hm : fiduciallaw50_SeamMonotone p0 p1 = some r) :
    Go.E.Spec Try.prog 4 [.slice a_p0 q_p0 c_p0, .slice a_p1 q_p1 c_p1] m (fun v _ _ => v = .bool r) := by
  refine Spec_enter Try.func4 rfl rfl rfl (fun w0 => ?_)
  refine WK.sub (e' := [(0, .slice a_p0 q_p0 c_p0), (1, .slice a_p1 q_p1 c_p1)]) ⟨rfl, rfl, trivial⟩ ?_
  obtain rfl := SlR.qlen h_p0
  obtain rfl := SlR.qlen h_p1
  refine WK.sub (e' := [(0, .slice a_p0 p0.length c_p0), (1, .slice a_p1 p1.length c_p1)]) ⟨rfl, rfl, trivial⟩ ?_
  unfold fiduciallaw50_SeamMonotone at hm
  refine WK_seq ?_
  refine WK_region ?_
  refine WO_pure tbok 1 [(0, .slice a_p0 p0.length c_p0), (1, .slice a_p1 p1.length c_p1), (4, .bool false)] rfl ⟨rfl, rfl, rfl, trivial⟩ ?_
  refine WO_end ?_
  refine WK_seq ?_
  refine WK_seq ?_
  refine WK_region ?_
  obtain ⟨y_1, hc3, hm⟩ := bind_some hm
  refine WO_call0 (.bool y_1) rfl rfl trivial rfl rfl rfl rfl St_closed ⟨11, #[], #[], rfl, callable_11, fun w hw => ⟨_, hw.sat, fiduciallaw50_known_walk hc3⟩⟩ ?_
  refine WO_pure tbok 1 [(0, .slice a_p0 p0.length c_p0), (1, .slice a_p1 p1.length c_p1), (4, .bool false), (15, .bool (!y_1))] rfl ⟨rfl, rfl, rfl, rfl, trivial⟩ ?_
  refine WO_end ?_
  refine WK_cond (b := !y_1) rfl (fun hb4 => ?_) (fun hb4 => ?_)
  · have hm := ifT hb4 hm
    refine WK_seq ?_
    refine WK_region ?_
    refine WO_pure tbok 1 [(0, .slice a_p0 p0.length c_p0), (1, .slice a_p1 p1.length c_p1), (4, .bool false)] rfl ⟨rfl, rfl, rfl, trivial⟩ ?_
    refine WO_end ?_
    cases hm
    exact WK_ret (ret_out (L := []) (RLc_tmp rfl RLc_nil) (List.nil_sublist _) rfl)
  · have hm := ifF hb4 hm
    refine WK_skip ?_
    refine WK_seq ?_
    refine WK_seq ?_
    obtain ⟨s_2, hx5, hm⟩ := bind_some hm
    refine WK_meet [(0, .slice a_p0 p0.length c_p0), (1, .slice a_p1 p1.length c_p1), (4, .bool false), (28, .bool s_2)] (St w0 m m []) ?_ (fun hk6 => ?_)
    · refine WK_cond (b := s_2) rfl (fun hb7 => ?_) (fun hb7 => ?_)
      · have hm := ifT hb7 hm
        refine WK_seq ?_
        refine WK_region ?_
        refine WO_pure tbok 1 [(0, .slice a_p0 p0.length c_p0), (1, .slice a_p1 p1.length c_p1), (4, .bool true)] rfl ⟨rfl, rfl, rfl, trivial⟩ ?_
        refine WO_end ?_
        cases hm
        exact WK_ret (ret_out (L := []) (RLc_tmp rfl RLc_nil) (List.nil_sublist _) rfl)
      · have hm := ifF hb7 hm
        refine WK_skip ?_
        refine WK_seq ?_
        refine WK_region ?_
        refine WO_pure tbok 1 [(0, .slice a_p0 p0.length c_p0), (1, .slice a_p1 p1.length c_p1), (4, .bool false), (5, .slice none 0 0)] rfl ⟨rfl, rfl, rfl, rfl, trivial⟩ ?_
        refine WO_end ?_
        refine WK_seq ?_
        refine WK_seq ?_
        refine WK_region ?_
        refine WO_pure tbok 3 [(0, .slice a_p0 p0.length c_p0), (1, .slice a_p1 p1.length c_p1), (4, .bool false), (5, .slice none 0 0), (29, .slice a_p0 p0.length c_p0), (30, .int .i64 (p0.length : Int)), (31, .int .i64 0)] rfl ⟨rfl, rfl, rfl, rfl, rfl, rfl, rfl, trivial⟩ ?_
        refine WO_end ?_
        refine WK_pad ?_
        obtain ⟨x23, hx24, hm⟩ := bind_some hm
        refine WK_join (β := (List (List Int)) × (Mu × Option Addr × Nat × Nat × List Ent)) (fun p => p.1 = x23 ∧ Le m p.2.1 ∧ OwnX 23 1 V1 (RowE (FE (I1 .i64)) 1) p.2.1 (.slice p.2.2.1 p.2.2.2.1 p.2.2.2.2.1) p.1 p.2.2.2.2.2) (fun p => [(0, .slice a_p0 p0.length c_p0), (4, .bool false), (5, .slice p.2.2.1 p.2.2.2.1 p.2.2.2.2.1)]) (fun p => St w0 m p.2.1 [p.2.2.2.2.2]) ?_ (fun hk25 => ?_)
        · rintro ⟨l_5, ⟨m16, a20, q21, c22, L19⟩⟩ ⟨hq31, hle17, hL19⟩
          subst hq31
          have hqq : q21 = l_5.length := OwnX.qlen hL19
          subst hqq
          refine WK.sub (e' := [(0, .slice a_p0 p0.length c_p0), (4, .bool false), (5, .slice a20 ((l_5).length) c22)]) ⟨rfl, rfl, rfl, trivial⟩ (WK.cls (C' := St w0 m m16 [L19]) (fun _ h => h) ?_)
          refine WK_seq ?_
          refine WK_region ?_
          refine WO_pure tbok 1 [(4, .bool false), (5, .slice a20 ((l_5).length) c22), (88, .slice a_p0 p0.length c_p0)] rfl ⟨rfl, rfl, rfl, trivial⟩ ?_
          obtain ⟨⟨y_6, y_7, y_8, y_9⟩, hc32, hm⟩ := bind_some hm
          refine WO_call2 (seam_Find_Q (y_6, y_7, y_8, y_9)) rfl rfl trivial rfl rfl rfl rfl ⟨19, #[], #[], rfl, callable_19, seam_Find_walk (h_p0.mono (mono_RowE (mono_FE _) _) hle17) hc32⟩ (fun v40 m41 L39 hle42 hq => ?_)
          obtain ⟨a33, qa33, c34, a36, qa36, c37, rfl, h43, h44⟩ := hq
          obtain rfl := SlR.qlen h43
          obtain rfl := SlR.qlen h44
          refine WO.cls (C' := St w0 m m41 [L19, L39]) (fun _ h => h.sub (by simp)) ?_
          refine WO_pure tbok 3 [(4, .bool false), (5, .slice a20 ((l_5).length) c22), (90, .agg #[.slice a33 ((y_6).length) c34, .int .i64 y_7, .slice a36 ((y_8).length) c37]), (91, .int .i64 y_9)] rfl ⟨rfl, rfl, rfl, rfl, trivial⟩ ?_
          refine WO_alloc tbok [.slice none 0 0, .int .i64 0, .slice none 0 0] rfl rfl trivial rfl rfl rfl rfl (fun b45 => ?_)
          refine WO.cls (C' := St w0 m m41 [L19, L39, [⟨b45, 25, [.slice none 0 0, .int .i64 0, .slice none 0 0]⟩]]) (fun _ h => h) ?_
          refine WO_storeB tbok 2 [.slice a33 ((y_6).length) c34, .int .i64 y_7, .slice a36 ((y_8).length) c37] rfl rfl rfl rfl rfl rfl rfl ?_
          refine WO.cls (C' := St w0 m m41 [L19, L39, [⟨b45, 25, [.slice a33 ((y_6).length) c34, .int .i64 y_7, .slice a36 ((y_8).length) c37]⟩]]) (fun _ h => h) ?_
          refine WO_pure tbok 1 [(4, .bool false), (5, .slice a20 ((l_5).length) c22), (10, .pointer (some ⟨b45, 0, none⟩)), (11, .int .i64 y_9)] rfl ⟨rfl, rfl, rfl, rfl, trivial⟩ ?_
          refine WO_end ?_
          refine WK_seq ?_
          refine WK_region ?_
          refine WO_pure tbok 1 [(4, .bool false), (10, .pointer (some ⟨b45, 0, none⟩)), (11, .int .i64 y_9), (93, .slice a20 ((l_5).length) c22)] rfl ⟨rfl, rfl, rfl, rfl, trivial⟩ ?_
          refine WO_freeze 0 rfl (fun m46 hle47 hmm48 => ?_)
          refine WO.cls (C' := St w0 m m46 [[], L39, [⟨b45, 25, [.slice a33 ((y_6).length) c34, .int .i64 y_7, .slice a36 ((y_8).length) c37]⟩]]) (fun _ h => h) ?_
          obtain ⟨⟨y_10, y_11, y_12, y_13⟩, hc49, hm⟩ := bind_some hm
          refine WO_call2 (seam_Find_Q (y_10, y_11, y_12, y_13)) rfl rfl trivial rfl rfl rfl rfl ⟨19, #[], #[], rfl, callable_19, seam_Find_walk (OwnX.rd (E := V1) (k := 1) (fun _ => rfl) (hL19.mono (mono_RowE (mono_FE _) _) hle42) (mono_RowE (mono_FE _) _) hle47 hmm48) hc49⟩ (fun v57 m58 L56 hle59 hq => ?_)
          obtain ⟨a50, qa50, c51, a53, qa53, c54, rfl, h60, h61⟩ := hq
          obtain rfl := SlR.qlen h60
          obtain rfl := SlR.qlen h61
          refine WO.cls (C' := St w0 m m58 [[], L39, [⟨b45, 25, [.slice a33 ((y_6).length) c34, .int .i64 y_7, .slice a36 ((y_8).length) c37]⟩], L56]) (fun _ h => h.sub (by simp)) ?_
          refine WO_pure tbok 3 [(4, .bool false), (10, .pointer (some ⟨b45, 0, none⟩)), (11, .int .i64 y_9), (95, .agg #[.slice a50 ((y_10).length) c51, .int .i64 y_11, .slice a53 ((y_12).length) c54]), (96, .int .i64 y_13)] rfl ⟨rfl, rfl, rfl, rfl, rfl, trivial⟩ ?_
          refine WO_alloc tbok [.slice none 0 0, .int .i64 0, .slice none 0 0] rfl rfl trivial rfl rfl rfl rfl (fun b62 => ?_)
          refine WO.cls (C' := St w0 m m58 [[], L39, [⟨b45, 25, [.slice a33 ((y_6).length) c34, .int .i64 y_7, .slice a36 ((y_8).length) c37]⟩], L56, [⟨b62, 25, [.slice none 0 0, .int .i64 0, .slice none 0 0]⟩]]) (fun _ h => h) ?_
          refine WO_storeB tbok 4 [.slice a50 ((y_10).length) c51, .int .i64 y_11, .slice a53 ((y_12).length) c54] rfl rfl rfl rfl rfl rfl rfl ?_
          refine WO.cls (C' := St w0 m m58 [[], L39, [⟨b45, 25, [.slice a33 ((y_6).length) c34, .int .i64 y_7, .slice a36 ((y_8).length) c37]⟩], L56, [⟨b62, 25, [.slice a50 ((y_10).length) c51, .int .i64 y_11, .slice a53 ((y_12).length) c54]⟩]]) (fun _ h => h) ?_
          refine WO_pure tbok 1 [(4, .bool false), (10, .pointer (some ⟨b45, 0, none⟩)), (11, .int .i64 y_9), (12, .pointer (some ⟨b62, 0, none⟩)), (13, .int .i64 y_13)] rfl ⟨rfl, rfl, rfl, rfl, rfl, trivial⟩ ?_
          refine WO_end ?_
          refine WK_seq ?_
          refine WK_region ?_
          refine WO_pure tbok 3 [(4, .bool false), (10, .pointer (some ⟨b45, 0, none⟩)), (12, .pointer (some ⟨b62, 0, none⟩)), (13, .int .i64 y_13), (99, .bool (y_9 == 0))] rfl ⟨rfl, rfl, rfl, rfl, rfl, trivial⟩ ?_
          refine WO_split (d := 99) (b := y_9 == 0) rfl (fun hb63 => ?_) (fun hb63 => ?_)
          · have hm := ifT hb63 hm
            refine WO_pure tbok 4 [(4, .bool false), (10, .pointer (some ⟨b45, 0, none⟩)), (12, .pointer (some ⟨b62, 0, none⟩)), (103, .bool (y_13 == 0))] rfl ⟨rfl, rfl, rfl, rfl, trivial⟩ ?_
            refine WO_split (d := 103) (b := y_13 == 0) rfl (fun hb64 => ?_) (fun hb64 => ?_)
            · have hm := ifT hb64 hm
              refine WO_pure tbok 1 [(4, .bool false), (10, .pointer (some ⟨b45, 0, none⟩)), (103, .bool true), (104, .pointer (some ⟨b62, 1, none⟩))] rfl ⟨rfl, rfl, rfl, rfl, trivial⟩ ?_
              refine WO_loadB tbok 4 rfl rfl rfl rfl (fun _ h => h) rfl rfl ?_
              refine WO_pure tbok 1 [(4, .bool false), (103, .bool true), (105, .int .i64 y_11), (106, .pointer (some ⟨b45, 1, none⟩))] rfl ⟨rfl, rfl, rfl, rfl, trivial⟩ ?_
              refine WO_loadB tbok 2 rfl rfl rfl rfl (fun _ h => h) rfl rfl ?_
              refine WO_pure tbok 3 [(4, .bool (decide (y_11 ≤ y_7)))] rfl ⟨rfl, trivial⟩ ?_
              refine WO_end ?_
              cases hm
              exact WK_ret (ret_out (L := []) (RLc_tmp rfl RLc_nil) (List.nil_sublist _) rfl)
            · have hm := ifF hb64 hm
              refine WO_pure tbok 7 [(4, .bool false)] rfl ⟨rfl, trivial⟩ ?_
              refine WO_end ?_
              cases hm
              exact WK_ret (ret_out (L := []) (RLc_tmp rfl RLc_nil) (List.nil_sublist _) rfl)
          · have hm := ifF hb63 hm
            refine WO_pure tbok 11 [(4, .bool false)] rfl ⟨rfl, trivial⟩ ?_
            refine WO_end ?_
            cases hm
            exact WK_ret (ret_out (L := []) (RLc_tmp rfl RLc_nil) (List.nil_sublist _) rfl)
        · refine WK_block ?_
          refine WK_loop (S := List (List Int) × Int) (G := Mu × Option Addr × Nat × Nat × List Ent) (fun s => fiduciallaw50_SeamMonotone_s1 p0 p1 s.1 s.2) (fun s g => [(0, .slice a_p0 p0.length c_p0), (1, .slice a_p1 p1.length c_p1), (4, .bool false), (5, .slice g.2.1 g.2.2.1 g.2.2.2.1), (29, .slice a_p0 p0.length c_p0), (30, .int .i64 (p0.length : Int)), (31, .int .i64 s.2)]) (fun s g => St w0 m g.1 [g.2.2.2.2]) (fun s g => Le m g.1 ∧ OwnX 23 1 V1 (RowE (FE (I1 .i64)) 1) g.1 (.slice g.2.1 g.2.2.1 g.2.2.2.1) s.1 g.2.2.2.2) FUEL (([] : List (List Int)), 0) (m, none, 0, 0, []) x23 hx24 ⟨(Le.refl _), (OwnX.nil (T := 23) (k := 1) (E := V1) (El := (RowE (FE (I1 .i64)) 1)) (m := m) none)⟩ ⟨rfl, rfl, rfl, rfl, rfl, rfl, rfl, trivial⟩ (fun _ h => h) ?_
          rintro ⟨l_3, s_4⟩ ⟨m9, a13, q14, c15, L12⟩ o27 fl28 hm26 ⟨hle10, hL12⟩ hn29 hd30
          have hm26 : fiduciallaw50_SeamMonotone_s1 p0 p1 l_3 s_4 = some o27 := hm26
          unfold fiduciallaw50_SeamMonotone_s1 at hm26
          have hqq : q14 = l_3.length := OwnX.qlen hL12
          subst hqq
          refine WK.sub (e' := [(0, .slice a_p0 p0.length c_p0), (1, .slice a_p1 p1.length c_p1), (4, .bool false), (5, .slice a13 ((l_3).length) c15), (29, .slice a_p0 p0.length c_p0), (30, .int .i64 (p0.length : Int)), (31, .int .i64 s_4)]) ⟨rfl, rfl, rfl, rfl, rfl, rfl, rfl, trivial⟩ (WK.cls (C' := St w0 m m9 [L12]) (fun _ h => h) ?_)
          refine WK_seq ?_
          refine WK_region ?_
          refine WO_pure tbok 1 [(0, .slice a_p0 p0.length c_p0), (1, .slice a_p1 p1.length c_p1), (4, .bool false), (5, .slice a13 ((l_3).length) c15), (29, .slice a_p0 p0.length c_p0), (30, .int .i64 (p0.length : Int)), (31, .int .i64 s_4), (32, .bool (decide (s_4 < (p0.length : Int))))] rfl ⟨rfl, rfl, rfl, rfl, rfl, rfl, rfl, rfl, trivial⟩ ?_
          refine WO_end ?_
          refine WK_seq ?_
          refine WK_cond (b := decide (s_4 < (p0.length : Int))) rfl (fun hb65 => ?_) (fun hb65 => ?_)
          · have hm26 := ifT hb65 hm26
            refine WK_skip ?_
            refine WK_seq ?_
            refine WK_block ?_
            refine WK_seq ?_
            refine WK_region ?_
            refine WO_pure tbok 1 [(0, .slice a_p0 p0.length c_p0), (1, .slice a_p1 p1.length c_p1), (4, .bool false), (5, .slice a13 ((l_3).length) c15), (29, .slice a_p0 p0.length c_p0), (30, .int .i64 (p0.length : Int)), (31, .int .i64 s_4), (33, .int .i64 s_4)] rfl ⟨rfl, rfl, rfl, rfl, rfl, rfl, rfl, rfl, trivial⟩ ?_
            obtain ⟨v_14, hy66, hm26⟩ := bind_some hm26
            obtain ⟨hc67, hy66⟩ := ix_some hy66
            refine WO_index tbok rfl rfl rfl rfl rfl rfl rfl rfl (SlR.addr (h_p0.mono (mono_RowE (mono_FE _) _) hle10)) hc67 ?_
            refine WO_loadR tbok rfl rfl rfl rfl (fun _ h => St.sat h) (h_p0.mono (mono_RowE (mono_FE _) _) hle10) hy66 rfl rfl (fun a68 c69 h70 => ?_)
            refine WO_pure tbok 2 [(0, .slice a_p0 p0.length c_p0), (1, .slice a_p1 p1.length c_p1), (4, .bool false), (5, .slice a13 ((l_3).length) c15), (6, .int .i64 s_4), (7, .slice a68 ((v_14).length) c69), (29, .slice a_p0 p0.length c_p0), (30, .int .i64 (p0.length : Int)), (31, .int .i64 s_4)] rfl ⟨rfl, rfl, rfl, rfl, rfl, rfl, rfl, rfl, rfl, trivial⟩ ?_
            refine WO_end ?_
            refine WK_seq ?_
            refine WK_region ?_
            refine WO_pure tbok 1 [(0, .slice a_p0 p0.length c_p0), (1, .slice a_p1 p1.length c_p1), (4, .bool false), (5, .slice a13 ((l_3).length) c15), (6, .int .i64 s_4), (29, .slice a_p0 p0.length c_p0), (30, .int .i64 (p0.length : Int)), (31, .int .i64 s_4), (36, .slice a68 ((v_14).length) c69)] rfl ⟨rfl, rfl, rfl, rfl, rfl, rfl, rfl, rfl, rfl, trivial⟩ ?_
            obtain ⟨y_15, hc72, hm26⟩ := bind_some hm26
            refine WO_call1 (slices_Clone_sint_Q y_15) rfl rfl trivial rfl rfl rfl rfl ⟨18, #[], #[], rfl, callable_18, fun w hw => ⟨_, hw.sat, slices_Clone_sint_walk h70 hc72⟩⟩ (fun v77 L76 hq => ?_)
            obtain ⟨a73, qa73, c74, rfl, hL76⟩ := hq
            obtain rfl := OwnE.qlen hL76
            refine WO.cls (C' := St w0 m m9 [L12, L76]) (fun _ h => h) ?_
            refine WO_pure tbok 1 [(0, .slice a_p0 p0.length c_p0), (1, .slice a_p1 p1.length c_p1), (4, .bool false), (5, .slice a13 ((l_3).length) c15), (6, .int .i64 s_4), (8, .slice a73 ((y_15).length) c74), (29, .slice a_p0 p0.length c_p0), (30, .int .i64 (p0.length : Int)), (31, .int .i64 s_4)] rfl ⟨rfl, rfl, rfl, rfl, rfl, rfl, rfl, rfl, rfl, trivial⟩ ?_
            refine WO_end ?_
            refine WK_seq ?_
            refine WK_seq ?_
            refine WK_region ?_
            refine WO_pure tbok 3 [(0, .slice a_p0 p0.length c_p0), (1, .slice a_p1 p1.length c_p1), (4, .bool false), (5, .slice a13 ((l_3).length) c15), (6, .int .i64 s_4), (8, .slice a73 ((y_15).length) c74), (29, .slice a_p0 p0.length c_p0), (30, .int .i64 (p0.length : Int)), (31, .int .i64 s_4), (39, .int .i64 ((y_15).length : Int)), (40, .int .i64 0)] rfl ⟨rfl, rfl, rfl, rfl, rfl, rfl, rfl, rfl, rfl, rfl, rfl, trivial⟩ ?_
            refine WO_end ?_
            obtain ⟨x82, hx83, hm26⟩ := bind_some hm26
            refine WK_join (β := (List Int) × (List Ent)) (fun p => p.1 = x82 ∧ OwnE 3 1 (I1 .i64) (.slice a73 ((y_15).length) c74) p.1 p.2) (fun p => [(0, .slice a_p0 p0.length c_p0), (1, .slice a_p1 p1.length c_p1), (4, .bool false), (5, .slice a13 ((l_3).length) c15), (8, .slice a73 ((y_15).length) c74), (29, .slice a_p0 p0.length c_p0), (30, .int .i64 (p0.length : Int)), (31, .int .i64 s_4)]) (fun p => St w0 m m9 [L12, p.2]) ?_ (fun hk84 => ?_)
            · rintro ⟨l_18, L81⟩ ⟨hq90, hL81⟩
              subst hq90
              refine WK.sub (e' := [(0, .slice a_p0 p0.length c_p0), (1, .slice a_p1 p1.length c_p1), (4, .bool false), (5, .slice a13 ((l_3).length) c15), (8, .slice a73 ((y_15).length) c74), (29, .slice a_p0 p0.length c_p0), (30, .int .i64 (p0.length : Int)), (31, .int .i64 s_4)]) ⟨rfl, rfl, rfl, rfl, rfl, rfl, rfl, rfl, trivial⟩ (WK.cls (C' := St w0 m m9 [L12, L81]) (fun _ h => h) ?_)
              refine WK_region ?_
              refine WO_pure tbok 2 [(0, .slice a_p0 p0.length c_p0), (1, .slice a_p1 p1.length c_p1), (4, .bool false), (5, .slice a13 ((l_3).length) c15), (29, .slice a_p0 p0.length c_p0), (30, .int .i64 (p0.length : Int)), (31, .int .i64 s_4), (82, .slice a13 ((l_3).length) c15), (83, .slice a73 ((y_15).length) c74)] rfl ⟨rfl, rfl, rfl, rfl, rfl, rfl, rfl, rfl, rfl, trivial⟩ ?_
              refine WO_freeze 1 rfl (fun m92 hle93 hmm94 => ?_)
              refine WO.cls (C' := St w0 m m92 [L12, []]) (fun _ h => h) ?_
              refine WO_bsliceX (E := V1) (El := (RowE (FE (I1 .i64)) 1)) tbok (fun _ => rfl) (by decide) [.slice a73 ((y_15).length) c74] [.slice a73 ((y_15).length) c74] ([l_18] : List (List Int)) rfl rfl trivial rfl rfl rfl rfl rfl rfl rfl rfl rfl rfl rfl rfl ⟨⟨_, rfl, (OwnE.rd (E := (I1 .i64)) (k := 1) (fun _ => rfl) hL81 hmm94)⟩, trivial⟩ (fun b91 hb91 => ?_)
              refine WO.cls (C' := St w0 m m92 [L12, [], [⟨b91, 23, [.slice a73 ((y_15).length) c74]⟩]]) (fun _ h => h) ?_
              obtain ⟨hc96, hm26⟩ := chk_some hm26
              refine WO_appendX (E := V1) (El := (RowE (FE (I1 .i64)) 1)) tbok (fun _ => rfl) 0 [.slice a73 ((y_15).length) c74] ([l_18] : List (List Int)) (one_lit rfl) rfl rfl rfl rfl rfl rfl rfl rfl rfl rfl rfl rfl (hL12.mono (mono_RowE (mono_FE _) _) hle93) rfl (src_seg (j := 2) rfl) ⟨⟨_, rfl, (OwnE.rd (E := (I1 .i64)) (k := 1) (fun _ => rfl) hL81 hmm94)⟩, trivial⟩ (ap_ok (by decide) hc96) (ap_max hc96) (fun a97 c98 L99 hL99 => ?_)
              refine WO.cls (C' := St w0 m m92 [L99, [], [⟨b91, 23, [.slice a73 ((y_15).length) c74]⟩]]) (fun _ h => h) ?_
              refine WO_pure tbok 1 [(0, .slice a_p0 p0.length c_p0), (1, .slice a_p1 p1.length c_p1), (4, .bool false), (5, .slice a97 ((l_3 ++ ([l_18] : List (List Int))).length) c98), (29, .slice a_p0 p0.length c_p0), (30, .int .i64 (p0.length : Int)), (31, .int .i64 s_4)] rfl ⟨rfl, rfl, rfl, rfl, rfl, rfl, rfl, trivial⟩ ?_
              refine WO_end ?_
              refine WK_blk ?_
              refine WK_region ?_
              refine WO_pure tbok 2 [(0, .slice a_p0 p0.length c_p0), (1, .slice a_p1 p1.length c_p1), (4, .bool false), (5, .slice a97 ((l_3 ++ ([l_18] : List (List Int))).length) c98), (29, .slice a_p0 p0.length c_p0), (30, .int .i64 (p0.length : Int)), (31, .int .i64 (w64 (s_4 + 1)))] rfl ⟨rfl, rfl, rfl, rfl, rfl, rfl, rfl, trivial⟩ ?_
              refine WO_end ?_
              cases hm26
              refine WK.sub ?_ (WK.cls (fun _ h => St.take 1 h) (hn29 _ (m92, a97, (l_3 ++ ([l_18] : List (List Int))).length, c98, L99) rfl ⟨(hle10.trans hle93), hL99⟩))
              exact ⟨rfl, rfl, rfl, rfl, rfl, rfl, rfl, trivial⟩
            · refine WK_block ?_
              refine WK_loop (S := List Int × Int) (G := List Ent) (fun s => fiduciallaw50_SeamMonotone_s2 p1 s_4 y_15 s.1 s.2) (fun s g => [(0, .slice a_p0 p0.length c_p0), (1, .slice a_p1 p1.length c_p1), (4, .bool false), (5, .slice a13 ((l_3).length) c15), (6, .int .i64 s_4), (8, .slice a73 ((y_15).length) c74), (29, .slice a_p0 p0.length c_p0), (30, .int .i64 (p0.length : Int)), (31, .int .i64 s_4), (39, .int .i64 ((y_15).length : Int)), (40, .int .i64 s.2)]) (fun s g => St w0 m m9 [L12, g]) (fun s g => OwnE 3 1 (I1 .i64) (.slice a73 ((y_15).length) c74) s.1 g) FUEL (y_15, 0) L76 x82 hx83 hL76 ⟨rfl, rfl, rfl, rfl, rfl, rfl, rfl, rfl, rfl, rfl, rfl, trivial⟩ (fun _ h => h) ?_
              rintro ⟨l_16, s_17⟩ L79 o86 fl87 hm85 hL79 hn88 hd89
              have hm85 : fiduciallaw50_SeamMonotone_s2 p1 s_4 y_15 l_16 s_17 = some o86 := hm85
              unfold fiduciallaw50_SeamMonotone_s2 at hm85
              refine WK.sub (e' := [(0, .slice a_p0 p0.length c_p0), (1, .slice a_p1 p1.length c_p1), (4, .bool false), (5, .slice a13 ((l_3).length) c15), (6, .int .i64 s_4), (8, .slice a73 ((y_15).length) c74), (29, .slice a_p0 p0.length c_p0), (30, .int .i64 (p0.length : Int)), (31, .int .i64 s_4), (39, .int .i64 ((y_15).length : Int)), (40, .int .i64 s_17)]) ⟨rfl, rfl, rfl, rfl, rfl, rfl, rfl, rfl, rfl, rfl, rfl, trivial⟩ (WK.cls (C' := St w0 m m9 [L12, L79]) (fun _ h => h) ?_)
              refine WK_seq ?_
              refine WK_region ?_
              refine WO_pure tbok 1 [(0, .slice a_p0 p0.length c_p0), (1, .slice a_p1 p1.length c_p1), (4, .bool false), (5, .slice a13 ((l_3).length) c15), (6, .int .i64 s_4), (8, .slice a73 ((y_15).length) c74), (29, .slice a_p0 p0.length c_p0), (30, .int .i64 (p0.length : Int)), (31, .int .i64 s_4), (39, .int .i64 ((y_15).length : Int)), (40, .int .i64 s_17), (41, .bool (decide (s_17 < ((y_15).length : Int))))] rfl ⟨rfl, rfl, rfl, rfl, rfl, rfl, rfl, rfl, rfl, rfl, rfl, rfl, trivial⟩ ?_
              refine WO_end ?_
              refine WK_seq ?_
              refine WK_cond (b := decide (s_17 < ((y_15).length : Int))) rfl (fun hb101 => ?_) (fun hb101 => ?_)
              · have hm85 := ifT hb101 hm85
                refine WK_skip ?_
                refine WK_seq ?_
                refine WK_block ?_
                refine WK_seq ?_
                refine WK_region ?_
                refine WO_pure tbok 2 [(0, .slice a_p0 p0.length c_p0), (1, .slice a_p1 p1.length c_p1), (4, .bool false), (5, .slice a13 ((l_3).length) c15), (6, .int .i64 s_4), (8, .slice a73 ((y_15).length) c74), (9, .int .i64 s_17), (29, .slice a_p0 p0.length c_p0), (30, .int .i64 (p0.length : Int)), (31, .int .i64 s_4), (39, .int .i64 ((y_15).length : Int)), (40, .int .i64 s_17)] rfl ⟨rfl, rfl, rfl, rfl, rfl, rfl, rfl, rfl, rfl, rfl, rfl, rfl, trivial⟩ ?_
                refine WO_end ?_
                refine WK_seq ?_
                obtain ⟨s_19, hx102, hm85⟩ := bind_some hm85
                refine WK_meet [(0, .slice a_p0 p0.length c_p0), (1, .slice a_p1 p1.length c_p1), (4, .bool false), (5, .slice a13 ((l_3).length) c15), (6, .int .i64 s_4), (8, .slice a73 ((y_15).length) c74), (9, .int .i64 s_17), (29, .slice a_p0 p0.length c_p0), (30, .int .i64 (p0.length : Int)), (31, .int .i64 s_4), (39, .int .i64 ((y_15).length : Int)), (40, .int .i64 s_17), (65, .bool s_19)] (St w0 m m9 [L12, L79]) ?_ (fun hk103 => ?_)
                · obtain ⟨l_20, hx106, hm85⟩ := bind_some hm85
                  refine WK_join (β := List Ent) (fun p => OwnE 3 1 (I1 .i64) (.slice a73 ((y_15).length) c74) l_20 p) (fun p => [(0, .slice a_p0 p0.length c_p0), (1, .slice a_p1 p1.length c_p1), (4, .bool false), (5, .slice a13 ((l_3).length) c15), (6, .int .i64 s_4), (8, .slice a73 ((y_15).length) c74), (29, .slice a_p0 p0.length c_p0), (30, .int .i64 (p0.length : Int)), (31, .int .i64 s_4), (39, .int .i64 ((y_15).length : Int)), (40, .int .i64 s_17)]) (fun p => St w0 m m9 [L12, p]) ?_ (fun hk107 => ?_)
                  · rintro L105 hL105
                    refine WK.sub (e' := [(0, .slice a_p0 p0.length c_p0), (1, .slice a_p1 p1.length c_p1), (4, .bool false), (5, .slice a13 ((l_3).length) c15), (6, .int .i64 s_4), (8, .slice a73 ((y_15).length) c74), (29, .slice a_p0 p0.length c_p0), (30, .int .i64 (p0.length : Int)), (31, .int .i64 s_4), (39, .int .i64 ((y_15).length : Int)), (40, .int .i64 s_17)]) ⟨rfl, rfl, rfl, rfl, rfl, rfl, rfl, rfl, rfl, rfl, rfl, trivial⟩ (WK.cls (C' := St w0 m m9 [L12, L105]) (fun _ h => h) ?_)
                    refine WK_blk ?_
                    refine WK_region ?_
                    refine WO_pure tbok 2 [(0, .slice a_p0 p0.length c_p0), (1, .slice a_p1 p1.length c_p1), (4, .bool false), (5, .slice a13 ((l_3).length) c15), (6, .int .i64 s_4), (8, .slice a73 ((y_15).length) c74), (29, .slice a_p0 p0.length c_p0), (30, .int .i64 (p0.length : Int)), (31, .int .i64 s_4), (39, .int .i64 ((y_15).length : Int)), (40, .int .i64 (w64 (s_17 + 1)))] rfl ⟨rfl, rfl, rfl, rfl, rfl, rfl, rfl, rfl, rfl, rfl, rfl, trivial⟩ ?_
                    refine WO_end ?_
                    cases hm85
                    refine WK.sub ?_ (WK.cls (fun _ h => h) (hn88 _ L105 rfl hL105))
                    exact ⟨rfl, rfl, rfl, rfl, rfl, rfl, rfl, rfl, rfl, rfl, rfl, trivial⟩
                  · refine WK_cond (b := s_19) rfl (fun hb108 => ?_) (fun hb108 => ?_)
                    · have hx106 := ifT hb108 hx106
                      refine WK_draw 15 [0, 1, 2, 3, 4, 5, 6, 7, 8, 9, 10, 11, 12, 13, 14] follows_ok (by kernel_rfl) St_closed ?_
                      refine WO_pure tbok 4 [(0, .slice a_p0 p0.length c_p0), (1, .slice a_p1 p1.length c_p1), (4, .bool false), (5, .slice a13 ((l_3).length) c15), (6, .int .i64 s_4), (8, .slice a73 ((y_15).length) c74), (9, .int .i64 s_17), (29, .slice a_p0 p0.length c_p0), (30, .int .i64 (p0.length : Int)), (31, .int .i64 s_4), (39, .int .i64 ((y_15).length : Int)), (40, .int .i64 s_17), (66, .slice a73 ((y_15).length) c74), (67, .int .i64 s_17), (68, .slice a73 ((y_15).length) c74), (69, .int .i64 s_17)] rfl ⟨rfl, rfl, rfl, rfl, rfl, rfl, rfl, rfl, rfl, rfl, rfl, rfl, rfl, rfl, rfl, rfl, trivial⟩ ?_
                      obtain ⟨v_21, hy109, hx106⟩ := bind_some hx106
                      obtain ⟨hc110, hy109⟩ := ix_some hy109
                      refine WO_index tbok rfl rfl rfl rfl rfl rfl rfl rfl (OwnE.addr hL79) (by simpa using hc110) ?_
                      refine WO_loadO (E := (I1 .i64)) tbok (fun _ => rfl) 1 rfl rfl rfl rfl (fun _ h => h) hL79 rfl hy109 rfl ?_
                      refine WO_pure tbok 2 [(0, .slice a_p0 p0.length c_p0), (1, .slice a_p1 p1.length c_p1), (4, .bool false), (5, .slice a13 ((l_3).length) c15), (6, .int .i64 s_4), (8, .slice a73 ((y_15).length) c74), (9, .int .i64 s_17), (29, .slice a_p0 p0.length c_p0), (30, .int .i64 (p0.length : Int)), (31, .int .i64 s_4), (39, .int .i64 ((y_15).length : Int)), (40, .int .i64 s_17), (66, .slice a73 ((y_15).length) c74), (67, .int .i64 s_17), (71, .int .i64 v_21), (72, .slice a_p1 p1.length c_p1), (73, .int .i64 s_4)] rfl ⟨rfl, rfl, rfl, rfl, rfl, rfl, rfl, rfl, rfl, rfl, rfl, rfl, rfl, rfl, rfl, rfl, rfl, trivial⟩ ?_
                      obtain ⟨v_22, hy111, hx106⟩ := bind_some hx106
                      obtain ⟨hc112, hy111⟩ := ix_some hy111
                      refine WO_index tbok rfl rfl rfl rfl rfl rfl rfl rfl (SlR.addr (h_p1.mono (mono_RowE (mono_FE _) _) hle10)) hc112 ?_
                      refine WO_loadR tbok rfl rfl rfl rfl (fun _ h => St.sat h) (h_p1.mono (mono_RowE (mono_FE _) _) hle10) hy111 rfl rfl (fun a113 c114 h115 => ?_)
                      refine WO_pure tbok 1 [(0, .slice a_p0 p0.length c_p0), (1, .slice a_p1 p1.length c_p1), (4, .bool false), (5, .slice a13 ((l_3).length) c15), (6, .int .i64 s_4), (8, .slice a73 ((y_15).length) c74), (29, .slice a_p0 p0.length c_p0), (30, .int .i64 (p0.length : Int)), (31, .int .i64 s_4), (39, .int .i64 ((y_15).length : Int)), (40, .int .i64 s_17), (66, .slice a73 ((y_15).length) c74), (67, .int .i64 s_17), (71, .int .i64 v_21), (75, .slice a113 ((v_22).length) c114), (76, .int .i64 s_17)] rfl ⟨rfl, rfl, rfl, rfl, rfl, rfl, rfl, rfl, rfl, rfl, rfl, rfl, rfl, rfl, rfl, rfl, trivial⟩ ?_
                      obtain ⟨v_23, hy117, hx106⟩ := bind_some hx106
                      obtain ⟨hc118, hy117⟩ := ix_some hy117
                      refine WO_index tbok rfl rfl rfl rfl rfl rfl rfl rfl (SlR.addr h115) hc118 ?_
                      refine WO_loadE tbok rfl rfl rfl rfl (fun _ h => St.sat h) h115 hy117 rfl ?_
                      refine WO_pure tbok 1 [(0, .slice a_p0 p0.length c_p0), (1, .slice a_p1 p1.length c_p1), (4, .bool false), (5, .slice a13 ((l_3).length) c15), (6, .int .i64 s_4), (8, .slice a73 ((y_15).length) c74), (29, .slice a_p0 p0.length c_p0), (30, .int .i64 (p0.length : Int)), (31, .int .i64 s_4), (39, .int .i64 ((y_15).length : Int)), (40, .int .i64 s_17), (66, .slice a73 ((y_15).length) c74), (67, .int .i64 s_17), (79, .int .i64 (if v_23 < v_21 then v_23 else v_21))] rfl ⟨rfl, rfl, rfl, rfl, rfl, rfl, rfl, rfl, rfl, rfl, rfl, rfl, rfl, rfl, trivial⟩ ?_
                      obtain ⟨hc119, hx106⟩ := chk_some hx106
                      refine WO_index tbok rfl rfl rfl rfl rfl rfl rfl rfl (OwnE.addr hL79) (by simpa using hc119) ?_
                      refine WO_tail ?_
                      refine WO_storeO (E := (I1 .i64)) tbok (fun _ => rfl) 1 (if v_23 < v_21 then v_23 else v_21) rfl rfl rfl rfl rfl hL79 rfl (by simpa using idx_lt hc119) rfl rfl rfl rfl (fun L120 hL120 => ?_)
                      refine WO.cls (C' := St w0 m m9 [L12, L120]) (fun _ h => h) ?_
                      refine WO_end ?_
                      cases hx106
                      refine WK.sub ?_ (WK.cls (fun _ h => h) (hk107 L120 hL120))
                      exact ⟨rfl, rfl, rfl, rfl, rfl, rfl, rfl, rfl, rfl, rfl, rfl, trivial⟩
                    · have hx106 := ifF hb108 hx106
                      refine WK_skip ?_
                      cases hx106
                      refine WK.sub ?_ (WK.cls (fun _ h => h) (hk107 L79 hL79))
                      exact ⟨rfl, rfl, rfl, rfl, rfl, rfl, rfl, rfl, rfl, rfl, rfl, trivial⟩
                · refine WK_region ?_
                  refine WO_pure tbok 5 [(0, .slice a_p0 p0.length c_p0), (1, .slice a_p1 p1.length c_p1), (4, .bool false), (5, .slice a13 ((l_3).length) c15), (6, .int .i64 s_4), (8, .slice a73 ((y_15).length) c74), (9, .int .i64 s_17), (29, .slice a_p0 p0.length c_p0), (30, .int .i64 (p0.length : Int)), (31, .int .i64 s_4), (39, .int .i64 ((y_15).length : Int)), (40, .int .i64 s_17), (47, .bool (decide (s_4 < (p1.length : Int))))] rfl ⟨rfl, rfl, rfl, rfl, rfl, rfl, rfl, rfl, rfl, rfl, rfl, rfl, rfl, trivial⟩ ?_
                  refine WO_split (d := 47) (b := decide (s_4 < (p1.length : Int))) rfl (fun hb122 => ?_) (fun hb122 => ?_)
                  · have hx102 := ifT hb122 hx102
                    refine WO_pure tbok 3 [(0, .slice a_p0 p0.length c_p0), (1, .slice a_p1 p1.length c_p1), (4, .bool false), (5, .slice a13 ((l_3).length) c15), (6, .int .i64 s_4), (8, .slice a73 ((y_15).length) c74), (9, .int .i64 s_17), (29, .slice a_p0 p0.length c_p0), (30, .int .i64 (p0.length : Int)), (31, .int .i64 s_4), (39, .int .i64 ((y_15).length : Int)), (40, .int .i64 s_17), (47, .bool true), (48, .int .i64 s_17), (49, .slice a_p1 p1.length c_p1), (50, .int .i64 s_4)] rfl ⟨rfl, rfl, rfl, rfl, rfl, rfl, rfl, rfl, rfl, rfl, rfl, rfl, rfl, rfl, rfl, rfl, trivial⟩ ?_
                    obtain ⟨v_24, hy123, hx102⟩ := bind_some hx102
                    obtain ⟨hc124, hy123⟩ := ix_some hy123
                    refine WO_index tbok rfl rfl rfl rfl rfl rfl rfl rfl (SlR.addr (h_p1.mono (mono_RowE (mono_FE _) _) hle10)) hc124 ?_
                    refine WO_loadR tbok rfl rfl rfl rfl (fun _ h => St.sat h) (h_p1.mono (mono_RowE (mono_FE _) _) hle10) hy123 rfl rfl (fun a125 c126 h127 => ?_)
                    refine WO_pure tbok 4 [(0, .slice a_p0 p0.length c_p0), (1, .slice a_p1 p1.length c_p1), (4, .bool false), (5, .slice a13 ((l_3).length) c15), (6, .int .i64 s_4), (8, .slice a73 ((y_15).length) c74), (9, .int .i64 s_17), (29, .slice a_p0 p0.length c_p0), (30, .int .i64 (p0.length : Int)), (31, .int .i64 s_4), (39, .int .i64 ((y_15).length : Int)), (40, .int .i64 s_17), (56, .bool (decide (s_17 < ((v_24).length : Int))))] rfl ⟨rfl, rfl, rfl, rfl, rfl, rfl, rfl, rfl, rfl, rfl, rfl, rfl, rfl, trivial⟩ ?_
                    refine WO_split (d := 56) (b := decide (s_17 < ((v_24).length : Int))) rfl (fun hb129 => ?_) (fun hb129 => ?_)
                    · have hx102 := ifT hb129 hx102
                      refine WO_pure tbok 2 [(0, .slice a_p0 p0.length c_p0), (1, .slice a_p1 p1.length c_p1), (4, .bool false), (5, .slice a13 ((l_3).length) c15), (6, .int .i64 s_4), (8, .slice a73 ((y_15).length) c74), (9, .int .i64 s_17), (29, .slice a_p0 p0.length c_p0), (30, .int .i64 (p0.length : Int)), (31, .int .i64 s_4), (39, .int .i64 ((y_15).length : Int)), (40, .int .i64 s_17), (56, .bool true), (57, .slice a_p1 p1.length c_p1), (58, .int .i64 s_4)] rfl ⟨rfl, rfl, rfl, rfl, rfl, rfl, rfl, rfl, rfl, rfl, rfl, rfl, rfl, rfl, rfl, trivial⟩ ?_
                      obtain ⟨v_25, hy130, hx102⟩ := bind_some hx102
                      obtain ⟨hc131, hy130⟩ := ix_some hy130
                      refine WO_index tbok rfl rfl rfl rfl rfl rfl rfl rfl (SlR.addr (h_p1.mono (mono_RowE (mono_FE _) _) hle10)) hc131 ?_
                      refine WO_loadR tbok rfl rfl rfl rfl (fun _ h => St.sat h) (h_p1.mono (mono_RowE (mono_FE _) _) hle10) hy130 rfl rfl (fun a132 c133 h134 => ?_)
                      refine WO_pure tbok 1 [(0, .slice a_p0 p0.length c_p0), (1, .slice a_p1 p1.length c_p1), (4, .bool false), (5, .slice a13 ((l_3).length) c15), (6, .int .i64 s_4), (8, .slice a73 ((y_15).length) c74), (9, .int .i64 s_17), (29, .slice a_p0 p0.length c_p0), (30, .int .i64 (p0.length : Int)), (31, .int .i64 s_4), (39, .int .i64 ((y_15).length : Int)), (40, .int .i64 s_17), (56, .bool true), (60, .slice a132 ((v_25).length) c133), (61, .int .i64 s_17)] rfl ⟨rfl, rfl, rfl, rfl, rfl, rfl, rfl, rfl, rfl, rfl, rfl, rfl, rfl, rfl, rfl, trivial⟩ ?_
                      obtain ⟨v_26, hy136, hx102⟩ := bind_some hx102
                      obtain ⟨hc137, hy136⟩ := ix_some hy136
                      refine WO_index tbok rfl rfl rfl rfl rfl rfl rfl rfl (SlR.addr h134) hc137 ?_
                      refine WO_loadE tbok rfl rfl rfl rfl (fun _ h => St.sat h) h134 hy136 rfl ?_
                      refine WO_pure tbok 2 [(0, .slice a_p0 p0.length c_p0), (1, .slice a_p1 p1.length c_p1), (4, .bool false), (5, .slice a13 ((l_3).length) c15), (6, .int .i64 s_4), (8, .slice a73 ((y_15).length) c74), (9, .int .i64 s_17), (29, .slice a_p0 p0.length c_p0), (30, .int .i64 (p0.length : Int)), (31, .int .i64 s_4), (39, .int .i64 ((y_15).length : Int)), (40, .int .i64 s_17), (65, .bool (decide (0 ≤ v_26)))] rfl ⟨rfl, rfl, rfl, rfl, rfl, rfl, rfl, rfl, rfl, rfl, rfl, rfl, rfl, trivial⟩ ?_
                      refine WO_end ?_
                      cases hx102
                      refine WK.sub ?_ (WK.cls (fun _ h => h) hk103)
                      exact ⟨rfl, rfl, rfl, rfl, rfl, rfl, rfl, rfl, rfl, rfl, rfl, rfl, rfl, trivial⟩
                    · have hx102 := ifF hb129 hx102
                      refine WO_pure tbok 9 [(0, .slice a_p0 p0.length c_p0), (1, .slice a_p1 p1.length c_p1), (4, .bool false), (5, .slice a13 ((l_3).length) c15), (6, .int .i64 s_4), (8, .slice a73 ((y_15).length) c74), (9, .int .i64 s_17), (29, .slice a_p0 p0.length c_p0), (30, .int .i64 (p0.length : Int)), (31, .int .i64 s_4), (39, .int .i64 ((y_15).length : Int)), (40, .int .i64 s_17), (65, .bool false)] rfl ⟨rfl, rfl, rfl, rfl, rfl, rfl, rfl, rfl, rfl, rfl, rfl, rfl, rfl, trivial⟩ ?_
                      refine WO_end ?_
                      cases hx102
                      refine WK.sub ?_ (WK.cls (fun _ h => h) hk103)
                      exact ⟨rfl, rfl, rfl, rfl, rfl, rfl, rfl, rfl, rfl, rfl, rfl, rfl, rfl, trivial⟩
                  · have hx102 := ifF hb122 hx102
                    refine WO_pure tbok 18 [(0, .slice a_p0 p0.length c_p0), (1, .slice a_p1 p1.length c_p1), (4, .bool false), (5, .slice a13 ((l_3).length) c15), (6, .int .i64 s_4), (8, .slice a73 ((y_15).length) c74), (9, .int .i64 s_17), (29, .slice a_p0 p0.length c_p0), (30, .int .i64 (p0.length : Int)), (31, .int .i64 s_4), (39, .int .i64 ((y_15).length : Int)), (40, .int .i64 s_17), (65, .bool false)] rfl ⟨rfl, rfl, rfl, rfl, rfl, rfl, rfl, rfl, rfl, rfl, rfl, rfl, rfl, trivial⟩ ?_
                    refine WO_end ?_
                    cases hx102
                    refine WK.sub ?_ (WK.cls (fun _ h => h) hk103)
                    exact ⟨rfl, rfl, rfl, rfl, rfl, rfl, rfl, rfl, rfl, rfl, rfl, rfl, rfl, trivial⟩
              · have hm85 := ifF hb101 hm85
                refine WK_exit rfl ?_
                cases hm85
                refine WK.sub ?_ (WK.cls (fun _ h => h) (hk84 (l_16, L79) ⟨(hd89 _ rfl), hL79⟩))
                exact ⟨rfl, rfl, rfl, rfl, rfl, rfl, rfl, rfl, trivial⟩
          · have hm26 := ifF hb65 hm26
            refine WK_exit rfl ?_
            cases hm26
            refine WK.sub ?_ (WK.cls (fun _ h => h) (hk25 (l_3, (m9, a13, _, c15, L12)) ⟨(hd30 _ rfl), hle10, hL12⟩))
            exact ⟨rfl, rfl, rfl, trivial⟩
    · refine WK_region ?_
      refine WO_pure tbok 1 [(0, .slice a_p0 p0.length c_p0), (1, .slice a_p1 p1.length c_p1), (4, .bool false), (16, .slice a_p0 p0.length c_p0)] rfl ⟨rfl, rfl, rfl, rfl, trivial⟩ ?_
      obtain ⟨y_27, hc138, hx5⟩ := bind_some hx5
      refine WO_call0 (.bool y_27) rfl rfl trivial rfl rfl rfl rfl St_closed ⟨12, #[], #[], rfl, callable_12, fun w hw => ⟨_, hw.sat, fiduciallaw50_Few_walk h_p0 hc138⟩⟩ ?_
      refine WO_pure tbok 2 [(0, .slice a_p0 p0.length c_p0), (1, .slice a_p1 p1.length c_p1), (4, .bool false), (19, .bool (!y_27))] rfl ⟨rfl, rfl, rfl, rfl, trivial⟩ ?_
      refine WO_split (d := 19) (b := !y_27) rfl (fun hb139 => ?_) (fun hb139 => ?_)
      · have hx5 := ifT hb139 hx5
        refine WO_pure tbok 1 [(0, .slice a_p0 p0.length c_p0), (1, .slice a_p1 p1.length c_p1), (4, .bool false), (19, .bool true)] rfl ⟨rfl, rfl, rfl, rfl, trivial⟩ ?_
        refine WO_skip rfl rfl ?_
        refine WO_pure tbok 4 [(0, .slice a_p0 p0.length c_p0), (1, .slice a_p1 p1.length c_p1), (4, .bool false), (24, .bool true)] rfl ⟨rfl, rfl, rfl, rfl, trivial⟩ ?_
        refine WO_skip rfl rfl ?_
        refine WO_pure tbok 2 [(0, .slice a_p0 p0.length c_p0), (1, .slice a_p1 p1.length c_p1), (4, .bool false), (28, .bool true)] rfl ⟨rfl, rfl, rfl, rfl, trivial⟩ ?_
        refine WO_end ?_
        cases hx5
        refine WK.sub ?_ (WK.cls (fun _ h => h) hk6)
        exact ⟨rfl, rfl, rfl, rfl, trivial⟩
      · have hx5 := ifF hb139 hx5
        refine WO_pure tbok 1 [(0, .slice a_p0 p0.length c_p0), (1, .slice a_p1 p1.length c_p1), (4, .bool false), (19, .bool false), (20, .slice a_p1 p1.length c_p1)] rfl ⟨rfl, rfl, rfl, rfl, rfl, trivial⟩ ?_
        obtain ⟨y_28, hc140, hx5⟩ := bind_some hx5
        refine WO_call0 (.bool y_28) rfl rfl trivial rfl rfl rfl rfl St_closed ⟨12, #[], #[], rfl, callable_12, fun w hw => ⟨_, hw.sat, fiduciallaw50_Few_walk h_p1 hc140⟩⟩ ?_
        refine WO_pure tbok 3 [(0, .slice a_p0 p0.length c_p0), (1, .slice a_p1 p1.length c_p1), (4, .bool false), (24, .bool (!y_28))] rfl ⟨rfl, rfl, rfl, rfl, trivial⟩ ?_
        refine WO_split (d := 24) (b := !y_28) rfl (fun hb141 => ?_) (fun hb141 => ?_)
        · have hx5 := ifT hb141 hx5
          refine WO_pure tbok 1 [(0, .slice a_p0 p0.length c_p0), (1, .slice a_p1 p1.length c_p1), (4, .bool false), (24, .bool true)] rfl ⟨rfl, rfl, rfl, rfl, trivial⟩ ?_
          refine WO_skip rfl rfl ?_
          refine WO_pure tbok 2 [(0, .slice a_p0 p0.length c_p0), (1, .slice a_p1 p1.length c_p1), (4, .bool false), (28, .bool true)] rfl ⟨rfl, rfl, rfl, rfl, trivial⟩ ?_
          refine WO_end ?_
          cases hx5
          refine WK.sub ?_ (WK.cls (fun _ h => h) hk6)
          exact ⟨rfl, rfl, rfl, rfl, trivial⟩
        · have hx5 := ifF hb141 hx5
          refine WO_pure tbok 1 [(0, .slice a_p0 p0.length c_p0), (1, .slice a_p1 p1.length c_p1), (4, .bool false), (24, .bool false), (25, .slice a_p0 p0.length c_p0)] rfl ⟨rfl, rfl, rfl, rfl, rfl, trivial⟩ ?_
          obtain ⟨y_29, hc142, hx5⟩ := bind_some hx5
          refine WO_call0 (.int .i64 y_29) rfl rfl trivial rfl rfl rfl rfl St_closed ⟨17, #[], #[], rfl, callable_17, fun w hw => ⟨_, hw.sat, fiduciallaw50_Checked_walk h_p0 hc142⟩⟩ ?_
          refine WO_pure tbok 2 [(0, .slice a_p0 p0.length c_p0), (1, .slice a_p1 p1.length c_p1), (4, .bool false), (28, .bool (y_29 != 0))] rfl ⟨rfl, rfl, rfl, rfl, trivial⟩ ?_
          refine WO_end ?_
          cases hx5
          refine WK.sub ?_ (WK.cls (fun _ h => h) hk6)
          exact ⟨rfl, rfl, rfl, rfl, trivial⟩
theorem fiduciallaw50_SeamShifts_walk {m : Mu} {p0 : List (List Int)} {p1 : Int} {p2 : Int} {a_p0 : Option Addr} {q_p0 c_p0 : Nat} (h_p0 : SlR (RowE (FE (I1 .i64)) 1) 1 m (.slice a_p0 q_p0 c_p0) p0) {r : Bool} (hm : fiduciallaw50_SeamShifts p0 p1 p2 = some r) :
    Go.E.Spec Try.prog 5 [.slice a_p0 q_p0 c_p0, .int .i64 p1, .int .u8 p2] m (fun v _ _ => v = .bool r) := by
  refine Spec_enter Try.func5 rfl rfl rfl (fun w0 => ?_)
  refine WK.sub (e' := [(0, .slice a_p0 q_p0 c_p0), (1, .int .i64 p1), (2, .int .u8 p2)]) ⟨rfl, rfl, rfl, trivial⟩ ?_
  obtain rfl := SlR.qlen h_p0
  refine WK.sub (e' := [(0, .slice a_p0 p0.length c_p0), (1, .int .i64 p1), (2, .int .u8 p2)]) ⟨rfl, rfl, rfl, trivial⟩ ?_
  unfold fiduciallaw50_SeamShifts at hm
  refine WK_seq ?_
  refine WK_region ?_
  refine WO_pure tbok 1 [(0, .slice a_p0 p0.length c_p0), (1, .int .i64 p1), (2, .int .u8 p2), (6, .bool false)] rfl ⟨rfl, rfl, rfl, rfl, trivial⟩ ?_
  refine WO_end ?_
  refine WK_seq ?_
  refine WK_seq ?_
  refine WK_region ?_
  obtain ⟨y_1, hc2, hm⟩ := bind_some hm
  refine WO_call0 (.bool y_1) rfl rfl trivial rfl rfl rfl rfl St_closed ⟨11, #[], #[], rfl, callable_11, fun w hw => ⟨_, hw.sat, fiduciallaw50_known_walk hc2⟩⟩ ?_
  refine WO_pure tbok 1 [(0, .slice a_p0 p0.length c_p0), (1, .int .i64 p1), (2, .int .u8 p2), (6, .bool false), (21, .bool (!y_1))] rfl ⟨rfl, rfl, rfl, rfl, rfl, trivial⟩ ?_
  refine WO_end ?_
  refine WK_cond (b := !y_1) rfl (fun hb3 => ?_) (fun hb3 => ?_)
  · have hm := ifT hb3 hm
    refine WK_seq ?_
    refine WK_region ?_
    refine WO_pure tbok 1 [(0, .slice a_p0 p0.length c_p0), (1, .int .i64 p1), (2, .int .u8 p2), (6, .bool false)] rfl ⟨rfl, rfl, rfl, rfl, trivial⟩ ?_
    refine WO_end ?_
    cases hm
    exact WK_ret (ret_out (L := []) (RLc_tmp rfl RLc_nil) (List.nil_sublist _) rfl)
  · have hm := ifF hb3 hm
    refine WK_skip ?_
    refine WK_seq ?_
    refine WK_seq ?_
    obtain ⟨s_2, hx4, hm⟩ := bind_some hm
    refine WK_meet [(0, .slice a_p0 p0.length c_p0), (1, .int .i64 p1), (2, .int .u8 p2), (6, .bool false), (39, .bool s_2)] (St w0 m m []) ?_ (fun hk5 => ?_)
    · refine WK_cond (b := s_2) rfl (fun hb6 => ?_) (fun hb6 => ?_)
      · have hm := ifT hb6 hm
        refine WK_seq ?_
        refine WK_region ?_
        refine WO_pure tbok 1 [(0, .slice a_p0 p0.length c_p0), (1, .int .i64 p1), (2, .int .u8 p2), (6, .bool true)] rfl ⟨rfl, rfl, rfl, rfl, trivial⟩ ?_
        refine WO_end ?_
        cases hm
        exact WK_ret (ret_out (L := []) (RLc_tmp rfl RLc_nil) (List.nil_sublist _) rfl)
      · have hm := ifF hb6 hm
        refine WK_skip ?_
        refine WK_seq ?_
        refine WK_region ?_
        refine WO_pure tbok 2 [(0, .slice a_p0 p0.length c_p0), (1, .int .i64 p1), (2, .int .u8 p2), (6, .bool false), (7, .slice none 0 0), (8, .slice none 0 0)] rfl ⟨rfl, rfl, rfl, rfl, rfl, rfl, trivial⟩ ?_
        refine WO_end ?_
        refine WK_seq ?_
        refine WK_seq ?_
        refine WK_region ?_
        refine WO_pure tbok 3 [(0, .slice a_p0 p0.length c_p0), (1, .int .i64 p1), (2, .int .u8 p2), (6, .bool false), (7, .slice none 0 0), (8, .slice none 0 0), (40, .slice a_p0 p0.length c_p0), (41, .int .i64 (p0.length : Int)), (42, .int .i64 0)] rfl ⟨rfl, rfl, rfl, rfl, rfl, rfl, rfl, rfl, rfl, trivial⟩ ?_
        refine WO_end ?_
        refine WK_pad ?_
        refine WK_pad ?_
        obtain ⟨x33, hx34, hm⟩ := bind_some hm
        refine WK_join (β := (List (List Int) × List (List Int)) × (Mu × Option Addr × Nat × Nat × List Ent × Option Addr × Nat × Nat × List Ent)) (fun p => p.1 = x33 ∧ Le m p.2.1 ∧ OwnX 23 1 V1 (RowE (FE (I1 .i64)) 1) p.2.1 (.slice p.2.2.1 p.2.2.2.1 p.2.2.2.2.1) p.1.1 p.2.2.2.2.2.1 ∧ OwnX 23 1 V1 (RowE (FE (I1 .i64)) 1) p.2.1 (.slice p.2.2.2.2.2.2.1 p.2.2.2.2.2.2.2.1 p.2.2.2.2.2.2.2.2.1) p.1.2 p.2.2.2.2.2.2.2.2.2) (fun p => [(0, .slice a_p0 p0.length c_p0), (2, .int .u8 p2), (6, .bool false), (7, .slice p.2.2.1 p.2.2.2.1 p.2.2.2.2.1), (8, .slice p.2.2.2.2.2.2.1 p.2.2.2.2.2.2.2.1 p.2.2.2.2.2.2.2.2.1)]) (fun p => St w0 m p.2.1 [p.2.2.2.2.2.1, p.2.2.2.2.2.2.2.2.2]) ?_ (fun hk35 => ?_)
        · rintro ⟨⟨l_6, l_7⟩, ⟨m21, a25, q26, c27, L24, a30, q31, c32, L29⟩⟩ ⟨hq41, hle22, hL24, hL29⟩
          subst hq41
          have hqq : q26 = l_6.length := OwnX.qlen hL24
          subst hqq
          have hqq : q31 = l_7.length := OwnX.qlen hL29
          subst hqq
          refine WK.sub (e' := [(0, .slice a_p0 p0.length c_p0), (2, .int .u8 p2), (6, .bool false), (7, .slice a25 ((l_6).length) c27), (8, .slice a30 ((l_7).length) c32)]) ⟨rfl, rfl, rfl, rfl, rfl, trivial⟩ (WK.cls (C' := St w0 m m21 [L24, L29]) (fun _ h => h) ?_)
          refine WK_seq ?_
          refine WK_region ?_
          refine WO_pure tbok 1 [(2, .int .u8 p2), (6, .bool false), (7, .slice a25 ((l_6).length) c27), (8, .slice a30 ((l_7).length) c32), (80, .slice a_p0 p0.length c_p0)] rfl ⟨rfl, rfl, rfl, rfl, rfl, trivial⟩ ?_
          obtain ⟨⟨y_8, y_9, y_10, y_11⟩, hc42, hm⟩ := bind_some hm
          refine WO_call2 (seam_Find_Q (y_8, y_9, y_10, y_11)) rfl rfl trivial rfl rfl rfl rfl ⟨19, #[], #[], rfl, callable_19, seam_Find_walk (h_p0.mono (mono_RowE (mono_FE _) _) hle22) hc42⟩ (fun v50 m51 L49 hle52 hq => ?_)
          obtain ⟨a43, qa43, c44, a46, qa46, c47, rfl, h53, h54⟩ := hq
          obtain rfl := SlR.qlen h53
          obtain rfl := SlR.qlen h54
          refine WO.cls (C' := St w0 m m51 [L24, L29, L49]) (fun _ h => h.sub (by simp)) ?_
          refine WO_pure tbok 3 [(2, .int .u8 p2), (6, .bool false), (7, .slice a25 ((l_6).length) c27), (8, .slice a30 ((l_7).length) c32), (82, .agg #[.slice a43 ((y_8).length) c44, .int .i64 y_9, .slice a46 ((y_10).length) c47]), (83, .int .i64 y_11)] rfl ⟨rfl, rfl, rfl, rfl, rfl, rfl, trivial⟩ ?_
          refine WO_alloc tbok [.slice none 0 0, .int .i64 0, .slice none 0 0] rfl rfl trivial rfl rfl rfl rfl (fun b55 => ?_)
          refine WO.cls (C' := St w0 m m51 [L24, L29, L49, [⟨b55, 25, [.slice none 0 0, .int .i64 0, .slice none 0 0]⟩]]) (fun _ h => h) ?_
          refine WO_storeB tbok 3 [.slice a43 ((y_8).length) c44, .int .i64 y_9, .slice a46 ((y_10).length) c47] rfl rfl rfl rfl rfl rfl rfl ?_
          refine WO.cls (C' := St w0 m m51 [L24, L29, L49, [⟨b55, 25, [.slice a43 ((y_8).length) c44, .int .i64 y_9, .slice a46 ((y_10).length) c47]⟩]]) (fun _ h => h) ?_
          refine WO_pure tbok 1 [(2, .int .u8 p2), (6, .bool false), (7, .slice a25 ((l_6).length) c27), (8, .slice a30 ((l_7).length) c32), (14, .pointer (some ⟨b55, 0, none⟩)), (15, .int .i64 y_11)] rfl ⟨rfl, rfl, rfl, rfl, rfl, rfl, trivial⟩ ?_
          refine WO_end ?_
          refine WK_seq ?_
          refine WK_region ?_
          refine WO_pure tbok 1 [(2, .int .u8 p2), (6, .bool false), (7, .slice a25 ((l_6).length) c27), (8, .slice a30 ((l_7).length) c32), (14, .pointer (some ⟨b55, 0, none⟩)), (15, .int .i64 y_11), (85, .slice a25 ((l_6).length) c27)] rfl ⟨rfl, rfl, rfl, rfl, rfl, rfl, rfl, trivial⟩ ?_
          refine WO_freeze 0 rfl (fun m56 hle57 hmm58 => ?_)
          refine WO.cls (C' := St w0 m m56 [[], L29, L49, [⟨b55, 25, [.slice a43 ((y_8).length) c44, .int .i64 y_9, .slice a46 ((y_10).length) c47]⟩]]) (fun _ h => h) ?_
          obtain ⟨⟨y_12, y_13, y_14, y_15⟩, hc59, hm⟩ := bind_some hm
          refine WO_call2 (seam_Find_Q (y_12, y_13, y_14, y_15)) rfl rfl trivial rfl rfl rfl rfl ⟨19, #[], #[], rfl, callable_19, seam_Find_walk (OwnX.rd (E := V1) (k := 1) (fun _ => rfl) (hL24.mono (mono_RowE (mono_FE _) _) hle52) (mono_RowE (mono_FE _) _) hle57 hmm58) hc59⟩ (fun v67 m68 L66 hle69 hq => ?_)
          obtain ⟨a60, qa60, c61, a63, qa63, c64, rfl, h70, h71⟩ := hq
          obtain rfl := SlR.qlen h70
          obtain rfl := SlR.qlen h71
          refine WO.cls (C' := St w0 m m68 [[], L29, L49, [⟨b55, 25, [.slice a43 ((y_8).length) c44, .int .i64 y_9, .slice a46 ((y_10).length) c47]⟩], L66]) (fun _ h => h.sub (by simp)) ?_
          refine WO_pure tbok 3 [(2, .int .u8 p2), (6, .bool false), (7, .slice a25 ((l_6).length) c27), (8, .slice a30 ((l_7).length) c32), (14, .pointer (some ⟨b55, 0, none⟩)), (15, .int .i64 y_11), (87, .agg #[.slice a60 ((y_12).length) c61, .int .i64 y_13, .slice a63 ((y_14).length) c64]), (88, .int .i64 y_15)] rfl ⟨rfl, rfl, rfl, rfl, rfl, rfl, rfl, rfl, trivial⟩ ?_
          refine WO_alloc tbok [.slice none 0 0, .int .i64 0, .slice none 0 0] rfl rfl trivial rfl rfl rfl rfl (fun b72 => ?_)
          refine WO.cls (C' := St w0 m m68 [[], L29, L49, [⟨b55, 25, [.slice a43 ((y_8).length) c44, .int .i64 y_9, .slice a46 ((y_10).length) c47]⟩], L66, [⟨b72, 25, [.slice none 0 0, .int .i64 0, .slice none 0 0]⟩]]) (fun _ h => h) ?_
          refine WO_storeB tbok 5 [.slice a60 ((y_12).length) c61, .int .i64 y_13, .slice a63 ((y_14).length) c64] rfl rfl rfl rfl rfl rfl rfl ?_
          refine WO.cls (C' := St w0 m m68 [[], L29, L49, [⟨b55, 25, [.slice a43 ((y_8).length) c44, .int .i64 y_9, .slice a46 ((y_10).length) c47]⟩], L66, [⟨b72, 25, [.slice a60 ((y_12).length) c61, .int .i64 y_13, .slice a63 ((y_14).length) c64]⟩]]) (fun _ h => h) ?_
          refine WO_pure tbok 1 [(2, .int .u8 p2), (6, .bool false), (7, .slice a25 ((l_6).length) c27), (8, .slice a30 ((l_7).length) c32), (14, .pointer (some ⟨b55, 0, none⟩)), (15, .int .i64 y_11), (16, .pointer (some ⟨b72, 0, none⟩)), (17, .int .i64 y_15)] rfl ⟨rfl, rfl, rfl, rfl, rfl, rfl, rfl, rfl, trivial⟩ ?_
          refine WO_end ?_
          refine WK_seq ?_
          refine WK_region ?_
          refine WO_pure tbok 1 [(2, .int .u8 p2), (6, .bool false), (7, .slice a25 ((l_6).length) c27), (14, .pointer (some ⟨b55, 0, none⟩)), (15, .int .i64 y_11), (16, .pointer (some ⟨b72, 0, none⟩)), (17, .int .i64 y_15), (90, .slice a30 ((l_7).length) c32)] rfl ⟨rfl, rfl, rfl, rfl, rfl, rfl, rfl, rfl, trivial⟩ ?_
          refine WO_freeze 1 rfl (fun m73 hle74 hmm75 => ?_)
          refine WO.cls (C' := St w0 m m73 [[], [], L49, [⟨b55, 25, [.slice a43 ((y_8).length) c44, .int .i64 y_9, .slice a46 ((y_10).length) c47]⟩], L66, [⟨b72, 25, [.slice a60 ((y_12).length) c61, .int .i64 y_13, .slice a63 ((y_14).length) c64]⟩]]) (fun _ h => h) ?_
          obtain ⟨⟨y_16, y_17, y_18, y_19⟩, hc76, hm⟩ := bind_some hm
          refine WO_call2 (seam_Find_Q (y_16, y_17, y_18, y_19)) rfl rfl trivial rfl rfl rfl rfl ⟨19, #[], #[], rfl, callable_19, seam_Find_walk (OwnX.rd (E := V1) (k := 1) (fun _ => rfl) (((hL29.mono (mono_RowE (mono_FE _) _) hle52).mono (mono_RowE (mono_FE _) _) hle57).mono (mono_RowE (mono_FE _) _) hle69) (mono_RowE (mono_FE _) _) hle74 hmm75) hc76⟩ (fun v84 m85 L83 hle86 hq => ?_)
          obtain ⟨a77, qa77, c78, a80, qa80, c81, rfl, h87, h88⟩ := hq
          obtain rfl := SlR.qlen h87
          obtain rfl := SlR.qlen h88
          refine WO.cls (C' := St w0 m m85 [[], [], L49, [⟨b55, 25, [.slice a43 ((y_8).length) c44, .int .i64 y_9, .slice a46 ((y_10).length) c47]⟩], L66, [⟨b72, 25, [.slice a60 ((y_12).length) c61, .int .i64 y_13, .slice a63 ((y_14).length) c64]⟩], L83]) (fun _ h => h.sub (by simp)) ?_
          refine WO_pure tbok 3 [(2, .int .u8 p2), (6, .bool false), (7, .slice a25 ((l_6).length) c27), (14, .pointer (some ⟨b55, 0, none⟩)), (15, .int .i64 y_11), (16, .pointer (some ⟨b72, 0, none⟩)), (17, .int .i64 y_15), (92, .agg #[.slice a77 ((y_16).length) c78, .int .i64 y_17, .slice a80 ((y_18).length) c81]), (93, .int .i64 y_19)] rfl ⟨rfl, rfl, rfl, rfl, rfl, rfl, rfl, rfl, rfl, trivial⟩ ?_
          refine WO_alloc tbok [.slice none 0 0, .int .i64 0, .slice none 0 0] rfl rfl trivial rfl rfl rfl rfl (fun b89 => ?_)
          refine WO.cls (C' := St w0 m m85 [[], [], L49, [⟨b55, 25, [.slice a43 ((y_8).length) c44, .int .i64 y_9, .slice a46 ((y_10).length) c47]⟩], L66, [⟨b72, 25, [.slice a60 ((y_12).length) c61, .int .i64 y_13, .slice a63 ((y_14).length) c64]⟩], L83, [⟨b89, 25, [.slice none 0 0, .int .i64 0, .slice none 0 0]⟩]]) (fun _ h => h) ?_
          refine WO_storeB tbok 7 [.slice a77 ((y_16).length) c78, .int .i64 y_17, .slice a80 ((y_18).length) c81] rfl rfl rfl rfl rfl rfl rfl ?_
          refine WO.cls (C' := St w0 m m85 [[], [], L49, [⟨b55, 25, [.slice a43 ((y_8).length) c44, .int .i64 y_9, .slice a46 ((y_10).length) c47]⟩], L66, [⟨b72, 25, [.slice a60 ((y_12).length) c61, .int .i64 y_13, .slice a63 ((y_14).length) c64]⟩], L83, [⟨b89, 25, [.slice a77 ((y_16).length) c78, .int .i64 y_17, .slice a80 ((y_18).length) c81]⟩]]) (fun _ h => h) ?_
          refine WO_pure tbok 1 [(2, .int .u8 p2), (6, .bool false), (7, .slice a25 ((l_6).length) c27), (14, .pointer (some ⟨b55, 0, none⟩)), (15, .int .i64 y_11), (16, .pointer (some ⟨b72, 0, none⟩)), (17, .int .i64 y_15), (18, .pointer (some ⟨b89, 0, none⟩)), (19, .int .i64 y_19)] rfl ⟨rfl, rfl, rfl, rfl, rfl, rfl, rfl, rfl, rfl, trivial⟩ ?_
          refine WO_end ?_
          refine WK_seq ?_
          refine WK_seq ?_
          obtain ⟨s_20, hx90, hm⟩ := bind_some hm
          refine WK_meet [(2, .int .u8 p2), (6, .bool false), (7, .slice a25 ((l_6).length) c27), (14, .pointer (some ⟨b55, 0, none⟩)), (16, .pointer (some ⟨b72, 0, none⟩)), (17, .int .i64 y_15), (106, .bool s_20)] (St w0 m m85 [[], [], L49, [⟨b55, 25, [.slice a43 ((y_8).length) c44, .int .i64 y_9, .slice a46 ((y_10).length) c47]⟩], L66, [⟨b72, 25, [.slice a60 ((y_12).length) c61, .int .i64 y_13, .slice a63 ((y_14).length) c64]⟩], L83, [⟨b89, 25, [.slice a77 ((y_16).length) c78, .int .i64 y_17, .slice a80 ((y_18).length) c81]⟩]]) ?_ (fun hk91 => ?_)
          · refine WK_cond (b := s_20) rfl (fun hb92 => ?_) (fun hb92 => ?_)
            · have hm := ifT hb92 hm
              refine WK_seq ?_
              refine WK_region ?_
              refine WO_pure tbok 1 [(2, .int .u8 p2), (6, .bool false), (7, .slice a25 ((l_6).length) c27), (14, .pointer (some ⟨b55, 0, none⟩)), (16, .pointer (some ⟨b72, 0, none⟩)), (17, .int .i64 y_15)] rfl ⟨rfl, rfl, rfl, rfl, rfl, rfl, trivial⟩ ?_
              refine WO_end ?_
              cases hm
              exact WK_ret (ret_out (L := []) (RLc_tmp rfl RLc_nil) (List.nil_sublist _) rfl)
            · have hm := ifF hb92 hm
              refine WK_skip ?_
              refine WK_seq ?_
              refine WK_seq ?_
              refine WK_region ?_
              refine WO_pure tbok 1 [(2, .int .u8 p2), (6, .bool false), (14, .pointer (some ⟨b55, 0, none⟩)), (16, .pointer (some ⟨b72, 0, none⟩)), (17, .int .i64 y_15), (107, .slice a25 ((l_6).length) c27)] rfl ⟨rfl, rfl, rfl, rfl, rfl, rfl, trivial⟩ ?_
              obtain ⟨y_21, hc93, hm⟩ := bind_some hm
              refine WO_call0 (.int .i64 y_21) rfl rfl trivial rfl rfl rfl rfl St_closed ⟨17, #[], #[], rfl, callable_17, fun w hw => ⟨_, hw.sat, fiduciallaw50_Checked_walk ((((OwnX.rd (E := V1) (k := 1) (fun _ => rfl) (hL24.mono (mono_RowE (mono_FE _) _) hle52) (mono_RowE (mono_FE _) _) hle57 hmm58).mono (mono_RowE (mono_FE _) _) hle69).mono (mono_RowE (mono_FE _) _) hle74).mono (mono_RowE (mono_FE _) _) hle86) hc93⟩⟩ ?_
              refine WO_pure tbok 1 [(2, .int .u8 p2), (6, .bool false), (14, .pointer (some ⟨b55, 0, none⟩)), (16, .pointer (some ⟨b72, 0, none⟩)), (17, .int .i64 y_15), (109, .bool (y_21 != 0))] rfl ⟨rfl, rfl, rfl, rfl, rfl, rfl, trivial⟩ ?_
              refine WO_end ?_
              refine WK_cond (b := y_21 != 0) rfl (fun hb94 => ?_) (fun hb94 => ?_)
              · have hm := ifT hb94 hm
                refine WK_seq ?_
                refine WK_region ?_
                refine WO_pure tbok 3 [(2, .int .u8 p2), (6, .bool (y_15 == 2)), (14, .pointer (some ⟨b55, 0, none⟩)), (16, .pointer (some ⟨b72, 0, none⟩)), (17, .int .i64 y_15)] rfl ⟨rfl, rfl, rfl, rfl, rfl, trivial⟩ ?_
                refine WO_end ?_
                cases hm
                exact WK_ret (ret_out (L := []) (RLc_tmp rfl RLc_nil) (List.nil_sublist _) rfl)
              · have hm := ifF hb94 hm
                refine WK_skip ?_
                refine WK_seq ?_
                refine WK_region ?_
                refine WO_pure tbok 3 [(2, .int .u8 p2), (6, .bool false), (14, .pointer (some ⟨b55, 0, none⟩)), (16, .pointer (some ⟨b72, 0, none⟩)), (114, .bool (y_15 == 0))] rfl ⟨rfl, rfl, rfl, rfl, rfl, trivial⟩ ?_
                refine WO_split (d := 114) (b := y_15 == 0) rfl (fun hb95 => ?_) (fun hb95 => ?_)
                · have hm := ifT hb95 hm
                  refine WO_pure tbok 1 [(2, .int .u8 p2), (6, .bool false), (14, .pointer (some ⟨b55, 0, none⟩)), (16, .pointer (some ⟨b72, 0, none⟩)), (114, .bool true), (115, .pointer (some ⟨b72, 1, none⟩))] rfl ⟨rfl, rfl, rfl, rfl, rfl, rfl, trivial⟩ ?_
                  refine WO_loadB tbok 5 rfl rfl rfl rfl (fun _ h => h) rfl rfl ?_
                  refine WO_pure tbok 1 [(2, .int .u8 p2), (6, .bool false), (14, .pointer (some ⟨b55, 0, none⟩)), (16, .pointer (some ⟨b72, 0, none⟩)), (114, .bool true), (116, .int .i64 y_13), (117, .pointer (some ⟨b55, 1, none⟩))] rfl ⟨rfl, rfl, rfl, rfl, rfl, rfl, rfl, trivial⟩ ?_
                  refine WO_loadB tbok 3 rfl rfl rfl rfl (fun _ h => h) rfl rfl ?_
                  refine WO_pure tbok 6 [(6, .bool false), (14, .pointer (some ⟨b55, 0, none⟩)), (16, .pointer (some ⟨b72, 0, none⟩)), (124, .bool (y_13 == (w64 (y_9 + (w64 (p2))))))] rfl ⟨rfl, rfl, rfl, rfl, trivial⟩ ?_
                  refine WO_split (d := 124) (b := y_13 == (w64 (y_9 + (w64 (p2))))) rfl (fun hb96 => ?_) (fun hb96 => ?_)
                  · have hm := ifT hb96 hm
                    refine WO_pure tbok 1 [(6, .bool false), (16, .pointer (some ⟨b72, 0, none⟩)), (124, .bool true), (125, .pointer (some ⟨b55, 0, none⟩))] rfl ⟨rfl, rfl, rfl, rfl, trivial⟩ ?_
                    refine WO_loadB tbok 3 rfl rfl rfl rfl (fun _ h => h) rfl rfl ?_
                    refine WO_pure tbok 1 [(6, .bool false), (124, .bool true), (126, .slice a43 ((y_8).length) c44), (127, .pointer (some ⟨b72, 0, none⟩))] rfl ⟨rfl, rfl, rfl, rfl, trivial⟩ ?_
                    refine WO_loadB tbok 5 rfl rfl rfl rfl (fun _ h => h) rfl rfl ?_
                    obtain ⟨y_22, hc97, hm⟩ := bind_some hm
                    refine WO_call0 (.bool y_22) rfl rfl trivial rfl rfl rfl rfl St_closed ⟨21, #[], #[], rfl, callable_21, fun w hw => ⟨_, hw.sat, slices_Equal_sint_walk ((((h53.mono (mono_FE _) hle57).mono (mono_FE _) hle69).mono (mono_FE _) hle74).mono (mono_FE _) hle86) ((h70.mono (mono_FE _) hle74).mono (mono_FE _) hle86) hc97⟩⟩ ?_
                    refine WO_pure tbok 2 [(6, .bool y_22)] rfl ⟨rfl, trivial⟩ ?_
                    refine WO_end ?_
                    cases hm
                    exact WK_ret (ret_out (L := []) (RLc_tmp rfl RLc_nil) (List.nil_sublist _) rfl)
                  · have hm := ifF hb96 hm
                    refine WO_pure tbok 4 [(6, .bool false), (124, .bool false)] rfl ⟨rfl, rfl, trivial⟩ ?_
                    refine WO_skip rfl rfl ?_
                    refine WO_pure tbok 2 [(6, .bool false)] rfl ⟨rfl, trivial⟩ ?_
                    refine WO_end ?_
                    cases hm
                    exact WK_ret (ret_out (L := []) (RLc_tmp rfl RLc_nil) (List.nil_sublist _) rfl)
                · have hm := ifF hb95 hm
                  refine WO_pure tbok 14 [(6, .bool false), (124, .bool false)] rfl ⟨rfl, rfl, trivial⟩ ?_
                  refine WO_skip rfl rfl ?_
                  refine WO_pure tbok 2 [(6, .bool false)] rfl ⟨rfl, trivial⟩ ?_
                  refine WO_end ?_
                  cases hm
                  exact WK_ret (ret_out (L := []) (RLc_tmp rfl RLc_nil) (List.nil_sublist _) rfl)
          · refine WK_region ?_
            refine WO_pure tbok 3 [(2, .int .u8 p2), (6, .bool false), (7, .slice a25 ((l_6).length) c27), (14, .pointer (some ⟨b55, 0, none⟩)), (16, .pointer (some ⟨b72, 0, none⟩)), (17, .int .i64 y_15), (18, .pointer (some ⟨b89, 0, none⟩)), (19, .int .i64 y_19), (96, .bool (y_11 != 0))] rfl ⟨rfl, rfl, rfl, rfl, rfl, rfl, rfl, rfl, rfl, trivial⟩ ?_
            refine WO_split (d := 96) (b := y_11 != 0) rfl (fun hb98 => ?_) (fun hb98 => ?_)
            · have hx90 := ifT hb98 hx90
              refine WO_pure tbok 10 [(2, .int .u8 p2), (6, .bool false), (7, .slice a25 ((l_6).length) c27), (14, .pointer (some ⟨b55, 0, none⟩)), (16, .pointer (some ⟨b72, 0, none⟩)), (17, .int .i64 y_15), (106, .bool true)] rfl ⟨rfl, rfl, rfl, rfl, rfl, rfl, rfl, trivial⟩ ?_
              refine WO_end ?_
              cases hx90
              refine WK.sub ?_ (WK.cls (fun _ h => h) hk91)
              exact ⟨rfl, rfl, rfl, rfl, rfl, rfl, rfl, trivial⟩
            · have hx90 := ifF hb98 hx90
              refine WO_pure tbok 4 [(2, .int .u8 p2), (6, .bool false), (7, .slice a25 ((l_6).length) c27), (14, .pointer (some ⟨b55, 0, none⟩)), (16, .pointer (some ⟨b72, 0, none⟩)), (17, .int .i64 y_15), (18, .pointer (some ⟨b89, 0, none⟩)), (100, .bool (y_19 != 0))] rfl ⟨rfl, rfl, rfl, rfl, rfl, rfl, rfl, rfl, trivial⟩ ?_
              refine WO_split (d := 100) (b := y_19 != 0) rfl (fun hb99 => ?_) (fun hb99 => ?_)
              · have hx90 := ifT hb99 hx90
                refine WO_pure tbok 6 [(2, .int .u8 p2), (6, .bool false), (7, .slice a25 ((l_6).length) c27), (14, .pointer (some ⟨b55, 0, none⟩)), (16, .pointer (some ⟨b72, 0, none⟩)), (17, .int .i64 y_15), (106, .bool true)] rfl ⟨rfl, rfl, rfl, rfl, rfl, rfl, rfl, trivial⟩ ?_
                refine WO_end ?_
                cases hx90
                refine WK.sub ?_ (WK.cls (fun _ h => h) hk91)
                exact ⟨rfl, rfl, rfl, rfl, rfl, rfl, rfl, trivial⟩
              · have hx90 := ifF hb99 hx90
                refine WO_pure tbok 1 [(2, .int .u8 p2), (6, .bool false), (7, .slice a25 ((l_6).length) c27), (14, .pointer (some ⟨b55, 0, none⟩)), (16, .pointer (some ⟨b72, 0, none⟩)), (17, .int .i64 y_15), (100, .bool false), (101, .pointer (some ⟨b89, 1, none⟩))] rfl ⟨rfl, rfl, rfl, rfl, rfl, rfl, rfl, rfl, trivial⟩ ?_
                refine WO_loadB tbok 7 rfl rfl rfl rfl (fun _ h => h) rfl rfl ?_
                refine WO_pure tbok 1 [(2, .int .u8 p2), (6, .bool false), (7, .slice a25 ((l_6).length) c27), (14, .pointer (some ⟨b55, 0, none⟩)), (16, .pointer (some ⟨b72, 0, none⟩)), (17, .int .i64 y_15), (100, .bool false), (102, .int .i64 y_17), (103, .pointer (some ⟨b55, 1, none⟩))] rfl ⟨rfl, rfl, rfl, rfl, rfl, rfl, rfl, rfl, rfl, trivial⟩ ?_
                refine WO_loadB tbok 3 rfl rfl rfl rfl (fun _ h => h) rfl rfl ?_
                refine WO_pure tbok 2 [(2, .int .u8 p2), (6, .bool false), (7, .slice a25 ((l_6).length) c27), (14, .pointer (some ⟨b55, 0, none⟩)), (16, .pointer (some ⟨b72, 0, none⟩)), (17, .int .i64 y_15), (106, .bool (y_17 != y_9))] rfl ⟨rfl, rfl, rfl, rfl, rfl, rfl, rfl, trivial⟩ ?_
                refine WO_end ?_
                cases hx90
                refine WK.sub ?_ (WK.cls (fun _ h => h) hk91)
                exact ⟨rfl, rfl, rfl, rfl, rfl, rfl, rfl, trivial⟩
        · refine WK_block ?_
          refine WK_loop (S := List (List Int) × List (List Int) × Int) (G := Mu × Option Addr × Nat × Nat × List Ent × Option Addr × Nat × Nat × List Ent) (fun s => fiduciallaw50_SeamShifts_s1 p0 p1 p2 s.1 s.2.1 s.2.2) (fun s g => [(0, .slice a_p0 p0.length c_p0), (1, .int .i64 p1), (2, .int .u8 p2), (6, .bool false), (7, .slice g.2.1 g.2.2.1 g.2.2.2.1), (8, .slice g.2.2.2.2.2.1 g.2.2.2.2.2.2.1 g.2.2.2.2.2.2.2.1), (40, .slice a_p0 p0.length c_p0), (41, .int .i64 (p0.length : Int)), (42, .int .i64 s.2.2)]) (fun s g => St w0 m g.1 [g.2.2.2.2.1, g.2.2.2.2.2.2.2.2]) (fun s g => Le m g.1 ∧ OwnX 23 1 V1 (RowE (FE (I1 .i64)) 1) g.1 (.slice g.2.1 g.2.2.1 g.2.2.2.1) s.1 g.2.2.2.2.1 ∧ OwnX 23 1 V1 (RowE (FE (I1 .i64)) 1) g.1 (.slice g.2.2.2.2.2.1 g.2.2.2.2.2.2.1 g.2.2.2.2.2.2.2.1) s.2.1 g.2.2.2.2.2.2.2.2) FUEL (([] : List (List Int)), ([] : List (List Int)), 0) (m, none, 0, 0, [], none, 0, 0, []) x33 hx34 ⟨(Le.refl _), (OwnX.nil (T := 23) (k := 1) (E := V1) (El := (RowE (FE (I1 .i64)) 1)) (m := m) none), (OwnX.nil (T := 23) (k := 1) (E := V1) (El := (RowE (FE (I1 .i64)) 1)) (m := m) none)⟩ ⟨rfl, rfl, rfl, rfl, rfl, rfl, rfl, rfl, rfl, trivial⟩ (fun _ h => h) ?_
          rintro ⟨l_3, l_4, s_5⟩ ⟨m9, a13, q14, c15, L12, a18, q19, c20, L17⟩ o37 fl38 hm36 ⟨hle10, hL12, hL17⟩ hn39 hd40
          have hm36 : fiduciallaw50_SeamShifts_s1 p0 p1 p2 l_3 l_4 s_5 = some o37 := hm36
          unfold fiduciallaw50_SeamShifts_s1 at hm36
          have hqq : q14 = l_3.length := OwnX.qlen hL12
          subst hqq
          have hqq : q19 = l_4.length := OwnX.qlen hL17
          subst hqq
          refine WK.sub (e' := [(0, .slice a_p0 p0.length c_p0), (1, .int .i64 p1), (2, .int .u8 p2), (6, .bool false), (7, .slice a13 ((l_3).length) c15), (8, .slice a18 ((l_4).length) c20), (40, .slice a_p0 p0.length c_p0), (41, .int .i64 (p0.length : Int)), (42, .int .i64 s_5)]) ⟨rfl, rfl, rfl, rfl, rfl, rfl, rfl, rfl, rfl, trivial⟩ (WK.cls (C' := St w0 m m9 [L12, L17]) (fun _ h => h) ?_)
          refine WK_seq ?_
          refine WK_region ?_
          refine WO_pure tbok 1 [(0, .slice a_p0 p0.length c_p0), (1, .int .i64 p1), (2, .int .u8 p2), (6, .bool false), (7, .slice a13 ((l_3).length) c15), (8, .slice a18 ((l_4).length) c20), (40, .slice a_p0 p0.length c_p0), (41, .int .i64 (p0.length : Int)), (42, .int .i64 s_5), (43, .bool (decide (s_5 < (p0.length : Int))))] rfl ⟨rfl, rfl, rfl, rfl, rfl, rfl, rfl, rfl, rfl, rfl, trivial⟩ ?_
          refine WO_end ?_
          refine WK_seq ?_
          refine WK_cond (b := decide (s_5 < (p0.length : Int))) rfl (fun hb100 => ?_) (fun hb100 => ?_)
          · have hm36 := ifT hb100 hm36
            refine WK_skip ?_
            refine WK_seq ?_
            refine WK_block ?_
            refine WK_seq ?_
            refine WK_region ?_
            refine WO_pure tbok 1 [(0, .slice a_p0 p0.length c_p0), (1, .int .i64 p1), (2, .int .u8 p2), (6, .bool false), (7, .slice a13 ((l_3).length) c15), (8, .slice a18 ((l_4).length) c20), (40, .slice a_p0 p0.length c_p0), (41, .int .i64 (p0.length : Int)), (42, .int .i64 s_5), (44, .int .i64 s_5)] rfl ⟨rfl, rfl, rfl, rfl, rfl, rfl, rfl, rfl, rfl, rfl, trivial⟩ ?_
            obtain ⟨v_23, hy101, hm36⟩ := bind_some hm36
            obtain ⟨hc102, hy101⟩ := ix_some hy101
            refine WO_index tbok rfl rfl rfl rfl rfl rfl rfl rfl (SlR.addr (h_p0.mono (mono_RowE (mono_FE _) _) hle10)) hc102 ?_
            refine WO_loadR tbok rfl rfl rfl rfl (fun _ h => St.sat h) (h_p0.mono (mono_RowE (mono_FE _) _) hle10) hy101 rfl rfl (fun a103 c104 h105 => ?_)
            refine WO_pure tbok 2 [(0, .slice a_p0 p0.length c_p0), (1, .int .i64 p1), (2, .int .u8 p2), (6, .bool false), (7, .slice a13 ((l_3).length) c15), (8, .slice a18 ((l_4).length) c20), (9, .int .i64 s_5), (10, .slice a103 ((v_23).length) c104), (40, .slice a_p0 p0.length c_p0), (41, .int .i64 (p0.length : Int)), (42, .int .i64 s_5)] rfl ⟨rfl, rfl, rfl, rfl, rfl, rfl, rfl, rfl, rfl, rfl, rfl, trivial⟩ ?_
            refine WO_end ?_
            refine WK_seq ?_
            refine WK_region ?_
            refine WO_pure tbok 1 [(0, .slice a_p0 p0.length c_p0), (1, .int .i64 p1), (2, .int .u8 p2), (6, .bool false), (7, .slice a13 ((l_3).length) c15), (8, .slice a18 ((l_4).length) c20), (9, .int .i64 s_5), (10, .slice a103 ((v_23).length) c104), (40, .slice a_p0 p0.length c_p0), (41, .int .i64 (p0.length : Int)), (42, .int .i64 s_5), (47, .slice a103 ((v_23).length) c104)] rfl ⟨rfl, rfl, rfl, rfl, rfl, rfl, rfl, rfl, rfl, rfl, rfl, rfl, trivial⟩ ?_
            obtain ⟨y_24, hc107, hm36⟩ := bind_some hm36
            refine WO_call1 (slices_Clone_sint_Q y_24) rfl rfl trivial rfl rfl rfl rfl ⟨18, #[], #[], rfl, callable_18, fun w hw => ⟨_, hw.sat, slices_Clone_sint_walk h105 hc107⟩⟩ (fun v112 L111 hq => ?_)
            obtain ⟨a108, qa108, c109, rfl, hL111⟩ := hq
            obtain rfl := OwnE.qlen hL111
            refine WO.cls (C' := St w0 m m9 [L12, L17, L111]) (fun _ h => h) ?_
            refine WO_pure tbok 1 [(0, .slice a_p0 p0.length c_p0), (1, .int .i64 p1), (2, .int .u8 p2), (6, .bool false), (7, .slice a13 ((l_3).length) c15), (8, .slice a18 ((l_4).length) c20), (9, .int .i64 s_5), (40, .slice a_p0 p0.length c_p0), (41, .int .i64 (p0.length : Int)), (42, .int .i64 s_5), (48, .slice a108 ((y_24).length) c109), (49, .slice a103 ((v_23).length) c104)] rfl ⟨rfl, rfl, rfl, rfl, rfl, rfl, rfl, rfl, rfl, rfl, rfl, rfl, trivial⟩ ?_
            obtain ⟨y_25, hc113, hm36⟩ := bind_some hm36
            refine WO_call1 (slices_Clone_sint_Q y_25) rfl rfl trivial rfl rfl rfl rfl ⟨18, #[], #[], rfl, callable_18, fun w hw => ⟨_, hw.sat, slices_Clone_sint_walk h105 hc113⟩⟩ (fun v118 L117 hq => ?_)
            obtain ⟨a114, qa114, c115, rfl, hL117⟩ := hq
            obtain rfl := OwnE.qlen hL117
            refine WO.cls (C' := St w0 m m9 [L12, L17, L111, L117]) (fun _ h => h) ?_
            refine WO_pure tbok 2 [(0, .slice a_p0 p0.length c_p0), (1, .int .i64 p1), (2, .int .u8 p2), (6, .bool false), (7, .slice a13 ((l_3).length) c15), (8, .slice a18 ((l_4).length) c20), (9, .int .i64 s_5), (11, .slice a108 ((y_24).length) c109), (12, .slice a114 ((y_25).length) c115), (40, .slice a_p0 p0.length c_p0), (41, .int .i64 (p0.length : Int)), (42, .int .i64 s_5)] rfl ⟨rfl, rfl, rfl, rfl, rfl, rfl, rfl, rfl, rfl, rfl, rfl, rfl, trivial⟩ ?_
            refine WO_end ?_
            refine WK_seq ?_
            refine WK_region ?_
            refine WO_pure tbok 1 [(0, .slice a_p0 p0.length c_p0), (1, .int .i64 p1), (2, .int .u8 p2), (6, .bool false), (7, .slice a13 ((l_3).length) c15), (8, .slice a18 ((l_4).length) c20), (9, .int .i64 s_5), (11, .slice a108 ((y_24).length) c109), (12, .slice a114 ((y_25).length) c115), (40, .slice a_p0 p0.length c_p0), (41, .int .i64 (p0.length : Int)), (42, .int .i64 s_5), (51, .slice a114 ((y_25).length) c115)] rfl ⟨rfl, rfl, rfl, rfl, rfl, rfl, rfl, rfl, rfl, rfl, rfl, rfl, rfl, trivial⟩ ?_
            refine WO_inline rfl rfl rfl rfl rfl rfl callable_20 Try.func20 rfl rfl rfl ?_
            refine WK.sub (e' := [(0, .slice a114 ((y_25).length) c115)]) ⟨rfl, trivial⟩ ?_
            refine WK_seq ?_
            refine WK_region ?_
            refine WO_pure tbok 5 [(0, .slice a114 ((y_25).length) c115), (2, .int .i64 0), (3, .int .i64 (w64 (((y_25).length : Int) - 1)))] rfl ⟨rfl, rfl, rfl, trivial⟩ ?_
            refine WO_end ?_
            obtain ⟨x123, hx124, hm36⟩ := bind_some hm36
            refine WK_join (β := (List Int) × (List Ent)) (fun p => p.1 = x123 ∧ OwnE 3 1 (I1 .i64) (.slice a114 ((y_25).length) c115) p.1 p.2) (fun p => []) (fun p => St w0 m m9 [L12, L17, L111, p.2]) ?_ (fun hk125 => ?_)
            · rintro ⟨l_29, L122⟩ ⟨hq131, hL122⟩
              subst hq131
              refine WK.sub (e' := []) trivial (WK.cls (C' := St w0 m m9 [L12, L17, L111, L122]) (fun _ h => h) ?_)
              refine WK_nilI RLc_nil (fun _ _ => trivial) ?_
              refine WO_end ?_
              refine WK_seq ?_
              refine WK_seq ?_
              refine WK_region ?_
              refine WO_pure tbok 3 [(0, .slice a_p0 p0.length c_p0), (1, .int .i64 p1), (2, .int .u8 p2), (6, .bool false), (7, .slice a13 ((l_3).length) c15), (8, .slice a18 ((l_4).length) c20), (9, .int .i64 s_5), (11, .slice a108 ((y_24).length) c109), (12, .slice a114 ((y_25).length) c115), (40, .slice a_p0 p0.length c_p0), (41, .int .i64 (p0.length : Int)), (42, .int .i64 s_5), (54, .int .i64 ((y_24).length : Int)), (55, .int .i64 0)] rfl ⟨rfl, rfl, rfl, rfl, rfl, rfl, rfl, rfl, rfl, rfl, rfl, rfl, rfl, rfl, trivial⟩ ?_
              refine WO_end ?_
              obtain ⟨x136, hx137, hm36⟩ := bind_some hm36
              refine WK_join (β := (List Int) × (List Ent)) (fun p => p.1 = x136 ∧ OwnE 3 1 (I1 .i64) (.slice a108 ((y_24).length) c109) p.1 p.2) (fun p => [(0, .slice a_p0 p0.length c_p0), (1, .int .i64 p1), (2, .int .u8 p2), (6, .bool false), (7, .slice a13 ((l_3).length) c15), (8, .slice a18 ((l_4).length) c20), (11, .slice a108 ((y_24).length) c109), (12, .slice a114 ((y_25).length) c115), (40, .slice a_p0 p0.length c_p0), (41, .int .i64 (p0.length : Int)), (42, .int .i64 s_5)]) (fun p => St w0 m m9 [L12, L17, p.2, L122]) ?_ (fun hk138 => ?_)
              · rintro ⟨l_32, L135⟩ ⟨hq144, hL135⟩
                subst hq144
                refine WK.sub (e' := [(0, .slice a_p0 p0.length c_p0), (1, .int .i64 p1), (2, .int .u8 p2), (6, .bool false), (7, .slice a13 ((l_3).length) c15), (8, .slice a18 ((l_4).length) c20), (11, .slice a108 ((y_24).length) c109), (12, .slice a114 ((y_25).length) c115), (40, .slice a_p0 p0.length c_p0), (41, .int .i64 (p0.length : Int)), (42, .int .i64 s_5)]) ⟨rfl, rfl, rfl, rfl, rfl, rfl, rfl, rfl, rfl, rfl, rfl, trivial⟩ (WK.cls (C' := St w0 m m9 [L12, L17, L135, L122]) (fun _ h => h) ?_)
                refine WK_region ?_
                refine WO_pure tbok 2 [(0, .slice a_p0 p0.length c_p0), (1, .int .i64 p1), (2, .int .u8 p2), (6, .bool false), (7, .slice a13 ((l_3).length) c15), (8, .slice a18 ((l_4).length) c20), (12, .slice a114 ((y_25).length) c115), (40, .slice a_p0 p0.length c_p0), (41, .int .i64 (p0.length : Int)), (42, .int .i64 s_5), (70, .slice a13 ((l_3).length) c15), (71, .slice a108 ((y_24).length) c109)] rfl ⟨rfl, rfl, rfl, rfl, rfl, rfl, rfl, rfl, rfl, rfl, rfl, rfl, trivial⟩ ?_
                refine WO_freeze 2 rfl (fun m146 hle147 hmm148 => ?_)
                refine WO.cls (C' := St w0 m m146 [L12, L17, [], L122]) (fun _ h => h) ?_
                refine WO_bsliceX (E := V1) (El := (RowE (FE (I1 .i64)) 1)) tbok (fun _ => rfl) (by decide) [.slice a108 ((y_24).length) c109] [.slice a108 ((y_24).length) c109] ([l_32] : List (List Int)) rfl rfl trivial rfl rfl rfl rfl rfl rfl rfl rfl rfl rfl rfl rfl ⟨⟨_, rfl, (OwnE.rd (E := (I1 .i64)) (k := 1) (fun _ => rfl) hL135 hmm148)⟩, trivial⟩ (fun b145 hb145 => ?_)
                refine WO.cls (C' := St w0 m m146 [L12, L17, [], L122, [⟨b145, 23, [.slice a108 ((y_24).length) c109]⟩]]) (fun _ h => h) ?_
                obtain ⟨hc150, hm36⟩ := chk_some hm36
                refine WO_appendX (E := V1) (El := (RowE (FE (I1 .i64)) 1)) tbok (fun _ => rfl) 0 [.slice a108 ((y_24).length) c109] ([l_32] : List (List Int)) (one_lit rfl) rfl rfl rfl rfl rfl rfl rfl rfl rfl rfl rfl rfl (hL12.mono (mono_RowE (mono_FE _) _) hle147) rfl (src_seg (j := 4) rfl) ⟨⟨_, rfl, (OwnE.rd (E := (I1 .i64)) (k := 1) (fun _ => rfl) hL135 hmm148)⟩, trivial⟩ (ap_ok (by decide) hc150) (ap_max hc150) (fun a151 c152 L153 hL153 => ?_)
                refine WO.cls (C' := St w0 m m146 [L153, L17, [], L122, [⟨b145, 23, [.slice a108 ((y_24).length) c109]⟩]]) (fun _ h => h) ?_
                refine WO_pure tbok 2 [(0, .slice a_p0 p0.length c_p0), (1, .int .i64 p1), (2, .int .u8 p2), (6, .bool false), (7, .slice a13 ((l_3).length) c15), (8, .slice a18 ((l_4).length) c20), (40, .slice a_p0 p0.length c_p0), (41, .int .i64 (p0.length : Int)), (42, .int .i64 s_5), (73, .slice a151 ((l_3 ++ ([l_32] : List (List Int))).length) c152), (74, .slice a18 ((l_4).length) c20), (75, .slice a114 ((y_25).length) c115)] rfl ⟨rfl, rfl, rfl, rfl, rfl, rfl, rfl, rfl, rfl, rfl, rfl, rfl, trivial⟩ ?_
                refine WO_freeze 3 rfl (fun m156 hle157 hmm158 => ?_)
                refine WO.cls (C' := St w0 m m156 [L153, L17, [], [], [⟨b145, 23, [.slice a108 ((y_24).length) c109]⟩]]) (fun _ h => h) ?_
                refine WO_bsliceX (E := V1) (El := (RowE (FE (I1 .i64)) 1)) tbok (fun _ => rfl) (by decide) [.slice a114 ((y_25).length) c115] [.slice a114 ((y_25).length) c115] ([l_29] : List (List Int)) rfl rfl trivial rfl rfl rfl rfl rfl rfl rfl rfl rfl rfl rfl rfl ⟨⟨_, rfl, (OwnE.rd (E := (I1 .i64)) (k := 1) (fun _ => rfl) hL122 hmm158)⟩, trivial⟩ (fun b155 hb155 => ?_)
                refine WO.cls (C' := St w0 m m156 [L153, L17, [], [], [⟨b145, 23, [.slice a108 ((y_24).length) c109]⟩], [⟨b155, 23, [.slice a114 ((y_25).length) c115]⟩]]) (fun _ h => h) ?_
                obtain ⟨hc160, hm36⟩ := chk_some hm36
                refine WO_appendX (E := V1) (El := (RowE (FE (I1 .i64)) 1)) tbok (fun _ => rfl) 1 [.slice a114 ((y_25).length) c115] ([l_29] : List (List Int)) (one_lit rfl) rfl rfl rfl rfl rfl rfl rfl rfl rfl rfl rfl rfl ((hL17.mono (mono_RowE (mono_FE _) _) hle147).mono (mono_RowE (mono_FE _) _) hle157) rfl (src_seg (j := 5) rfl) ⟨⟨_, rfl, (OwnE.rd (E := (I1 .i64)) (k := 1) (fun _ => rfl) hL122 hmm158)⟩, trivial⟩ (ap_ok (by decide) hc160) (ap_max hc160) (fun a161 c162 L163 hL163 => ?_)
                refine WO.cls (C' := St w0 m m156 [L153, L163, [], [], [⟨b145, 23, [.slice a108 ((y_24).length) c109]⟩], [⟨b155, 23, [.slice a114 ((y_25).length) c115]⟩]]) (fun _ h => h) ?_
                refine WO_pure tbok 2 [(0, .slice a_p0 p0.length c_p0), (1, .int .i64 p1), (2, .int .u8 p2), (6, .bool false), (7, .slice a151 ((l_3 ++ ([l_32] : List (List Int))).length) c152), (8, .slice a161 ((l_4 ++ ([l_29] : List (List Int))).length) c162), (40, .slice a_p0 p0.length c_p0), (41, .int .i64 (p0.length : Int)), (42, .int .i64 s_5)] rfl ⟨rfl, rfl, rfl, rfl, rfl, rfl, rfl, rfl, rfl, trivial⟩ ?_
                refine WO_end ?_
                refine WK_blk ?_
                refine WK_region ?_
                refine WO_pure tbok 2 [(0, .slice a_p0 p0.length c_p0), (1, .int .i64 p1), (2, .int .u8 p2), (6, .bool false), (7, .slice a151 ((l_3 ++ ([l_32] : List (List Int))).length) c152), (8, .slice a161 ((l_4 ++ ([l_29] : List (List Int))).length) c162), (40, .slice a_p0 p0.length c_p0), (41, .int .i64 (p0.length : Int)), (42, .int .i64 (w64 (s_5 + 1)))] rfl ⟨rfl, rfl, rfl, rfl, rfl, rfl, rfl, rfl, rfl, trivial⟩ ?_
                refine WO_end ?_
                cases hm36
                refine WK.sub ?_ (WK.cls (fun _ h => St.take 2 h) (hn39 _ (m156, a151, (l_3 ++ ([l_32] : List (List Int))).length, c152, L153, a161, (l_4 ++ ([l_29] : List (List Int))).length, c162, L163) rfl ⟨((hle10.trans hle147).trans hle157), (hL153.mono (mono_RowE (mono_FE _) _) hle157), hL163⟩))
                exact ⟨rfl, rfl, rfl, rfl, rfl, rfl, rfl, rfl, rfl, trivial⟩
              · refine WK_block ?_
                refine WK_loop (S := List Int × Int) (G := List Ent) (fun s => fiduciallaw50_SeamShifts_s3 p1 p2 s_5 y_24 s.1 s.2) (fun s g => [(0, .slice a_p0 p0.length c_p0), (1, .int .i64 p1), (2, .int .u8 p2), (6, .bool false), (7, .slice a13 ((l_3).length) c15), (8, .slice a18 ((l_4).length) c20), (9, .int .i64 s_5), (11, .slice a108 ((y_24).length) c109), (12, .slice a114 ((y_25).length) c115), (40, .slice a_p0 p0.length c_p0), (41, .int .i64 (p0.length : Int)), (42, .int .i64 s_5), (54, .int .i64 ((y_24).length : Int)), (55, .int .i64 s.2)]) (fun s g => St w0 m m9 [L12, L17, g, L122]) (fun s g => OwnE 3 1 (I1 .i64) (.slice a108 ((y_24).length) c109) s.1 g) FUEL (y_24, 0) L111 x136 hx137 hL111 ⟨rfl, rfl, rfl, rfl, rfl, rfl, rfl, rfl, rfl, rfl, rfl, rfl, rfl, rfl, trivial⟩ (fun _ h => h) ?_
                rintro ⟨l_30, s_31⟩ L133 o140 fl141 hm139 hL133 hn142 hd143
                have hm139 : fiduciallaw50_SeamShifts_s3 p1 p2 s_5 y_24 l_30 s_31 = some o140 := hm139
                unfold fiduciallaw50_SeamShifts_s3 at hm139
                refine WK.sub (e' := [(0, .slice a_p0 p0.length c_p0), (1, .int .i64 p1), (2, .int .u8 p2), (6, .bool false), (7, .slice a13 ((l_3).length) c15), (8, .slice a18 ((l_4).length) c20), (9, .int .i64 s_5), (11, .slice a108 ((y_24).length) c109), (12, .slice a114 ((y_25).length) c115), (40, .slice a_p0 p0.length c_p0), (41, .int .i64 (p0.length : Int)), (42, .int .i64 s_5), (54, .int .i64 ((y_24).length : Int)), (55, .int .i64 s_31)]) ⟨rfl, rfl, rfl, rfl, rfl, rfl, rfl, rfl, rfl, rfl, rfl, rfl, rfl, rfl, trivial⟩ (WK.cls (C' := St w0 m m9 [L12, L17, L133, L122]) (fun _ h => h) ?_)
                refine WK_seq ?_
                refine WK_region ?_
                refine WO_pure tbok 1 [(0, .slice a_p0 p0.length c_p0), (1, .int .i64 p1), (2, .int .u8 p2), (6, .bool false), (7, .slice a13 ((l_3).length) c15), (8, .slice a18 ((l_4).length) c20), (9, .int .i64 s_5), (11, .slice a108 ((y_24).length) c109), (12, .slice a114 ((y_25).length) c115), (40, .slice a_p0 p0.length c_p0), (41, .int .i64 (p0.length : Int)), (42, .int .i64 s_5), (54, .int .i64 ((y_24).length : Int)), (55, .int .i64 s_31), (56, .bool (decide (s_31 < ((y_24).length : Int))))] rfl ⟨rfl, rfl, rfl, rfl, rfl, rfl, rfl, rfl, rfl, rfl, rfl, rfl, rfl, rfl, rfl, trivial⟩ ?_
                refine WO_end ?_
                refine WK_seq ?_
                refine WK_cond (b := decide (s_31 < ((y_24).length : Int))) rfl (fun hb165 => ?_) (fun hb165 => ?_)
                · have hm139 := ifT hb165 hm139
                  refine WK_skip ?_
                  refine WK_seq ?_
                  refine WK_block ?_
                  refine WK_seq ?_
                  refine WK_region ?_
                  refine WO_pure tbok 2 [(0, .slice a_p0 p0.length c_p0), (1, .int .i64 p1), (2, .int .u8 p2), (6, .bool false), (7, .slice a13 ((l_3).length) c15), (8, .slice a18 ((l_4).length) c20), (9, .int .i64 s_5), (11, .slice a108 ((y_24).length) c109), (12, .slice a114 ((y_25).length) c115), (13, .int .i64 s_31), (40, .slice a_p0 p0.length c_p0), (41, .int .i64 (p0.length : Int)), (42, .int .i64 s_5), (54, .int .i64 ((y_24).length : Int)), (55, .int .i64 s_31)] rfl ⟨rfl, rfl, rfl, rfl, rfl, rfl, rfl, rfl, rfl, rfl, rfl, rfl, rfl, rfl, rfl, trivial⟩ ?_
                  refine WO_end ?_
                  refine WK_seq ?_
                  refine WK_region ?_
                  refine WO_pure tbok 3 [(0, .slice a_p0 p0.length c_p0), (1, .int .i64 p1), (2, .int .u8 p2), (6, .bool false), (7, .slice a13 ((l_3).length) c15), (8, .slice a18 ((l_4).length) c20), (9, .int .i64 s_5), (11, .slice a108 ((y_24).length) c109), (12, .slice a114 ((y_25).length) c115), (13, .int .i64 s_31), (40, .slice a_p0 p0.length c_p0), (41, .int .i64 (p0.length : Int)), (42, .int .i64 s_5), (54, .int .i64 ((y_24).length : Int)), (55, .int .i64 s_31), (60, .bool (s_5 == p1))] rfl ⟨rfl, rfl, rfl, rfl, rfl, rfl, rfl, rfl, rfl, rfl, rfl, rfl, rfl, rfl, rfl, rfl, trivial⟩ ?_
                  refine WO_end ?_
                  obtain ⟨l_33, hx168, hm139⟩ := bind_some hm139
                  refine WK_join (β := List Ent) (fun p => OwnE 3 1 (I1 .i64) (.slice a108 ((y_24).length) c109) l_33 p) (fun p => [(0, .slice a_p0 p0.length c_p0), (1, .int .i64 p1), (2, .int .u8 p2), (6, .bool false), (7, .slice a13 ((l_3).length) c15), (8, .slice a18 ((l_4).length) c20), (9, .int .i64 s_5), (11, .slice a108 ((y_24).length) c109), (12, .slice a114 ((y_25).length) c115), (40, .slice a_p0 p0.length c_p0), (41, .int .i64 (p0.length : Int)), (42, .int .i64 s_5), (54, .int .i64 ((y_24).length : Int)), (55, .int .i64 s_31)]) (fun p => St w0 m m9 [L12, L17, p, L122]) ?_ (fun hk169 => ?_)
                  · rintro L167 hL167
                    refine WK.sub (e' := [(0, .slice a_p0 p0.length c_p0), (1, .int .i64 p1), (2, .int .u8 p2), (6, .bool false), (7, .slice a13 ((l_3).length) c15), (8, .slice a18 ((l_4).length) c20), (9, .int .i64 s_5), (11, .slice a108 ((y_24).length) c109), (12, .slice a114 ((y_25).length) c115), (40, .slice a_p0 p0.length c_p0), (41, .int .i64 (p0.length : Int)), (42, .int .i64 s_5), (54, .int .i64 ((y_24).length : Int)), (55, .int .i64 s_31)]) ⟨rfl, rfl, rfl, rfl, rfl, rfl, rfl, rfl, rfl, rfl, rfl, rfl, rfl, rfl, trivial⟩ (WK.cls (C' := St w0 m m9 [L12, L17, L167, L122]) (fun _ h => h) ?_)
                    refine WK_blk ?_
                    refine WK_region ?_
                    refine WO_pure tbok 2 [(0, .slice a_p0 p0.length c_p0), (1, .int .i64 p1), (2, .int .u8 p2), (6, .bool false), (7, .slice a13 ((l_3).length) c15), (8, .slice a18 ((l_4).length) c20), (9, .int .i64 s_5), (11, .slice a108 ((y_24).length) c109), (12, .slice a114 ((y_25).length) c115), (40, .slice a_p0 p0.length c_p0), (41, .int .i64 (p0.length : Int)), (42, .int .i64 s_5), (54, .int .i64 ((y_24).length : Int)), (55, .int .i64 (w64 (s_31 + 1)))] rfl ⟨rfl, rfl, rfl, rfl, rfl, rfl, rfl, rfl, rfl, rfl, rfl, rfl, rfl, rfl, trivial⟩ ?_
                    refine WO_end ?_
                    cases hm139
                    refine WK.sub ?_ (WK.cls (fun _ h => h) (hn142 _ L167 rfl hL167))
                    exact ⟨rfl, rfl, rfl, rfl, rfl, rfl, rfl, rfl, rfl, rfl, rfl, rfl, rfl, rfl, trivial⟩
                  · refine WK_cond (b := s_5 == p1) rfl (fun hb170 => ?_) (fun hb170 => ?_)
                    · have hx168 := ifT hb170 hx168
                      refine WK_region ?_
                      refine WO_pure tbok 2 [(0, .slice a_p0 p0.length c_p0), (1, .int .i64 p1), (2, .int .u8 p2), (6, .bool false), (7, .slice a13 ((l_3).length) c15), (8, .slice a18 ((l_4).length) c20), (9, .int .i64 s_5), (11, .slice a108 ((y_24).length) c109), (12, .slice a114 ((y_25).length) c115), (40, .slice a_p0 p0.length c_p0), (41, .int .i64 (p0.length : Int)), (42, .int .i64 s_5), (54, .int .i64 ((y_24).length : Int)), (55, .int .i64 s_31), (61, .slice a108 ((y_24).length) c109), (62, .int .i64 s_31)] rfl ⟨rfl, rfl, rfl, rfl, rfl, rfl, rfl, rfl, rfl, rfl, rfl, rfl, rfl, rfl, rfl, rfl, trivial⟩ ?_
                      obtain ⟨v_34, hy171, hx168⟩ := bind_some hx168
                      obtain ⟨hc172, hy171⟩ := ix_some hy171
                      refine WO_index tbok rfl rfl rfl rfl rfl rfl rfl rfl (OwnE.addr hL133) (by simpa using hc172) ?_
                      refine WO_loadO (E := (I1 .i64)) tbok (fun _ => rfl) 2 rfl rfl rfl rfl (fun _ h => h) hL133 rfl hy171 rfl ?_
                      refine WO_pure tbok 3 [(0, .slice a_p0 p0.length c_p0), (1, .int .i64 p1), (2, .int .u8 p2), (6, .bool false), (7, .slice a13 ((l_3).length) c15), (8, .slice a18 ((l_4).length) c20), (9, .int .i64 s_5), (11, .slice a108 ((y_24).length) c109), (12, .slice a114 ((y_25).length) c115), (40, .slice a_p0 p0.length c_p0), (41, .int .i64 (p0.length : Int)), (42, .int .i64 s_5), (54, .int .i64 ((y_24).length : Int)), (55, .int .i64 s_31), (61, .slice a108 ((y_24).length) c109), (62, .int .i64 s_31), (67, .int .i64 (w64 (v_34 + (w64 (p2)))))] rfl ⟨rfl, rfl, rfl, rfl, rfl, rfl, rfl, rfl, rfl, rfl, rfl, rfl, rfl, rfl, rfl, rfl, rfl, trivial⟩ ?_
                      obtain ⟨hc173, hx168⟩ := chk_some hx168
                      refine WO_index tbok rfl rfl rfl rfl rfl rfl rfl rfl (OwnE.addr hL133) (by simpa using hc173) ?_
                      refine WO_storeO (E := (I1 .i64)) tbok (fun _ => rfl) 2 (w64 (v_34 + (w64 (p2)))) rfl rfl rfl rfl rfl hL133 rfl (by simpa using idx_lt hc173) rfl rfl rfl rfl (fun L174 hL174 => ?_)
                      refine WO.cls (C' := St w0 m m9 [L12, L17, L174, L122]) (fun _ h => h) ?_
                      refine WO_end ?_
                      cases hx168
                      refine WK.sub ?_ (WK.cls (fun _ h => h) (hk169 L174 hL174))
                      exact ⟨rfl, rfl, rfl, rfl, rfl, rfl, rfl, rfl, rfl, rfl, rfl, rfl, rfl, rfl, trivial⟩
                    · have hx168 := ifF hb170 hx168
                      refine WK_skip ?_
                      cases hx168
                      refine WK.sub ?_ (WK.cls (fun _ h => h) (hk169 L133 hL133))
                      exact ⟨rfl, rfl, rfl, rfl, rfl, rfl, rfl, rfl, rfl, rfl, rfl, rfl, rfl, rfl, trivial⟩
                · have hm139 := ifF hb165 hm139
                  refine WK_exit rfl ?_
                  cases hm139
                  refine WK.sub ?_ (WK.cls (fun _ h => h) (hk138 (l_30, L133) ⟨(hd143 _ rfl), hL133⟩))
                  exact ⟨rfl, rfl, rfl, rfl, rfl, rfl, rfl, rfl, rfl, rfl, rfl, trivial⟩
            · refine WK_block ?_
              refine WK_loop (S := List Int × Int × Int) (G := List Ent) (fun s => fiduciallaw50_SeamShifts_s2 s.1 s.2.1 s.2.2) (fun s g => [(0, .slice a114 ((y_25).length) c115), (2, .int .i64 s.2.1), (3, .int .i64 s.2.2)]) (fun s g => St w0 m m9 [L12, L17, L111, g]) (fun s g => OwnE 3 1 (I1 .i64) (.slice a114 ((y_25).length) c115) s.1 g) FUEL (y_25, 0, w64 (((y_25).length : Int) - 1)) L117 x123 hx124 hL117 ⟨rfl, rfl, rfl, trivial⟩ (fun _ h => h) ?_
              rintro ⟨l_26, s_27, s_28⟩ L120 o127 fl128 hm126 hL120 hn129 hd130
              have hm126 : fiduciallaw50_SeamShifts_s2 l_26 s_27 s_28 = some o127 := hm126
              unfold fiduciallaw50_SeamShifts_s2 at hm126
              refine WK.sub (e' := [(0, .slice a114 ((y_25).length) c115), (2, .int .i64 s_27), (3, .int .i64 s_28)]) ⟨rfl, rfl, rfl, trivial⟩ (WK.cls (C' := St w0 m m9 [L12, L17, L111, L120]) (fun _ h => h) ?_)
              refine WK_seq ?_
              refine WK_seq ?_
              refine WK_region ?_
              refine WO_pure tbok 3 [(0, .slice a114 ((y_25).length) c115), (2, .int .i64 s_27), (3, .int .i64 s_28), (9, .bool (decide (s_27 < s_28)))] rfl ⟨rfl, rfl, rfl, rfl, trivial⟩ ?_
              refine WO_end ?_
              refine WK_cond (b := decide (s_27 < s_28)) rfl (fun hb176 => ?_) (fun hb176 => ?_)
              · have hm126 := ifT hb176 hm126
                refine WK_skip ?_
                refine WK_seq ?_
                refine WK_block ?_
                refine WK_plan 13 [0, 1, 2, 3, 4, 5, 6, 8, 9, 10] (.run [7, 11, 12] .fin) follows_ok (by kernel_rfl) St_closed ?_
                refine WO_pure tbok 6 [(0, .slice a114 ((y_25).length) c115), (2, .int .i64 s_27), (3, .int .i64 s_28), (14, .slice a114 ((y_25).length) c115), (15, .int .i64 s_27), (16, .slice a114 ((y_25).length) c115), (17, .int .i64 s_28), (18, .slice a114 ((y_25).length) c115), (19, .int .i64 s_28)] rfl ⟨rfl, rfl, rfl, rfl, rfl, rfl, rfl, rfl, rfl, trivial⟩ ?_
                obtain ⟨v_35, hy177, hm126⟩ := bind_some hm126
                obtain ⟨hc178, hy177⟩ := ix_some hy177
                refine WO_index tbok rfl rfl rfl rfl rfl rfl rfl rfl (OwnE.addr hL120) (by simpa using hc178) ?_
                refine WO_pure tbok 2 [(0, .slice a114 ((y_25).length) c115), (2, .int .i64 s_27), (3, .int .i64 s_28), (14, .slice a114 ((y_25).length) c115), (15, .int .i64 s_27), (16, .slice a114 ((y_25).length) c115), (17, .int .i64 s_28), (20, .pointer (some (eAddr (.slice a114 ((y_25).length) c115) 1 s_28.toNat))), (22, .slice a114 ((y_25).length) c115), (23, .int .i64 s_27)] rfl ⟨rfl, rfl, rfl, rfl, rfl, rfl, rfl, rfl, rfl, rfl, trivial⟩ ?_
                obtain ⟨v_36, hy179, hm126⟩ := bind_some hm126
                obtain ⟨hc180, hy179⟩ := ix_some hy179
                refine WO_index tbok rfl rfl rfl rfl rfl rfl rfl rfl (OwnE.addr hL120) (by simpa using hc180) ?_
                refine WO_plan ?_
                refine WT_run ?_
                refine WO_loadO (E := (I1 .i64)) tbok (fun _ => rfl) 3 rfl rfl rfl rfl (fun _ h => h) hL120 rfl hy177 rfl ?_
                refine WO_loadO (E := (I1 .i64)) tbok (fun _ => rfl) 3 rfl rfl rfl rfl (fun _ h => h) hL120 rfl hy179 rfl ?_
                obtain ⟨hc181, hm126⟩ := chk_some hm126
                refine WO_index tbok rfl rfl rfl rfl rfl rfl rfl rfl (OwnE.addr hL120) (by simpa using hc181) ?_
                refine WO_tree rfl ?_
                refine WT_fin ?_
                refine WO_storeO (E := (I1 .i64)) tbok (fun _ => rfl) 3 v_35 rfl rfl rfl rfl rfl hL120 rfl (by simpa using idx_lt hc181) rfl rfl rfl rfl (fun L182 hL182 => ?_)
                refine WO.cls (C' := St w0 m m9 [L12, L17, L111, L182]) (fun _ h => h) ?_
                obtain ⟨hc184, hm126⟩ := chk_some hm126
                refine WO_index tbok rfl rfl rfl rfl rfl rfl rfl rfl (OwnE.addr hL182) (by simpa using hc184) ?_
                refine WO_storeO (E := (I1 .i64)) tbok (fun _ => rfl) 3 v_36 rfl rfl rfl rfl rfl hL182 rfl (by simpa using idx_lt hc184) rfl rfl rfl rfl (fun L185 hL185 => ?_)
                refine WO.cls (C' := St w0 m m9 [L12, L17, L111, L185]) (fun _ h => h) ?_
                refine WO_end ?_
                refine WK_blk ?_
                refine WK_region ?_
                refine WO_pure tbok 6 [(0, .slice a114 ((y_25).length) c115), (2, .int .i64 (w64 (s_27 + 1))), (3, .int .i64 (w64 (s_28 - 1)))] rfl ⟨rfl, rfl, rfl, trivial⟩ ?_
                refine WO_end ?_
                cases hm126
                refine WK.sub ?_ (WK.cls (fun _ h => h) (hn129 _ L185 rfl hL185))
                exact ⟨rfl, rfl, rfl, trivial⟩
              · have hm126 := ifF hb176 hm126
                refine WK_exit rfl ?_
                cases hm126
                refine WK.sub ?_ (WK.cls (fun _ h => h) (hk125 (l_26, L120) ⟨(hd130 _ rfl), hL120⟩))
                exact trivial
          · have hm36 := ifF hb100 hm36
            refine WK_exit rfl ?_
            cases hm36
            refine WK.sub ?_ (WK.cls (fun _ h => h) (hk35 ((l_3, l_4), (m9, a13, _, c15, L12, a18, _, c20, L17)) ⟨(hd40 _ rfl), hle10, hL12, hL17⟩))
            exact ⟨rfl, rfl, rfl, rfl, rfl, trivial⟩
    · refine WK_region ?_
      refine WO_pure tbok 1 [(0, .slice a_p0 p0.length c_p0), (1, .int .i64 p1), (2, .int .u8 p2), (6, .bool false), (22, .slice a_p0 p0.length c_p0)] rfl ⟨rfl, rfl, rfl, rfl, rfl, trivial⟩ ?_
      obtain ⟨y_37, hc187, hx4⟩ := bind_some hx4
      refine WO_call0 (.bool y_37) rfl rfl trivial rfl rfl rfl rfl St_closed ⟨12, #[], #[], rfl, callable_12, fun w hw => ⟨_, hw.sat, fiduciallaw50_Few_walk h_p0 hc187⟩⟩ ?_
      refine WO_pure tbok 2 [(0, .slice a_p0 p0.length c_p0), (1, .int .i64 p1), (2, .int .u8 p2), (6, .bool false), (25, .bool (!y_37))] rfl ⟨rfl, rfl, rfl, rfl, rfl, trivial⟩ ?_
      refine WO_split (d := 25) (b := !y_37) rfl (fun hb188 => ?_) (fun hb188 => ?_)
      · have hx4 := ifT hb188 hx4
        refine WO_pure tbok 1 [(0, .slice a_p0 p0.length c_p0), (1, .int .i64 p1), (2, .int .u8 p2), (6, .bool false), (25, .bool true)] rfl ⟨rfl, rfl, rfl, rfl, rfl, trivial⟩ ?_
        refine WO_skip rfl rfl ?_
        refine WO_pure tbok 12 [(0, .slice a_p0 p0.length c_p0), (1, .int .i64 p1), (2, .int .u8 p2), (6, .bool false), (39, .bool true)] rfl ⟨rfl, rfl, rfl, rfl, rfl, trivial⟩ ?_
        refine WO_end ?_
        cases hx4
        refine WK.sub ?_ (WK.cls (fun _ h => h) hk5)
        exact ⟨rfl, rfl, rfl, rfl, rfl, trivial⟩
      · have hx4 := ifF hb188 hx4
        refine WO_pure tbok 1 [(0, .slice a_p0 p0.length c_p0), (1, .int .i64 p1), (2, .int .u8 p2), (6, .bool false), (25, .bool false), (26, .slice a_p0 p0.length c_p0)] rfl ⟨rfl, rfl, rfl, rfl, rfl, rfl, trivial⟩ ?_
        obtain ⟨y_38, hc189, hx4⟩ := bind_some hx4
        refine WO_call0 (.int .i64 y_38) rfl rfl trivial rfl rfl rfl rfl St_closed ⟨17, #[], #[], rfl, callable_17, fun w hw => ⟨_, hw.sat, fiduciallaw50_Checked_walk h_p0 hc189⟩⟩ ?_
        refine WO_pure tbok 3 [(0, .slice a_p0 p0.length c_p0), (1, .int .i64 p1), (2, .int .u8 p2), (6, .bool false), (30, .bool (y_38 != 0))] rfl ⟨rfl, rfl, rfl, rfl, rfl, trivial⟩ ?_
        refine WO_split (d := 30) (b := y_38 != 0) rfl (fun hb190 => ?_) (fun hb190 => ?_)
        · have hx4 := ifT hb190 hx4
          refine WO_pure tbok 9 [(0, .slice a_p0 p0.length c_p0), (1, .int .i64 p1), (2, .int .u8 p2), (6, .bool false), (39, .bool true)] rfl ⟨rfl, rfl, rfl, rfl, rfl, trivial⟩ ?_
          refine WO_end ?_
          cases hx4
          refine WK.sub ?_ (WK.cls (fun _ h => h) hk5)
          exact ⟨rfl, rfl, rfl, rfl, rfl, trivial⟩
        · have hx4 := ifF hb190 hx4
          refine WO_pure tbok 4 [(0, .slice a_p0 p0.length c_p0), (1, .int .i64 p1), (2, .int .u8 p2), (6, .bool false), (34, .bool (decide (p1 < 0)))] rfl ⟨rfl, rfl, rfl, rfl, rfl, trivial⟩ ?_
          refine WO_split (d := 34) (b := decide (p1 < 0)) rfl (fun hb191 => ?_) (fun hb191 => ?_)
          · have hx4 := ifT hb191 hx4
            refine WO_pure tbok 5 [(0, .slice a_p0 p0.length c_p0), (1, .int .i64 p1), (2, .int .u8 p2), (6, .bool false), (39, .bool true)] rfl ⟨rfl, rfl, rfl, rfl, rfl, trivial⟩ ?_
            refine WO_end ?_
            cases hx4
            refine WK.sub ?_ (WK.cls (fun _ h => h) hk5)
            exact ⟨rfl, rfl, rfl, rfl, rfl, trivial⟩
          · have hx4 := ifF hb191 hx4
            refine WO_pure tbok 5 [(0, .slice a_p0 p0.length c_p0), (1, .int .i64 p1), (2, .int .u8 p2), (6, .bool false), (39, .bool (decide ((p0.length : Int) ≤ p1)))] rfl ⟨rfl, rfl, rfl, rfl, rfl, trivial⟩ ?_
            refine WO_end ?_
            cases hx4
            refine WK.sub ?_ (WK.cls (fun _ h => h) hk5)
            exact ⟨rfl, rfl, rfl, rfl, rfl, trivial⟩
theorem fiduciallaw50_none_walk {m : Mu} {p0_0 : List Int} {p0_1 : Int} {p0_2 : List (List Int)} {a_p0_0 : Option Addr} {q_p0_0 c_p0_0 : Nat} {a_p0_2 : Option Addr} {q_p0_2 c_p0_2 : Nat} (h_p0_0 : SlR (FE (I1 .i64)) 1 m (.slice a_p0_0 q_p0_0 c_p0_0) p0_0) (h_p0_2 : SlR (RowE (FE (I1 .i64)) 1) 1 m (.slice a_p0_2 q_p0_2 c_p0_2) p0_2) {r : Bool} (hm : fiduciallaw50_none p0_0 p0_1 p0_2 = some r) :
    Go.E.Spec Try.prog 22 [.agg #[.slice a_p0_0 q_p0_0 c_p0_0, .int .i64 p0_1, .slice a_p0_2 q_p0_2 c_p0_2]] m (fun v _ _ => v = .bool r) := by
  refine Spec_enter Try.func22 rfl rfl rfl (fun w0 => ?_)
  refine WK.sub (e' := [(0, .agg #[.slice a_p0_0 q_p0_0 c_p0_0, .int .i64 p0_1, .slice a_p0_2 q_p0_2 c_p0_2])]) ⟨rfl, trivial⟩ ?_
  obtain rfl := SlR.qlen h_p0_0
  obtain rfl := SlR.qlen h_p0_2
  refine WK.sub (e' := [(0, .agg #[.slice a_p0_0 p0_0.length c_p0_0, .int .i64 p0_1, .slice a_p0_2 p0_2.length c_p0_2])]) ⟨rfl, trivial⟩ ?_
  unfold fiduciallaw50_none at hm
  refine WK_seq ?_
  refine WK_region ?_
  refine WO_box [.slice a_p0_0 p0_0.length c_p0_0, .int .i64 p0_1, .slice a_p0_2 p0_2.length c_p0_2] rfl rfl trivial rfl rfl rfl (fun b3 => ?_)
  refine WO.cls (C' := St w0 m m [[⟨b3, 25, [.slice a_p0_0 p0_0.length c_p0_0, .int .i64 p0_1, .slice a_p0_2 p0_2.length c_p0_2]⟩]]) (fun _ h => h) ?_
  refine WO_pure tbok 1 [(1, .pointer (some ⟨b3, 0, none⟩)), (2, .bool false)] rfl ⟨rfl, rfl, trivial⟩ ?_
  refine WO_end ?_
  refine WK_seq ?_
  refine WK_region ?_
  refine WO_pure tbok 1 [(1, .pointer (some ⟨b3, 0, none⟩)), (2, .bool false), (3, .pointer (some ⟨b3, 0, none⟩))] rfl ⟨rfl, rfl, rfl, trivial⟩ ?_
  refine WO_loadB tbok 0 rfl rfl rfl rfl (fun _ h => h) rfl rfl ?_
  refine WO_pure tbok 3 [(1, .pointer (some ⟨b3, 0, none⟩)), (2, .bool false), (7, .bool ((p0_0.length : Int) == 0))] rfl ⟨rfl, rfl, rfl, trivial⟩ ?_
  refine WO_split (d := 7) (b := (p0_0.length : Int) == 0) rfl (fun hb4 => ?_) (fun hb4 => ?_)
  · have hm := ifT hb4 hm
    refine WO_pure tbok 1 [(1, .pointer (some ⟨b3, 0, none⟩)), (2, .bool false), (7, .bool true), (8, .pointer (some ⟨b3, 1, none⟩))] rfl ⟨rfl, rfl, rfl, rfl, trivial⟩ ?_
    refine WO_loadB tbok 0 rfl rfl rfl rfl (fun _ h => h) rfl rfl ?_
    refine WO_pure tbok 3 [(1, .pointer (some ⟨b3, 0, none⟩)), (2, .bool false), (12, .bool (p0_1 == 0))] rfl ⟨rfl, rfl, rfl, trivial⟩ ?_
    refine WO_split (d := 12) (b := p0_1 == 0) rfl (fun hb5 => ?_) (fun hb5 => ?_)
    · have hm := ifT hb5 hm
      refine WO_pure tbok 1 [(2, .bool false), (12, .bool true), (13, .pointer (some ⟨b3, 2, none⟩))] rfl ⟨rfl, rfl, rfl, trivial⟩ ?_
      refine WO_loadB tbok 0 rfl rfl rfl rfl (fun _ h => h) rfl rfl ?_
      refine WO_pure tbok 4 [(2, .bool ((p0_2.length : Int) == 0))] rfl ⟨rfl, trivial⟩ ?_
      refine WO_end ?_
      cases hm
      exact WK_ret (ret_out (L := []) (RLc_tmp rfl RLc_nil) (List.nil_sublist _) rfl)
    · have hm := ifF hb5 hm
      refine WO_pure tbok 6 [(2, .bool false)] rfl ⟨rfl, trivial⟩ ?_
      refine WO_end ?_
      cases hm
      exact WK_ret (ret_out (L := []) (RLc_tmp rfl RLc_nil) (List.nil_sublist _) rfl)
  · have hm := ifF hb4 hm
    refine WO_pure tbok 11 [(2, .bool false)] rfl ⟨rfl, trivial⟩ ?_
    refine WO_end ?_
    cases hm
    exact WK_ret (ret_out (L := []) (RLc_tmp rfl RLc_nil) (List.nil_sublist _) rfl)
end Go.Proofs.Ytomlpofoaokmdaa
