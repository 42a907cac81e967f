import Derived.Test.YtgakaghdiodakaaTab
import Derived.Test.YtgakaghdiodakaaM
import Derived.Test.YtgakaghdiodakaaW3
set_option linter.unusedVariables false
set_option maxRecDepth 100000
set_option maxHeartbeats 4000000
namespace Go.Proofs.Ytgakaghdiodakaa
open Go.E Go.RowKit
attribute [local irreducible] Go.E.WO Go.E.WK
theorem aggregate_grid_walk {m : Mu} {p0_0 : Int} {p0_1 : Int} {p0_2 : Int} {p0_3 : List Int} {p1 : Int} {p2 : Int} {a_p0_3 : Option Addr} {q_p0_3 c_p0_3 : Nat} (h_p0_3 : SlR (FE (I1 .i64)) 1 m (.slice a_p0_3 q_p0_3 c_p0_3) p0_3) {r : Int} (hm : aggregate_grid p0_0 p0_1 p0_2 p0_3 p1 p2 = some r) :
    Go.E.Spec Try.prog 47 [.agg #[.int .i64 p0_0, .int .i64 p0_1, .int .i64 p0_2, .slice a_p0_3 q_p0_3 c_p0_3], .int .i64 p1, .int .i64 p2] m (fun v _ _ => v = .int .i64 r) := by
  refine Spec_enter Try.func47 rfl rfl rfl (fun w0 => ?_)
  refine WK.sub (e' := [(0, .agg #[.int .i64 p0_0, .int .i64 p0_1, .int .i64 p0_2, .slice a_p0_3 q_p0_3 c_p0_3]), (1, .int .i64 p1), (2, .int .i64 p2)]) ⟨rfl, rfl, rfl, trivial⟩ ?_
  obtain rfl := SlR.qlen h_p0_3
  refine WK.sub (e' := [(0, .agg #[.int .i64 p0_0, .int .i64 p0_1, .int .i64 p0_2, .slice a_p0_3 p0_3.length c_p0_3]), (1, .int .i64 p1), (2, .int .i64 p2)]) ⟨rfl, rfl, rfl, trivial⟩ ?_
  unfold aggregate_grid at hm
  refine WK_seq ?_
  refine WK_region ?_
  refine WO_box [.int .i64 p0_0, .int .i64 p0_1, .int .i64 p0_2, .slice a_p0_3 p0_3.length c_p0_3] rfl rfl trivial rfl rfl rfl (fun b1 => ?_)
  refine WO.cls (C' := St w0 m m [[⟨b1, 50, [.int .i64 p0_0, .int .i64 p0_1, .int .i64 p0_2, .slice a_p0_3 p0_3.length c_p0_3]⟩]]) (fun _ h => h) ?_
  refine WO_pure tbok 1 [(1, .int .i64 p1), (2, .int .i64 p2), (3, .pointer (some ⟨b1, 0, none⟩)), (6, .int .i64 0)] rfl ⟨rfl, rfl, rfl, rfl, trivial⟩ ?_
  refine WO_end ?_
  refine WK_seq ?_
  refine WK_seq ?_
  refine WK_region ?_
  refine WO_loadB tbok 0 rfl rfl rfl rfl (fun _ h => h) rfl rfl ?_
  obtain ⟨y_1, hc2, hm⟩ := bind_some hm
  refine WO_call0 (.int .i64 y_1) rfl rfl trivial rfl rfl rfl rfl St_closed ⟨61, #[], #[], rfl, callable_61, fun w hw => ⟨_, hw.sat, census_Check_walk h_p0_3 hc2⟩⟩ ?_
  refine WO_pure tbok 1 [(1, .int .i64 p1), (2, .int .i64 p2), (6, .int .i64 0), (7, .int .i64 y_1)] rfl ⟨rfl, rfl, rfl, rfl, trivial⟩ ?_
  refine WO_end ?_
  refine WK_seq ?_
  refine WK_region ?_
  refine WO_pure tbok 2 [(1, .int .i64 p1), (2, .int .i64 p2), (6, .int .i64 0), (7, .int .i64 y_1), (11, .bool (y_1 != 0))] rfl ⟨rfl, rfl, rfl, rfl, rfl, trivial⟩ ?_
  refine WO_end ?_
  refine WK_cond (b := y_1 != 0) rfl (fun hb3 => ?_) (fun hb3 => ?_)
  · have hm := ifT hb3 hm
    refine WK_seq ?_
    refine WK_region ?_
    refine WO_pure tbok 2 [(1, .int .i64 p1), (2, .int .i64 p2), (6, .int .i64 y_1)] rfl ⟨rfl, rfl, rfl, trivial⟩ ?_
    refine WO_end ?_
    cases hm
    exact WK_ret (ret_out (L := []) (RLc_tmp rfl RLc_nil) (List.nil_sublist _) rfl)
  · have hm := ifF hb3 hm
    refine WK_skip ?_
    refine WK_seq ?_
    refine WK_region ?_
    refine WO_pure tbok 2 [(6, .int .i64 0), (13, .int .i64 p1), (14, .int .i64 p2)] rfl ⟨rfl, rfl, rfl, trivial⟩ ?_
    obtain ⟨y_2, hc4, hm⟩ := bind_some hm
    refine WO_call0 (.int .i64 y_2) rfl rfl trivial rfl rfl rfl rfl St_closed ⟨57, #[], #[], rfl, callable_57, fun w hw => ⟨_, hw.sat, aggregate_penalties_walk hc4⟩⟩ ?_
    refine WO_pure tbok 1 [(6, .int .i64 y_2)] rfl ⟨rfl, trivial⟩ ?_
    refine WO_end ?_
    cases hm
    exact WK_ret (ret_out (L := []) (RLc_tmp rfl RLc_nil) (List.nil_sublist _) rfl)
theorem aggregate_Grid_walk {m : Mu} {p0_0 : Int} {p0_1 : Int} {p0_2 : Int} {p0_3 : List Int} {p1 : Int} {p2 : Int} {p3 : List Int} {a_p0_3 : Option Addr} {q_p0_3 c_p0_3 : Nat} {a_p3 : Option Addr} {q_p3 c_p3 : Nat} (h_p0_3 : SlR (FE (I1 .i64)) 1 m (.slice a_p0_3 q_p0_3 c_p0_3) p0_3) (h_p3 : SlR (FE (I1 .i64)) 1 m (.slice a_p3 q_p3 c_p3) p3) {r : Int × Int} (hm : aggregate_Grid p0_0 p0_1 p0_2 p0_3 p1 p2 p3 = some r) :
    Go.E.Spec Try.prog 24 [.agg #[.int .i64 p0_0, .int .i64 p0_1, .int .i64 p0_2, .slice a_p0_3 q_p0_3 c_p0_3], .int .i64 p1, .int .i64 p2, .slice a_p3 q_p3 c_p3] m (fun v _ _ => v = .tuple #[.int .i64 r.1, .int .i64 r.2]) := by
  refine Spec_enter Try.func24 rfl rfl rfl (fun w0 => ?_)
  refine WK.sub (e' := [(0, .agg #[.int .i64 p0_0, .int .i64 p0_1, .int .i64 p0_2, .slice a_p0_3 q_p0_3 c_p0_3]), (1, .int .i64 p1), (2, .int .i64 p2), (3, .slice a_p3 q_p3 c_p3)]) ⟨rfl, rfl, rfl, rfl, trivial⟩ ?_
  obtain rfl := SlR.qlen h_p0_3
  obtain rfl := SlR.qlen h_p3
  refine WK.sub (e' := [(0, .agg #[.int .i64 p0_0, .int .i64 p0_1, .int .i64 p0_2, .slice a_p0_3 p0_3.length c_p0_3]), (1, .int .i64 p1), (2, .int .i64 p2), (3, .slice a_p3 p3.length c_p3)]) ⟨rfl, rfl, rfl, rfl, trivial⟩ ?_
  unfold aggregate_Grid at hm
  refine WK_seq ?_
  refine WK_region ?_
  refine WO_box [.int .i64 p0_0, .int .i64 p0_1, .int .i64 p0_2, .slice a_p0_3 p0_3.length c_p0_3] rfl rfl trivial rfl rfl rfl (fun b1 => ?_)
  refine WO.cls (C' := St w0 m m [[⟨b1, 50, [.int .i64 p0_0, .int .i64 p0_1, .int .i64 p0_2, .slice a_p0_3 p0_3.length c_p0_3]⟩]]) (fun _ h => h) ?_
  refine WO_pure tbok 2 [(1, .int .i64 p1), (2, .int .i64 p2), (3, .slice a_p3 p3.length c_p3), (4, .pointer (some ⟨b1, 0, none⟩)), (8, .int .i64 0), (9, .int .i64 0)] rfl ⟨rfl, rfl, rfl, rfl, rfl, rfl, trivial⟩ ?_
  refine WO_end ?_
  refine WK_seq ?_
  refine WK_seq ?_
  refine WK_region ?_
  refine WO_loadB tbok 0 rfl rfl rfl rfl (fun _ h => h) rfl rfl ?_
  refine WO_pure tbok 2 [(1, .int .i64 p1), (2, .int .i64 p2), (3, .slice a_p3 p3.length c_p3), (4, .pointer (some ⟨b1, 0, none⟩)), (8, .int .i64 0), (9, .int .i64 0), (15, .agg #[.int .i64 p0_0, .int .i64 p0_1, .int .i64 p0_2, .slice a_p0_3 p0_3.length c_p0_3]), (16, .int .i64 p1), (17, .int .i64 p2)] rfl ⟨rfl, rfl, rfl, rfl, rfl, rfl, rfl, rfl, rfl, trivial⟩ ?_
  obtain ⟨y_1, hc2, hm⟩ := bind_some hm
  refine WO_call0 (.int .i64 y_1) rfl rfl trivial rfl rfl rfl rfl St_closed ⟨47, #[], #[], rfl, callable_47, fun w hw => ⟨_, hw.sat, aggregate_grid_walk h_p0_3 hc2⟩⟩ ?_
  refine WO_pure tbok 1 [(1, .int .i64 p1), (2, .int .i64 p2), (3, .slice a_p3 p3.length c_p3), (4, .pointer (some ⟨b1, 0, none⟩)), (8, .int .i64 0), (9, .int .i64 0), (10, .int .i64 y_1)] rfl ⟨rfl, rfl, rfl, rfl, rfl, rfl, rfl, trivial⟩ ?_
  refine WO_end ?_
  refine WK_seq ?_
  refine WK_region ?_
  refine WO_pure tbok 2 [(1, .int .i64 p1), (2, .int .i64 p2), (3, .slice a_p3 p3.length c_p3), (4, .pointer (some ⟨b1, 0, none⟩)), (8, .int .i64 0), (9, .int .i64 0), (10, .int .i64 y_1), (20, .bool (y_1 != 0))] rfl ⟨rfl, rfl, rfl, rfl, rfl, rfl, rfl, rfl, trivial⟩ ?_
  refine WO_end ?_
  refine WK_cond (b := y_1 != 0) rfl (fun hb3 => ?_) (fun hb3 => ?_)
  · have hm := ifT hb3 hm
    refine WK_seq ?_
    refine WK_region ?_
    refine WO_pure tbok 3 [(1, .int .i64 p1), (2, .int .i64 p2), (3, .slice a_p3 p3.length c_p3), (4, .pointer (some ⟨b1, 0, none⟩)), (8, .int .i64 0), (9, .int .i64 y_1)] rfl ⟨rfl, rfl, rfl, rfl, rfl, rfl, trivial⟩ ?_
    refine WO_end ?_
    cases hm
    exact WK_ret (ret_out (L := []) (RLc_tmp rfl (RLc_tmp rfl RLc_nil)) (List.nil_sublist _) rfl)
  · have hm := ifF hb3 hm
    refine WK_skip ?_
    refine WK_seq ?_
    refine WK_seq ?_
    refine WK_region ?_
    refine WO_pure tbok 2 [(1, .int .i64 p1), (2, .int .i64 p2), (3, .slice a_p3 p3.length c_p3), (4, .pointer (some ⟨b1, 0, none⟩)), (8, .int .i64 0), (9, .int .i64 0), (22, .slice a_p3 p3.length c_p3), (23, .pointer (some ⟨b1, 0, none⟩))] rfl ⟨rfl, rfl, rfl, rfl, rfl, rfl, rfl, rfl, trivial⟩ ?_
    refine WO_loadB tbok 0 rfl rfl rfl rfl (fun _ h => h) rfl rfl ?_
    refine WO_pure tbok 1 [(1, .int .i64 p1), (2, .int .i64 p2), (3, .slice a_p3 p3.length c_p3), (4, .pointer (some ⟨b1, 0, none⟩)), (8, .int .i64 0), (9, .int .i64 0), (22, .slice a_p3 p3.length c_p3), (24, .int .i64 p0_0), (25, .pointer (some ⟨b1, 1, none⟩))] rfl ⟨rfl, rfl, rfl, rfl, rfl, rfl, rfl, rfl, rfl, trivial⟩ ?_
    refine WO_loadB tbok 0 rfl rfl rfl rfl (fun _ h => h) rfl rfl ?_
    refine WO_pure tbok 2 [(1, .int .i64 p1), (2, .int .i64 p2), (3, .slice a_p3 p3.length c_p3), (4, .pointer (some ⟨b1, 0, none⟩)), (8, .int .i64 0), (9, .int .i64 0), (22, .slice a_p3 p3.length c_p3), (27, .int .i64 (w64 (p0_0 * p0_1))), (28, .pointer (some ⟨b1, 2, none⟩))] rfl ⟨rfl, rfl, rfl, rfl, rfl, rfl, rfl, rfl, rfl, trivial⟩ ?_
    refine WO_loadB tbok 0 rfl rfl rfl rfl (fun _ h => h) rfl rfl ?_
    obtain ⟨y_2, hc4, hm⟩ := bind_some hm
    refine WO_call0 (.int .i64 y_2) rfl rfl trivial rfl rfl rfl rfl St_closed ⟨46, #[], #[], rfl, callable_46, fun w hw => ⟨_, hw.sat, aggregate_labelled_walk h_p3 hc4⟩⟩ ?_
    refine WO_pure tbok 1 [(1, .int .i64 p1), (2, .int .i64 p2), (3, .slice a_p3 p3.length c_p3), (4, .pointer (some ⟨b1, 0, none⟩)), (8, .int .i64 0), (9, .int .i64 0), (11, .int .i64 y_2)] rfl ⟨rfl, rfl, rfl, rfl, rfl, rfl, rfl, trivial⟩ ?_
    refine WO_end ?_
    refine WK_seq ?_
    refine WK_region ?_
    refine WO_pure tbok 2 [(1, .int .i64 p1), (2, .int .i64 p2), (3, .slice a_p3 p3.length c_p3), (4, .pointer (some ⟨b1, 0, none⟩)), (8, .int .i64 0), (9, .int .i64 0), (11, .int .i64 y_2), (32, .bool (y_2 != 0))] rfl ⟨rfl, rfl, rfl, rfl, rfl, rfl, rfl, rfl, trivial⟩ ?_
    refine WO_end ?_
    refine WK_cond (b := y_2 != 0) rfl (fun hb5 => ?_) (fun hb5 => ?_)
    · have hm := ifT hb5 hm
      refine WK_seq ?_
      refine WK_region ?_
      refine WO_pure tbok 3 [(1, .int .i64 p1), (2, .int .i64 p2), (3, .slice a_p3 p3.length c_p3), (4, .pointer (some ⟨b1, 0, none⟩)), (8, .int .i64 0), (9, .int .i64 y_2)] rfl ⟨rfl, rfl, rfl, rfl, rfl, rfl, trivial⟩ ?_
      refine WO_end ?_
      cases hm
      exact WK_ret (ret_out (L := []) (RLc_tmp rfl (RLc_tmp rfl RLc_nil)) (List.nil_sublist _) rfl)
    · have hm := ifF hb5 hm
      refine WK_skip ?_
      refine WK_seq ?_
      refine WK_region ?_
      refine WO_pure tbok 1 [(1, .int .i64 p1), (2, .int .i64 p2), (3, .slice a_p3 p3.length c_p3), (4, .pointer (some ⟨b1, 0, none⟩)), (8, .int .i64 0), (9, .int .i64 0), (12, .int .i64 0)] rfl ⟨rfl, rfl, rfl, rfl, rfl, rfl, rfl, trivial⟩ ?_
      refine WO_end ?_
      refine WK_seq ?_
      refine WK_seq ?_
      refine WK_region ?_
      refine WO_pure tbok 3 [(1, .int .i64 p1), (2, .int .i64 p2), (3, .slice a_p3 p3.length c_p3), (4, .pointer (some ⟨b1, 0, none⟩)), (8, .int .i64 0), (9, .int .i64 0), (12, .int .i64 0), (34, .slice a_p3 p3.length c_p3), (35, .int .i64 (p3.length : Int)), (36, .int .i64 0)] rfl ⟨rfl, rfl, rfl, rfl, rfl, rfl, rfl, rfl, rfl, rfl, trivial⟩ ?_
      refine WO_end ?_
      obtain ⟨x6, hx7, hm⟩ := bind_some hm
      refine WK_join (β := Int × Unit) (fun p => p.1 = x6) (fun p => [(8, .int .i64 0), (9, .int .i64 0), (12, .int .i64 p.1)]) (fun p => St w0 m m [[⟨b1, 50, [.int .i64 p0_0, .int .i64 p0_1, .int .i64 p0_2, .slice a_p0_3 p0_3.length c_p0_3]⟩]]) ?_ (fun hk8 => ?_)
      · rintro ⟨s_5, ⟨⟩⟩ hq14
        subst hq14
        refine WK.sub (e' := [(8, .int .i64 0), (9, .int .i64 0), (12, .int .i64 s_5)]) ⟨rfl, rfl, rfl, trivial⟩ (WK.cls (C' := St w0 m m [[⟨b1, 50, [.int .i64 p0_0, .int .i64 p0_1, .int .i64 p0_2, .slice a_p0_3 p0_3.length c_p0_3]⟩]]) (fun _ h => h) ?_)
        refine WK_seq ?_
        refine WK_region ?_
        refine WO_pure tbok 3 [(8, .int .i64 s_5), (9, .int .i64 0)] rfl ⟨rfl, rfl, trivial⟩ ?_
        refine WO_end ?_
        cases hm
        exact WK_ret (ret_out (L := []) (RLc_tmp rfl (RLc_tmp rfl RLc_nil)) (List.nil_sublist _) rfl)
      · refine WK_block ?_
        refine WK_loop (S := Int × Int) (G := Unit) (fun s => aggregate_Grid_s1 p0_0 p0_2 p0_3 p1 p2 p3 s.1 s.2) (fun s g => [(1, .int .i64 p1), (2, .int .i64 p2), (3, .slice a_p3 p3.length c_p3), (4, .pointer (some ⟨b1, 0, none⟩)), (8, .int .i64 0), (9, .int .i64 0), (12, .int .i64 s.1), (34, .slice a_p3 p3.length c_p3), (35, .int .i64 (p3.length : Int)), (36, .int .i64 s.2)]) (fun s g => St w0 m m [[⟨b1, 50, [.int .i64 p0_0, .int .i64 p0_1, .int .i64 p0_2, .slice a_p0_3 p0_3.length c_p0_3]⟩]]) (fun s g => True) FUEL (0, 0) () x6 hx7 trivial ⟨rfl, rfl, rfl, rfl, rfl, rfl, rfl, rfl, rfl, rfl, trivial⟩ (fun _ h => h) ?_
        rintro ⟨s_3, s_4⟩ ⟨⟩ o10 fl11 hm9 - hn12 hd13
        have hm9 : aggregate_Grid_s1 p0_0 p0_2 p0_3 p1 p2 p3 s_3 s_4 = some o10 := hm9
        unfold aggregate_Grid_s1 at hm9
        refine WK.sub (e' := [(1, .int .i64 p1), (2, .int .i64 p2), (3, .slice a_p3 p3.length c_p3), (4, .pointer (some ⟨b1, 0, none⟩)), (8, .int .i64 0), (9, .int .i64 0), (12, .int .i64 s_3), (34, .slice a_p3 p3.length c_p3), (35, .int .i64 (p3.length : Int)), (36, .int .i64 s_4)]) ⟨rfl, rfl, rfl, rfl, rfl, rfl, rfl, rfl, rfl, rfl, trivial⟩ (WK.cls (C' := St w0 m m [[⟨b1, 50, [.int .i64 p0_0, .int .i64 p0_1, .int .i64 p0_2, .slice a_p0_3 p0_3.length c_p0_3]⟩]]) (fun _ h => h) ?_)
        refine WK_seq ?_
        refine WK_region ?_
        refine WO_pure tbok 1 [(1, .int .i64 p1), (2, .int .i64 p2), (3, .slice a_p3 p3.length c_p3), (4, .pointer (some ⟨b1, 0, none⟩)), (8, .int .i64 0), (9, .int .i64 0), (12, .int .i64 s_3), (34, .slice a_p3 p3.length c_p3), (35, .int .i64 (p3.length : Int)), (36, .int .i64 s_4), (37, .bool (decide (s_4 < (p3.length : Int))))] rfl ⟨rfl, rfl, rfl, rfl, rfl, rfl, rfl, rfl, rfl, rfl, rfl, trivial⟩ ?_
        refine WO_end ?_
        refine WK_seq ?_
        refine WK_cond (b := decide (s_4 < (p3.length : Int))) rfl (fun hb15 => ?_) (fun hb15 => ?_)
        · have hm9 := ifT hb15 hm9
          refine WK_skip ?_
          refine WK_seq ?_
          refine WK_block ?_
          refine WK_seq ?_
          refine WK_region ?_
          refine WO_pure tbok 1 [(1, .int .i64 p1), (2, .int .i64 p2), (3, .slice a_p3 p3.length c_p3), (4, .pointer (some ⟨b1, 0, none⟩)), (8, .int .i64 0), (9, .int .i64 0), (12, .int .i64 s_3), (34, .slice a_p3 p3.length c_p3), (35, .int .i64 (p3.length : Int)), (36, .int .i64 s_4), (38, .int .i64 s_4)] rfl ⟨rfl, rfl, rfl, rfl, rfl, rfl, rfl, rfl, rfl, rfl, rfl, trivial⟩ ?_
          obtain ⟨v_6, hy16, hm9⟩ := bind_some hm9
          obtain ⟨hc17, hy16⟩ := ix_some hy16
          refine WO_index tbok rfl rfl rfl rfl rfl rfl rfl rfl (SlR.addr h_p3) hc17 ?_
          refine WO_loadE tbok rfl rfl rfl rfl (fun _ h => St.sat h) h_p3 hy16 rfl ?_
          refine WO_pure tbok 2 [(1, .int .i64 p1), (2, .int .i64 p2), (3, .slice a_p3 p3.length c_p3), (4, .pointer (some ⟨b1, 0, none⟩)), (8, .int .i64 0), (9, .int .i64 0), (12, .int .i64 s_3), (13, .int .i64 s_4), (14, .int .i64 v_6), (34, .slice a_p3 p3.length c_p3), (35, .int .i64 (p3.length : Int)), (36, .int .i64 s_4)] rfl ⟨rfl, rfl, rfl, rfl, rfl, rfl, rfl, rfl, rfl, rfl, rfl, rfl, trivial⟩ ?_
          refine WO_end ?_
          refine WK_seq ?_
          refine WK_region ?_
          refine WO_pure tbok 2 [(1, .int .i64 p1), (2, .int .i64 p2), (3, .slice a_p3 p3.length c_p3), (4, .pointer (some ⟨b1, 0, none⟩)), (8, .int .i64 0), (9, .int .i64 0), (12, .int .i64 s_3), (13, .int .i64 s_4), (14, .int .i64 v_6), (34, .slice a_p3 p3.length c_p3), (35, .int .i64 (p3.length : Int)), (36, .int .i64 s_4), (41, .int .i64 s_3), (42, .pointer (some ⟨b1, 3, none⟩))] rfl ⟨rfl, rfl, rfl, rfl, rfl, rfl, rfl, rfl, rfl, rfl, rfl, rfl, rfl, rfl, trivial⟩ ?_
          refine WO_loadB tbok 0 rfl rfl rfl rfl (fun _ h => h) rfl rfl ?_
          refine WO_pure tbok 2 [(1, .int .i64 p1), (2, .int .i64 p2), (3, .slice a_p3 p3.length c_p3), (4, .pointer (some ⟨b1, 0, none⟩)), (8, .int .i64 0), (9, .int .i64 0), (12, .int .i64 s_3), (13, .int .i64 s_4), (14, .int .i64 v_6), (34, .slice a_p3 p3.length c_p3), (35, .int .i64 (p3.length : Int)), (36, .int .i64 s_4), (41, .int .i64 s_3), (43, .slice a_p0_3 p0_3.length c_p0_3), (44, .int .i64 s_4), (45, .pointer (some ⟨b1, 2, none⟩))] rfl ⟨rfl, rfl, rfl, rfl, rfl, rfl, rfl, rfl, rfl, rfl, rfl, rfl, rfl, rfl, rfl, rfl, trivial⟩ ?_
          refine WO_loadB tbok 0 rfl rfl rfl rfl (fun _ h => h) rfl rfl ?_
          refine WO_pure tbok 3 [(1, .int .i64 p1), (2, .int .i64 p2), (3, .slice a_p3 p3.length c_p3), (4, .pointer (some ⟨b1, 0, none⟩)), (8, .int .i64 0), (9, .int .i64 0), (12, .int .i64 s_3), (13, .int .i64 s_4), (14, .int .i64 v_6), (34, .slice a_p3 p3.length c_p3), (35, .int .i64 (p3.length : Int)), (36, .int .i64 s_4), (41, .int .i64 s_3), (43, .slice a_p0_3 p0_3.length c_p0_3), (49, .int .i64 (w64 ((w64 (s_4 * p0_2)) + v_6)))] rfl ⟨rfl, rfl, rfl, rfl, rfl, rfl, rfl, rfl, rfl, rfl, rfl, rfl, rfl, rfl, rfl, trivial⟩ ?_
          obtain ⟨v_7, hy18, hm9⟩ := bind_some hm9
          obtain ⟨hc19, hy18⟩ := ix_some hy18
          refine WO_index tbok rfl rfl rfl rfl rfl rfl rfl rfl (SlR.addr h_p0_3) hc19 ?_
          refine WO_loadE tbok rfl rfl rfl rfl (fun _ h => St.sat h) h_p0_3 hy18 rfl ?_
          refine WO_pure tbok 2 [(1, .int .i64 p1), (2, .int .i64 p2), (3, .slice a_p3 p3.length c_p3), (4, .pointer (some ⟨b1, 0, none⟩)), (8, .int .i64 0), (9, .int .i64 0), (12, .int .i64 (w64 (s_3 + v_7))), (13, .int .i64 s_4), (14, .int .i64 v_6), (34, .slice a_p3 p3.length c_p3), (35, .int .i64 (p3.length : Int)), (36, .int .i64 s_4)] rfl ⟨rfl, rfl, rfl, rfl, rfl, rfl, rfl, rfl, rfl, rfl, rfl, rfl, trivial⟩ ?_
          refine WO_end ?_
          refine WK_seq ?_
          refine WK_seq ?_
          refine WK_region ?_
          refine WO_pure tbok 2 [(1, .int .i64 p1), (2, .int .i64 p2), (3, .slice a_p3 p3.length c_p3), (4, .pointer (some ⟨b1, 0, none⟩)), (8, .int .i64 0), (9, .int .i64 0), (12, .int .i64 (w64 (s_3 + v_7))), (13, .int .i64 s_4), (14, .int .i64 v_6), (34, .slice a_p3 p3.length c_p3), (35, .int .i64 (p3.length : Int)), (36, .int .i64 s_4), (53, .int .i64 s_4), (54, .pointer (some ⟨b1, 0, none⟩))] rfl ⟨rfl, rfl, rfl, rfl, rfl, rfl, rfl, rfl, rfl, rfl, rfl, rfl, rfl, rfl, trivial⟩ ?_
          refine WO_loadB tbok 0 rfl rfl rfl rfl (fun _ h => h) rfl rfl ?_
          obtain ⟨hc20, hm9⟩ := chk_some hm9
          refine WO_rem rfl rfl rfl rfl rfl hc20 ?_
          refine WO_pure tbok 1 [(1, .int .i64 p1), (2, .int .i64 p2), (3, .slice a_p3 p3.length c_p3), (4, .pointer (some ⟨b1, 0, none⟩)), (8, .int .i64 0), (9, .int .i64 0), (12, .int .i64 (w64 (s_3 + v_7))), (13, .int .i64 s_4), (14, .int .i64 v_6), (34, .slice a_p3 p3.length c_p3), (35, .int .i64 (p3.length : Int)), (36, .int .i64 s_4), (57, .bool (decide (0 < (Int.tmod s_4 p0_0))))] rfl ⟨rfl, rfl, rfl, rfl, rfl, rfl, rfl, rfl, rfl, rfl, rfl, rfl, rfl, trivial⟩ ?_
          refine WO_end ?_
          obtain ⟨s_8, hx21, hm9⟩ := bind_some hm9
          refine WK_meet [(1, .int .i64 p1), (2, .int .i64 p2), (3, .slice a_p3 p3.length c_p3), (4, .pointer (some ⟨b1, 0, none⟩)), (8, .int .i64 0), (9, .int .i64 0), (12, .int .i64 s_8), (13, .int .i64 s_4), (14, .int .i64 v_6), (34, .slice a_p3 p3.length c_p3), (35, .int .i64 (p3.length : Int)), (36, .int .i64 s_4)] (St w0 m m [[⟨b1, 50, [.int .i64 p0_0, .int .i64 p0_1, .int .i64 p0_2, .slice a_p0_3 p0_3.length c_p0_3]⟩]]) ?_ (fun hk22 => ?_)
          · refine WK_seq ?_
            refine WK_region ?_
            refine WO_pure tbok 2 [(1, .int .i64 p1), (2, .int .i64 p2), (3, .slice a_p3 p3.length c_p3), (4, .pointer (some ⟨b1, 0, none⟩)), (8, .int .i64 0), (9, .int .i64 0), (12, .int .i64 s_8), (13, .int .i64 s_4), (14, .int .i64 v_6), (34, .slice a_p3 p3.length c_p3), (35, .int .i64 (p3.length : Int)), (36, .int .i64 s_4), (70, .int .i64 s_4), (71, .pointer (some ⟨b1, 0, none⟩))] rfl ⟨rfl, rfl, rfl, rfl, rfl, rfl, rfl, rfl, rfl, rfl, rfl, rfl, rfl, rfl, trivial⟩ ?_
            refine WO_loadB tbok 0 rfl rfl rfl rfl (fun _ h => h) rfl rfl ?_
            refine WO_pure tbok 1 [(1, .int .i64 p1), (2, .int .i64 p2), (3, .slice a_p3 p3.length c_p3), (4, .pointer (some ⟨b1, 0, none⟩)), (8, .int .i64 0), (9, .int .i64 0), (12, .int .i64 s_8), (13, .int .i64 s_4), (14, .int .i64 v_6), (34, .slice a_p3 p3.length c_p3), (35, .int .i64 (p3.length : Int)), (36, .int .i64 s_4), (73, .bool (decide (p0_0 ≤ s_4)))] rfl ⟨rfl, rfl, rfl, rfl, rfl, rfl, rfl, rfl, rfl, rfl, rfl, rfl, rfl, trivial⟩ ?_
            refine WO_end ?_
            obtain ⟨s_9, hx23, hm9⟩ := bind_some hm9
            refine WK_meet [(1, .int .i64 p1), (2, .int .i64 p2), (3, .slice a_p3 p3.length c_p3), (4, .pointer (some ⟨b1, 0, none⟩)), (8, .int .i64 0), (9, .int .i64 0), (12, .int .i64 s_9), (34, .slice a_p3 p3.length c_p3), (35, .int .i64 (p3.length : Int)), (36, .int .i64 s_4)] (St w0 m m [[⟨b1, 50, [.int .i64 p0_0, .int .i64 p0_1, .int .i64 p0_2, .slice a_p0_3 p0_3.length c_p0_3]⟩]]) ?_ (fun hk24 => ?_)
            · refine WK_blk ?_
              refine WK_region ?_
              refine WO_pure tbok 2 [(1, .int .i64 p1), (2, .int .i64 p2), (3, .slice a_p3 p3.length c_p3), (4, .pointer (some ⟨b1, 0, none⟩)), (8, .int .i64 0), (9, .int .i64 0), (12, .int .i64 s_9), (34, .slice a_p3 p3.length c_p3), (35, .int .i64 (p3.length : Int)), (36, .int .i64 (w64 (s_4 + 1)))] rfl ⟨rfl, rfl, rfl, rfl, rfl, rfl, rfl, rfl, rfl, rfl, trivial⟩ ?_
              refine WO_end ?_
              cases hm9
              refine WK.sub ?_ (WK.cls (fun _ h => h) (hn12 _ () rfl trivial))
              exact ⟨rfl, rfl, rfl, rfl, rfl, rfl, rfl, rfl, rfl, rfl, trivial⟩
            · refine WK_cond (b := decide (p0_0 ≤ s_4)) rfl (fun hb25 => ?_) (fun hb25 => ?_)
              · have hx23 := ifT hb25 hx23
                refine WK_region ?_
                refine WO_pure tbok 5 [(1, .int .i64 p1), (2, .int .i64 p2), (3, .slice a_p3 p3.length c_p3), (4, .pointer (some ⟨b1, 0, none⟩)), (8, .int .i64 0), (9, .int .i64 0), (12, .int .i64 s_8), (34, .slice a_p3 p3.length c_p3), (35, .int .i64 (p3.length : Int)), (36, .int .i64 s_4), (74, .int .i64 s_8), (75, .int .i64 v_6), (76, .slice a_p3 p3.length c_p3), (77, .int .i64 s_4), (78, .pointer (some ⟨b1, 0, none⟩))] rfl ⟨rfl, rfl, rfl, rfl, rfl, rfl, rfl, rfl, rfl, rfl, rfl, rfl, rfl, rfl, rfl, trivial⟩ ?_
                refine WO_loadB tbok 0 rfl rfl rfl rfl (fun _ h => h) rfl rfl ?_
                refine WO_pure tbok 1 [(1, .int .i64 p1), (2, .int .i64 p2), (3, .slice a_p3 p3.length c_p3), (4, .pointer (some ⟨b1, 0, none⟩)), (8, .int .i64 0), (9, .int .i64 0), (12, .int .i64 s_8), (34, .slice a_p3 p3.length c_p3), (35, .int .i64 (p3.length : Int)), (36, .int .i64 s_4), (74, .int .i64 s_8), (75, .int .i64 v_6), (76, .slice a_p3 p3.length c_p3), (80, .int .i64 (w64 (s_4 - p0_0)))] rfl ⟨rfl, rfl, rfl, rfl, rfl, rfl, rfl, rfl, rfl, rfl, rfl, rfl, rfl, rfl, trivial⟩ ?_
                obtain ⟨v_10, hy26, hx23⟩ := bind_some hx23
                obtain ⟨hc27, hy26⟩ := ix_some hy26
                refine WO_index tbok rfl rfl rfl rfl rfl rfl rfl rfl (SlR.addr h_p3) hc27 ?_
                refine WO_loadE tbok rfl rfl rfl rfl (fun _ h => St.sat h) h_p3 hy26 rfl ?_
                refine WO_pure tbok 3 [(1, .int .i64 p1), (2, .int .i64 p2), (3, .slice a_p3 p3.length c_p3), (4, .pointer (some ⟨b1, 0, none⟩)), (8, .int .i64 0), (9, .int .i64 0), (12, .int .i64 s_8), (34, .slice a_p3 p3.length c_p3), (35, .int .i64 (p3.length : Int)), (36, .int .i64 s_4), (74, .int .i64 s_8), (83, .int .i64 (w64 (v_6 - v_10))), (84, .int .i64 p1), (85, .int .i64 p2)] rfl ⟨rfl, rfl, rfl, rfl, rfl, rfl, rfl, rfl, rfl, rfl, rfl, rfl, rfl, rfl, trivial⟩ ?_
                obtain ⟨y_11, hc28, hx23⟩ := bind_some hx23
                refine WO_call0 (.int .i64 y_11) rfl rfl trivial rfl rfl rfl rfl St_closed ⟨36, #[], #[], rfl, callable_36, fun w hw => ⟨_, hw.sat, aggregate_between_walk hc28⟩⟩ ?_
                refine WO_pure tbok 2 [(1, .int .i64 p1), (2, .int .i64 p2), (3, .slice a_p3 p3.length c_p3), (4, .pointer (some ⟨b1, 0, none⟩)), (8, .int .i64 0), (9, .int .i64 0), (12, .int .i64 (w64 (s_8 + y_11))), (34, .slice a_p3 p3.length c_p3), (35, .int .i64 (p3.length : Int)), (36, .int .i64 s_4)] rfl ⟨rfl, rfl, rfl, rfl, rfl, rfl, rfl, rfl, rfl, rfl, trivial⟩ ?_
                refine WO_end ?_
                cases hx23
                refine WK.sub ?_ (WK.cls (fun _ h => h) hk24)
                exact ⟨rfl, rfl, rfl, rfl, rfl, rfl, rfl, rfl, rfl, rfl, trivial⟩
              · have hx23 := ifF hb25 hx23
                refine WK_skip ?_
                cases hx23
                refine WK.sub ?_ (WK.cls (fun _ h => h) hk24)
                exact ⟨rfl, rfl, rfl, rfl, rfl, rfl, rfl, rfl, rfl, rfl, trivial⟩
          · refine WK_cond (b := decide (0 < (Int.tmod s_4 p0_0))) rfl (fun hb29 => ?_) (fun hb29 => ?_)
            · have hx21 := ifT hb29 hx21
              refine WK_region ?_
              refine WO_pure tbok 5 [(1, .int .i64 p1), (2, .int .i64 p2), (3, .slice a_p3 p3.length c_p3), (4, .pointer (some ⟨b1, 0, none⟩)), (8, .int .i64 0), (9, .int .i64 0), (12, .int .i64 (w64 (s_3 + v_7))), (13, .int .i64 s_4), (14, .int .i64 v_6), (34, .slice a_p3 p3.length c_p3), (35, .int .i64 (p3.length : Int)), (36, .int .i64 s_4), (58, .int .i64 (w64 (s_3 + v_7))), (59, .int .i64 v_6), (60, .slice a_p3 p3.length c_p3), (62, .int .i64 (w64 (s_4 - 1)))] rfl ⟨rfl, rfl, rfl, rfl, rfl, rfl, rfl, rfl, rfl, rfl, rfl, rfl, rfl, rfl, rfl, rfl, trivial⟩ ?_
              obtain ⟨v_12, hy30, hx21⟩ := bind_some hx21
              obtain ⟨hc31, hy30⟩ := ix_some hy30
              refine WO_index tbok rfl rfl rfl rfl rfl rfl rfl rfl (SlR.addr h_p3) hc31 ?_
              refine WO_loadE tbok rfl rfl rfl rfl (fun _ h => St.sat h) h_p3 hy30 rfl ?_
              refine WO_pure tbok 3 [(1, .int .i64 p1), (2, .int .i64 p2), (3, .slice a_p3 p3.length c_p3), (4, .pointer (some ⟨b1, 0, none⟩)), (8, .int .i64 0), (9, .int .i64 0), (12, .int .i64 (w64 (s_3 + v_7))), (13, .int .i64 s_4), (14, .int .i64 v_6), (34, .slice a_p3 p3.length c_p3), (35, .int .i64 (p3.length : Int)), (36, .int .i64 s_4), (58, .int .i64 (w64 (s_3 + v_7))), (65, .int .i64 (w64 (v_6 - v_12))), (66, .int .i64 p1), (67, .int .i64 p2)] rfl ⟨rfl, rfl, rfl, rfl, rfl, rfl, rfl, rfl, rfl, rfl, rfl, rfl, rfl, rfl, rfl, rfl, trivial⟩ ?_
              obtain ⟨y_13, hc32, hx21⟩ := bind_some hx21
              refine WO_call0 (.int .i64 y_13) rfl rfl trivial rfl rfl rfl rfl St_closed ⟨36, #[], #[], rfl, callable_36, fun w hw => ⟨_, hw.sat, aggregate_between_walk hc32⟩⟩ ?_
              refine WO_pure tbok 2 [(1, .int .i64 p1), (2, .int .i64 p2), (3, .slice a_p3 p3.length c_p3), (4, .pointer (some ⟨b1, 0, none⟩)), (8, .int .i64 0), (9, .int .i64 0), (12, .int .i64 (w64 ((w64 (s_3 + v_7)) + y_13))), (13, .int .i64 s_4), (14, .int .i64 v_6), (34, .slice a_p3 p3.length c_p3), (35, .int .i64 (p3.length : Int)), (36, .int .i64 s_4)] rfl ⟨rfl, rfl, rfl, rfl, rfl, rfl, rfl, rfl, rfl, rfl, rfl, rfl, trivial⟩ ?_
              refine WO_end ?_
              cases hx21
              refine WK.sub ?_ (WK.cls (fun _ h => h) hk22)
              exact ⟨rfl, rfl, rfl, rfl, rfl, rfl, rfl, rfl, rfl, rfl, rfl, rfl, trivial⟩
            · have hx21 := ifF hb29 hx21
              refine WK_skip ?_
              cases hx21
              refine WK.sub ?_ (WK.cls (fun _ h => h) hk22)
              exact ⟨rfl, rfl, rfl, rfl, rfl, rfl, rfl, rfl, rfl, rfl, rfl, rfl, trivial⟩
        · have hm9 := ifF hb15 hm9
          refine WK_exit rfl ?_
          cases hm9
          refine WK.sub ?_ (WK.cls (fun _ h => h) (hk8 (s_3, ()) (hd13 _ rfl)))
          exact ⟨rfl, rfl, rfl, trivial⟩
def aggregate_at_Q (r : List Int) : Value → Mu → List Ent → Prop := fun v m L => ∃ (a0 : Option Addr) (q0 c0 : Nat), v = .slice a0 q0 c0 ∧ SlR (FE (I1 .i64)) 1 m (.slice a0 q0 c0) r
theorem aggregate_at_walk {m : Mu} {p0_0 : Int} {p0_1 : Int} {p0_2 : Int} {p0_3 : List Int} {p1 : Int} {p2 : Int} {a_p0_3 : Option Addr} {q_p0_3 c_p0_3 : Nat} (h_p0_3 : SlR (FE (I1 .i64)) 1 m (.slice a_p0_3 q_p0_3 c_p0_3) p0_3) {r : List Int} (hm : aggregate_at p0_0 p0_1 p0_2 p0_3 p1 p2 = some r) :
    Go.E.Spec Try.prog 50 [.agg #[.int .i64 p0_0, .int .i64 p0_1, .int .i64 p0_2, .slice a_p0_3 q_p0_3 c_p0_3], .int .i64 p1, .int .i64 p2] m (aggregate_at_Q r) := by
  refine Spec_enter Try.func50 rfl rfl rfl (fun w0 => ?_)
  refine WK.sub (e' := [(0, .agg #[.int .i64 p0_0, .int .i64 p0_1, .int .i64 p0_2, .slice a_p0_3 q_p0_3 c_p0_3]), (1, .int .i64 p1), (2, .int .i64 p2)]) ⟨rfl, rfl, rfl, trivial⟩ ?_
  obtain rfl := SlR.qlen h_p0_3
  refine WK.sub (e' := [(0, .agg #[.int .i64 p0_0, .int .i64 p0_1, .int .i64 p0_2, .slice a_p0_3 p0_3.length c_p0_3]), (1, .int .i64 p1), (2, .int .i64 p2)]) ⟨rfl, rfl, rfl, trivial⟩ ?_
  unfold aggregate_at at hm
  refine WK_seq ?_
  refine WK_region ?_
  refine WO_box [.int .i64 p0_0, .int .i64 p0_1, .int .i64 p0_2, .slice a_p0_3 p0_3.length c_p0_3] rfl rfl trivial rfl rfl rfl (fun b1 => ?_)
  refine WO.cls (C' := St w0 m m [[⟨b1, 50, [.int .i64 p0_0, .int .i64 p0_1, .int .i64 p0_2, .slice a_p0_3 p0_3.length c_p0_3]⟩]]) (fun _ h => h) ?_
  refine WO_pure tbok 1 [(1, .int .i64 p1), (2, .int .i64 p2), (3, .pointer (some ⟨b1, 0, none⟩)), (6, .slice none 0 0)] rfl ⟨rfl, rfl, rfl, rfl, trivial⟩ ?_
  refine WO_end ?_
  refine WK_seq ?_
  refine WK_region ?_
  refine WO_pure tbok 2 [(1, .int .i64 p1), (3, .pointer (some ⟨b1, 0, none⟩)), (6, .slice none 0 0), (8, .int .i64 p2), (9, .pointer (some ⟨b1, 0, none⟩))] rfl ⟨rfl, rfl, rfl, rfl, rfl, trivial⟩ ?_
  refine WO_loadB tbok 0 rfl rfl rfl rfl (fun _ h => h) rfl rfl ?_
  refine WO_pure tbok 4 [(3, .pointer (some ⟨b1, 0, none⟩)), (6, .slice none 0 0), (13, .int .i64 (w64 ((w64 (p2 * p0_0)) + p1))), (14, .pointer (some ⟨b1, 2, none⟩))] rfl ⟨rfl, rfl, rfl, rfl, trivial⟩ ?_
  refine WO_loadB tbok 0 rfl rfl rfl rfl (fun _ h => h) rfl rfl ?_
  refine WO_pure tbok 2 [(3, .pointer (some ⟨b1, 0, none⟩)), (6, .slice none 0 0), (7, .int .i64 (w64 ((w64 ((w64 (p2 * p0_0)) + p1)) * p0_2)))] rfl ⟨rfl, rfl, rfl, trivial⟩ ?_
  refine WO_end ?_
  refine WK_seq ?_
  refine WK_region ?_
  refine WO_pure tbok 1 [(3, .pointer (some ⟨b1, 0, none⟩)), (6, .slice none 0 0), (7, .int .i64 (w64 ((w64 ((w64 (p2 * p0_0)) + p1)) * p0_2))), (17, .pointer (some ⟨b1, 3, none⟩))] rfl ⟨rfl, rfl, rfl, rfl, trivial⟩ ?_
  refine WO_loadB tbok 0 rfl rfl rfl rfl (fun _ h => h) rfl rfl ?_
  refine WO_pure tbok 3 [(3, .pointer (some ⟨b1, 0, none⟩)), (6, .slice none 0 0), (7, .int .i64 (w64 ((w64 ((w64 (p2 * p0_0)) + p1)) * p0_2))), (18, .slice a_p0_3 p0_3.length c_p0_3), (19, .int .i64 (w64 ((w64 ((w64 (p2 * p0_0)) + p1)) * p0_2))), (20, .int .i64 (w64 ((w64 ((w64 (p2 * p0_0)) + p1)) * p0_2))), (21, .pointer (some ⟨b1, 2, none⟩))] rfl ⟨rfl, rfl, rfl, rfl, rfl, rfl, rfl, trivial⟩ ?_
  refine WO_loadB tbok 0 rfl rfl rfl rfl (fun _ h => h) rfl rfl ?_
  refine WO_pure tbok 3 [(6, .slice none 0 0), (18, .slice a_p0_3 p0_3.length c_p0_3), (19, .int .i64 (w64 ((w64 ((w64 (p2 * p0_0)) + p1)) * p0_2))), (23, .int .i64 (w64 ((w64 ((w64 ((w64 (p2 * p0_0)) + p1)) * p0_2)) + p0_2))), (24, .int .i64 (w64 ((w64 ((w64 (p2 * p0_0)) + p1)) * p0_2))), (25, .pointer (some ⟨b1, 2, none⟩))] rfl ⟨rfl, rfl, rfl, rfl, rfl, rfl, trivial⟩ ?_
  refine WO_loadB tbok 0 rfl rfl rfl rfl (fun _ h => h) rfl rfl ?_
  refine WO_pure tbok 1 [(6, .slice none 0 0), (18, .slice a_p0_3 p0_3.length c_p0_3), (19, .int .i64 (w64 ((w64 ((w64 (p2 * p0_0)) + p1)) * p0_2))), (23, .int .i64 (w64 ((w64 ((w64 ((w64 (p2 * p0_0)) + p1)) * p0_2)) + p0_2))), (27, .int .i64 (w64 ((w64 ((w64 ((w64 (p2 * p0_0)) + p1)) * p0_2)) + p0_2)))] rfl ⟨rfl, rfl, rfl, rfl, rfl, trivial⟩ ?_
  obtain ⟨hc2, hm⟩ := chk_some hm
  have hc2 : 0 ≤ (w64 ((w64 ((w64 (p2 * p0_0)) + p1)) * p0_2) : Int) ∧ (w64 ((w64 ((w64 (p2 * p0_0)) + p1)) * p0_2) : Int) ≤ (w64 ((w64 ((w64 ((w64 (p2 * p0_0)) + p1)) * p0_2)) + p0_2) : Int) ∧ (w64 ((w64 ((w64 ((w64 (p2 * p0_0)) + p1)) * p0_2)) + p0_2) : Int) ≤ (w64 ((w64 ((w64 ((w64 (p2 * p0_0)) + p1)) * p0_2)) + p0_2) : Int) ∧ (w64 ((w64 ((w64 ((w64 (p2 * p0_0)) + p1)) * p0_2)) + p0_2) : Int) ≤ (p0_3.length : Int) := hc2
  have hz6 : SlR (FE (I1 .i64)) 1 m (.slice a_p0_3 p0_3.length c_p0_3) p0_3 := h_p0_3
  refine WO_slice tbok (some (w64 ((w64 ((w64 (p2 * p0_0)) + p1)) * p0_2) : Int)) (some (w64 ((w64 ((w64 ((w64 (p2 * p0_0)) + p1)) * p0_2)) + p0_2) : Int)) (some (w64 ((w64 ((w64 ((w64 (p2 * p0_0)) + p1)) * p0_2)) + p0_2) : Int)) (w64 ((w64 ((w64 (p2 * p0_0)) + p1)) * p0_2) : Int).toNat (w64 ((w64 ((w64 ((w64 (p2 * p0_0)) + p1)) * p0_2)) + p0_2) : Int).toNat rfl rfl rfl rfl rfl rfl rfl rfl rfl rfl rfl hz6 (by simp only [Option.getD_some] <;> omega) (by simp only [Option.getD_some] <;> omega) (fun q hq => by cases hq; omega) (by omega) (by omega) (fun _ => rfl) (fun a3 c4 h5 => ?_)
  refine WO_pure tbok 1 [(6, .slice a3 (((p0_3.take (w64 ((w64 ((w64 ((w64 (p2 * p0_0)) + p1)) * p0_2)) + p0_2) : Int).toNat).drop (w64 ((w64 ((w64 (p2 * p0_0)) + p1)) * p0_2) : Int).toNat).length) c4)] rfl ⟨rfl, trivial⟩ ?_
  refine WO_end ?_
  cases hm
  exact WK_ret (ret_out (L := []) (RLc_tmp rfl RLc_nil) (List.nil_sublist _) ⟨a3, (((p0_3.take (w64 ((w64 ((w64 ((w64 (p2 * p0_0)) + p1)) * p0_2)) + p0_2) : Int).toNat).drop (w64 ((w64 ((w64 (p2 * p0_0)) + p1)) * p0_2) : Int).toNat).length), c4, rfl, h5⟩)
def aggregate_Bound_c2_Q (r : List Int) : Value → Mu → List Ent → Prop := fun v m L => ∃ (a0 : Option Addr) (q0 c0 : Nat), v = .slice a0 q0 c0 ∧ SlR (FE (I1 .i64)) 1 m (.slice a0 q0 c0) r
theorem aggregate_Bound_c2_walk {m : Mu} {p0 : Int} {q0_0 : Int} {q0_1 : Int} {q0_2 : Int} {q0_3 : List Int} {q1_0 : Int} {a_q0_3 : Option Addr} {q_q0_3 c_q0_3 : Nat} {b_q0 : Nat} {b_q1 : Nat} (hb_q0 : m b_q0 = some (Ent.obj ⟨b_q0, 50, [.int .i64 q0_0, .int .i64 q0_1, .int .i64 q0_2, .slice a_q0_3 q_q0_3 c_q0_3]⟩)) (h_q0_3 : SlR (FE (I1 .i64)) 1 m (.slice a_q0_3 q_q0_3 c_q0_3) q0_3) (hb_q1 : m b_q1 = some (Ent.obj ⟨b_q1, 3, [.int .i64 q1_0]⟩)) {r : List Int} (hm : aggregate_Bound_c2 p0 q0_0 q0_1 q0_2 q0_3 q1_0 = some r) :
    Go.E.Spec Try.prog 49 [.int .i64 p0, .pointer (some ⟨b_q0, 0, none⟩), .pointer (some ⟨b_q1, 0, none⟩)] m (aggregate_Bound_c2_Q r) := by
  refine Spec_enter Try.func49 rfl rfl rfl (fun w0 => ?_)
  refine WK.sub (e' := [(0, .int .i64 p0), (1, .pointer (some ⟨b_q0, 0, none⟩)), (2, .pointer (some ⟨b_q1, 0, none⟩))]) ⟨rfl, rfl, rfl, trivial⟩ ?_
  obtain rfl := SlR.qlen h_q0_3
  refine WK.sub (e' := [(0, .int .i64 p0), (1, .pointer (some ⟨b_q0, 0, none⟩)), (2, .pointer (some ⟨b_q1, 0, none⟩))]) ⟨rfl, rfl, rfl, trivial⟩ ?_
  unfold aggregate_Bound_c2 at hm
  refine WK_seq ?_
  refine WK_region ?_
  refine WO_pure tbok 1 [(0, .int .i64 p0), (1, .pointer (some ⟨b_q0, 0, none⟩)), (2, .pointer (some ⟨b_q1, 0, none⟩)), (4, .slice none 0 0)] rfl ⟨rfl, rfl, rfl, rfl, trivial⟩ ?_
  refine WO_end ?_
  refine WK_seq ?_
  refine WK_region ?_
  refine WO_loadM tbok rfl rfl rfl rfl (fun _ h => St.sat h) hb_q0 rfl ?_
  refine WO_pure tbok 1 [(2, .pointer (some ⟨b_q1, 0, none⟩)), (4, .slice none 0 0), (5, .agg #[.int .i64 q0_0, .int .i64 q0_1, .int .i64 q0_2, .slice a_q0_3 q0_3.length c_q0_3]), (6, .int .i64 p0)] rfl ⟨rfl, rfl, rfl, rfl, trivial⟩ ?_
  refine WO_loadM tbok rfl rfl rfl rfl (fun _ h => St.sat h) hb_q1 rfl ?_
  obtain ⟨y_1, hc1, hm⟩ := bind_some hm
  refine WO_call2 (aggregate_at_Q y_1) rfl rfl trivial rfl rfl rfl rfl ⟨50, #[], #[], rfl, callable_50, aggregate_at_walk h_q0_3 hc1⟩ (fun v5 m6 L4 hle7 hq => ?_)
  obtain ⟨a2, qa2, c3, rfl, h8⟩ := hq
  obtain rfl := SlR.qlen h8
  refine WO.cls (C' := St w0 m m6 [L4]) (fun _ h => h.sub (by simp)) ?_
  refine WO_pure tbok 1 [(4, .slice a2 ((y_1).length) c3)] rfl ⟨rfl, trivial⟩ ?_
  refine WO_end ?_
  cases hm
  exact WK_ret (ret_out (L := []) (RLc_tmp rfl RLc_nil) (List.nil_sublist _) ⟨a2, _, c3, rfl, h8⟩)
def aggregate_Bound_c3_Q (r : List Int) : Value → Mu → List Ent → Prop := fun v m L => ∃ (a0 : Option Addr) (q0 c0 : Nat), v = .slice a0 q0 c0 ∧ SlR (FE (I1 .i64)) 1 m (.slice a0 q0 c0) r
theorem aggregate_Bound_c3_walk {m : Mu} {p0 : Int} {q0_0 : Int} {q0_1 : Int} {q0_2 : Int} {q0_3 : List Int} {q1_0 : Int} {a_q0_3 : Option Addr} {q_q0_3 c_q0_3 : Nat} {b_q0 : Nat} {b_q1 : Nat} (hb_q0 : m b_q0 = some (Ent.obj ⟨b_q0, 50, [.int .i64 q0_0, .int .i64 q0_1, .int .i64 q0_2, .slice a_q0_3 q_q0_3 c_q0_3]⟩)) (h_q0_3 : SlR (FE (I1 .i64)) 1 m (.slice a_q0_3 q_q0_3 c_q0_3) q0_3) (hb_q1 : m b_q1 = some (Ent.obj ⟨b_q1, 3, [.int .i64 q1_0]⟩)) {r : List Int} (hm : aggregate_Bound_c3 p0 q0_0 q0_1 q0_2 q0_3 q1_0 = some r) :
    Go.E.Spec Try.prog 51 [.int .i64 p0, .pointer (some ⟨b_q0, 0, none⟩), .pointer (some ⟨b_q1, 0, none⟩)] m (aggregate_Bound_c3_Q r) := by
  refine Spec_enter Try.func51 rfl rfl rfl (fun w0 => ?_)
  refine WK.sub (e' := [(0, .int .i64 p0), (1, .pointer (some ⟨b_q0, 0, none⟩)), (2, .pointer (some ⟨b_q1, 0, none⟩))]) ⟨rfl, rfl, rfl, trivial⟩ ?_
  obtain rfl := SlR.qlen h_q0_3
  refine WK.sub (e' := [(0, .int .i64 p0), (1, .pointer (some ⟨b_q0, 0, none⟩)), (2, .pointer (some ⟨b_q1, 0, none⟩))]) ⟨rfl, rfl, rfl, trivial⟩ ?_
  unfold aggregate_Bound_c3 at hm
  refine WK_seq ?_
  refine WK_region ?_
  refine WO_pure tbok 1 [(0, .int .i64 p0), (1, .pointer (some ⟨b_q0, 0, none⟩)), (2, .pointer (some ⟨b_q1, 0, none⟩)), (4, .slice none 0 0)] rfl ⟨rfl, rfl, rfl, rfl, trivial⟩ ?_
  refine WO_end ?_
  refine WK_seq ?_
  refine WK_region ?_
  refine WO_loadM tbok rfl rfl rfl rfl (fun _ h => St.sat h) hb_q0 rfl ?_
  refine WO_loadM tbok rfl rfl rfl rfl (fun _ h => St.sat h) hb_q1 rfl ?_
  refine WO_pure tbok 1 [(4, .slice none 0 0), (5, .agg #[.int .i64 q0_0, .int .i64 q0_1, .int .i64 q0_2, .slice a_q0_3 q0_3.length c_q0_3]), (6, .int .i64 q1_0), (7, .int .i64 p0)] rfl ⟨rfl, rfl, rfl, rfl, trivial⟩ ?_
  obtain ⟨y_1, hc1, hm⟩ := bind_some hm
  refine WO_call2 (aggregate_at_Q y_1) rfl rfl trivial rfl rfl rfl rfl ⟨50, #[], #[], rfl, callable_50, aggregate_at_walk h_q0_3 hc1⟩ (fun v5 m6 L4 hle7 hq => ?_)
  obtain ⟨a2, qa2, c3, rfl, h8⟩ := hq
  obtain rfl := SlR.qlen h8
  refine WO.cls (C' := St w0 m m6 [L4]) (fun _ h => h.sub (by simp)) ?_
  refine WO_pure tbok 1 [(4, .slice a2 ((y_1).length) c3)] rfl ⟨rfl, trivial⟩ ?_
  refine WO_end ?_
  cases hm
  exact WK_ret (ret_out (L := []) (RLc_tmp rfl RLc_nil) (List.nil_sublist _) ⟨a2, _, c3, rfl, h8⟩)
theorem aggregate_Bound_walk {m : Mu} {p0_0 : Int} {p0_1 : Int} {p0_2 : Int} {p0_3 : List Int} {p1 : Int} {p2 : Int} {a_p0_3 : Option Addr} {q_p0_3 c_p0_3 : Nat} (h_p0_3 : SlR (FE (I1 .i64)) 1 m (.slice a_p0_3 q_p0_3 c_p0_3) p0_3) {r : Int × Int} (hm : aggregate_Bound p0_0 p0_1 p0_2 p0_3 p1 p2 = some r) :
    Go.E.Spec Try.prog 25 [.agg #[.int .i64 p0_0, .int .i64 p0_1, .int .i64 p0_2, .slice a_p0_3 q_p0_3 c_p0_3], .int .i64 p1, .int .i64 p2] m (fun v _ _ => v = .tuple #[.int .i64 r.1, .int .i64 r.2]) := by
  refine Spec_enter Try.func25 rfl rfl rfl (fun w0 => ?_)
  refine WK.sub (e' := [(0, .agg #[.int .i64 p0_0, .int .i64 p0_1, .int .i64 p0_2, .slice a_p0_3 q_p0_3 c_p0_3]), (1, .int .i64 p1), (2, .int .i64 p2)]) ⟨rfl, rfl, rfl, trivial⟩ ?_
  obtain rfl := SlR.qlen h_p0_3
  refine WK.sub (e' := [(0, .agg #[.int .i64 p0_0, .int .i64 p0_1, .int .i64 p0_2, .slice a_p0_3 p0_3.length c_p0_3]), (1, .int .i64 p1), (2, .int .i64 p2)]) ⟨rfl, rfl, rfl, trivial⟩ ?_
  unfold aggregate_Bound at hm
  refine WK_seq ?_
  refine WK_region ?_
  refine WO_box [.int .i64 p0_0, .int .i64 p0_1, .int .i64 p0_2, .slice a_p0_3 p0_3.length c_p0_3] rfl rfl trivial rfl rfl rfl (fun b1 => ?_)
  refine WO.cls (C' := St w0 m m [[⟨b1, 50, [.int .i64 p0_0, .int .i64 p0_1, .int .i64 p0_2, .slice a_p0_3 p0_3.length c_p0_3]⟩]]) (fun _ h => h) ?_
  refine WO_box [.int .i64 p1] rfl rfl trivial rfl rfl rfl (fun b2 => ?_)
  refine WO.cls (C' := St w0 m m [[⟨b1, 50, [.int .i64 p0_0, .int .i64 p0_1, .int .i64 p0_2, .slice a_p0_3 p0_3.length c_p0_3]⟩], [⟨b2, 3, [.int .i64 p1]⟩]]) (fun _ h => h) ?_
  refine WO_box [.int .i64 p2] rfl rfl trivial rfl rfl rfl (fun b3 => ?_)
  refine WO.cls (C' := St w0 m m [[⟨b1, 50, [.int .i64 p0_0, .int .i64 p0_1, .int .i64 p0_2, .slice a_p0_3 p0_3.length c_p0_3]⟩], [⟨b2, 3, [.int .i64 p1]⟩], [⟨b3, 3, [.int .i64 p2]⟩]]) (fun _ h => h) ?_
  refine WO_pure tbok 2 [(3, .pointer (some ⟨b1, 0, none⟩)), (4, .pointer (some ⟨b2, 0, none⟩)), (5, .pointer (some ⟨b3, 0, none⟩)), (6, .int .i64 0), (7, .int .i64 0)] rfl ⟨rfl, rfl, rfl, rfl, rfl, trivial⟩ ?_
  refine WO_end ?_
  refine WK_seq ?_
  refine WK_seq ?_
  refine WK_region ?_
  refine WO_loadB tbok 0 rfl rfl rfl rfl (fun _ h => h) rfl rfl ?_
  refine WO_loadB tbok 1 rfl rfl rfl rfl (fun _ h => h) rfl rfl ?_
  refine WO_loadB tbok 2 rfl rfl rfl rfl (fun _ h => h) rfl rfl ?_
  obtain ⟨y_1, hc4, hm⟩ := bind_some hm
  refine WO_call0 (.int .i64 y_1) rfl rfl trivial rfl rfl rfl rfl St_closed ⟨47, #[], #[], rfl, callable_47, fun w hw => ⟨_, hw.sat, aggregate_grid_walk h_p0_3 hc4⟩⟩ ?_
  refine WO_pure tbok 1 [(3, .pointer (some ⟨b1, 0, none⟩)), (4, .pointer (some ⟨b2, 0, none⟩)), (5, .pointer (some ⟨b3, 0, none⟩)), (6, .int .i64 0), (7, .int .i64 0), (8, .int .i64 y_1)] rfl ⟨rfl, rfl, rfl, rfl, rfl, rfl, trivial⟩ ?_
  refine WO_end ?_
  refine WK_seq ?_
  refine WK_region ?_
  refine WO_pure tbok 2 [(3, .pointer (some ⟨b1, 0, none⟩)), (4, .pointer (some ⟨b2, 0, none⟩)), (5, .pointer (some ⟨b3, 0, none⟩)), (6, .int .i64 0), (7, .int .i64 0), (8, .int .i64 y_1), (18, .bool (y_1 != 0))] rfl ⟨rfl, rfl, rfl, rfl, rfl, rfl, rfl, trivial⟩ ?_
  refine WO_end ?_
  refine WK_cond (b := y_1 != 0) rfl (fun hb5 => ?_) (fun hb5 => ?_)
  · have hm := ifT hb5 hm
    refine WK_seq ?_
    refine WK_region ?_
    refine WO_pure tbok 3 [(3, .pointer (some ⟨b1, 0, none⟩)), (4, .pointer (some ⟨b2, 0, none⟩)), (5, .pointer (some ⟨b3, 0, none⟩)), (6, .int .i64 0), (7, .int .i64 y_1)] rfl ⟨rfl, rfl, rfl, rfl, rfl, trivial⟩ ?_
    refine WO_end ?_
    cases hm
    exact WK_ret (ret_out (L := []) (RLc_tmp rfl (RLc_tmp rfl RLc_nil)) (List.nil_sublist _) rfl)
  · have hm := ifF hb5 hm
    refine WK_skip ?_
    refine WK_seq ?_
    refine WK_seq ?_
    refine WK_region ?_
    refine WO_loadB tbok 2 rfl rfl rfl rfl (fun _ h => h) rfl rfl ?_
    refine WO_pure tbok 2 [(3, .pointer (some ⟨b1, 0, none⟩)), (4, .pointer (some ⟨b2, 0, none⟩)), (5, .pointer (some ⟨b3, 0, none⟩)), (6, .int .i64 0), (7, .int .i64 0), (22, .bool (decide (1048576 < (w64 (2 * p2)))))] rfl ⟨rfl, rfl, rfl, rfl, rfl, rfl, trivial⟩ ?_
    refine WO_end ?_
    refine WK_cond (b := decide (1048576 < (w64 (2 * p2)))) rfl (fun hb6 => ?_) (fun hb6 => ?_)
    · have hm := ifT hb6 hm
      refine WK_seq ?_
      refine WK_region ?_
      refine WO_pure tbok 2 [(3, .pointer (some ⟨b1, 0, none⟩)), (4, .pointer (some ⟨b2, 0, none⟩)), (5, .pointer (some ⟨b3, 0, none⟩)), (6, .int .i64 0), (7, .int .i64 2)] rfl ⟨rfl, rfl, rfl, rfl, rfl, trivial⟩ ?_
      refine WO_end ?_
      cases hm
      exact WK_ret (ret_out (L := []) (RLc_tmp rfl (RLc_tmp rfl RLc_nil)) (List.nil_sublist _) rfl)
    · have hm := ifF hb6 hm
      refine WK_skip ?_
      refine WK_seq ?_
      refine WK_region ?_
      refine WO_alloc tbok [.int .i64 0] rfl rfl trivial rfl rfl rfl rfl (fun b7 => ?_)
      refine WO.cls (C' := St w0 m m [[⟨b1, 50, [.int .i64 p0_0, .int .i64 p0_1, .int .i64 p0_2, .slice a_p0_3 p0_3.length c_p0_3]⟩], [⟨b2, 3, [.int .i64 p1]⟩], [⟨b3, 3, [.int .i64 p2]⟩], [⟨b7, 3, [.int .i64 0]⟩]]) (fun _ h => h) ?_
      refine WO_storeB tbok 3 [.int .i64 0] rfl rfl rfl rfl rfl rfl rfl ?_
      refine WO.cls (C' := St w0 m m [[⟨b1, 50, [.int .i64 p0_0, .int .i64 p0_1, .int .i64 p0_2, .slice a_p0_3 p0_3.length c_p0_3]⟩], [⟨b2, 3, [.int .i64 p1]⟩], [⟨b3, 3, [.int .i64 p2]⟩], [⟨b7, 3, [.int .i64 0]⟩]]) (fun _ h => h) ?_
      refine WO_end ?_
      refine WK_seq ?_
      refine WK_region ?_
      refine WO_pure tbok 2 [(3, .pointer (some ⟨b1, 0, none⟩)), (6, .int .i64 0), (7, .int .i64 0), (9, .pointer (some ⟨b7, 0, none⟩)), (10, .func (.func 48) #[] #[.pointer (some ⟨b2, 0, none⟩), .pointer (some ⟨b3, 0, none⟩), .pointer (some ⟨b7, 0, none⟩)])] rfl ⟨rfl, rfl, rfl, rfl, rfl, trivial⟩ ?_
      refine WO_end ?_
      refine WK_seq ?_
      refine WK_seq ?_
      refine WK_region ?_
      refine WO_pure tbok 1 [(3, .pointer (some ⟨b1, 0, none⟩)), (6, .int .i64 0), (7, .int .i64 0), (9, .pointer (some ⟨b7, 0, none⟩)), (10, .func (.func 48) #[] #[.pointer (some ⟨b2, 0, none⟩), .pointer (some ⟨b3, 0, none⟩), .pointer (some ⟨b7, 0, none⟩)]), (24, .pointer (some ⟨b1, 1, none⟩))] rfl ⟨rfl, rfl, rfl, rfl, rfl, rfl, trivial⟩ ?_
      refine WO_loadB tbok 0 rfl rfl rfl rfl (fun _ h => h) rfl rfl ?_
      refine WO_pure tbok 1 [(3, .pointer (some ⟨b1, 0, none⟩)), (6, .int .i64 0), (7, .int .i64 0), (9, .pointer (some ⟨b7, 0, none⟩)), (10, .func (.func 48) #[] #[.pointer (some ⟨b2, 0, none⟩), .pointer (some ⟨b3, 0, none⟩), .pointer (some ⟨b7, 0, none⟩)]), (25, .int .i64 p0_1), (26, .int .i64 0)] rfl ⟨rfl, rfl, rfl, rfl, rfl, rfl, rfl, trivial⟩ ?_
      refine WO_end ?_
      refine WK_freeze 0 rfl (fun m8 hle9 hmm10 => ?_)
      refine WK.cls (C' := St w0 m m8 [[], [⟨b2, 3, [.int .i64 p1]⟩], [⟨b3, 3, [.int .i64 p2]⟩], [⟨b7, 3, [.int .i64 0]⟩]]) (fun _ h => h) ?_
      obtain ⟨x16, hx17, hm⟩ := bind_some hm
      refine WK_join (β := Int × Mu) (fun p => p.1 = x16 ∧ Le m8 p.2) (fun p => [(3, .pointer (some ⟨b1, 0, none⟩)), (6, .int .i64 0), (7, .int .i64 0), (9, .pointer (some ⟨b7, 0, none⟩)), (10, .func (.func 48) #[] #[.pointer (some ⟨b2, 0, none⟩), .pointer (some ⟨b3, 0, none⟩), .pointer (some ⟨b7, 0, none⟩)])]) (fun p => St w0 m p.2 [[], [⟨b2, 3, [.int .i64 p1]⟩], [⟨b3, 3, [.int .i64 p2]⟩], [⟨b7, 3, [.int .i64 p.1]⟩]]) ?_ (fun hk18 => ?_)
      · rintro ⟨s_4, m14⟩ ⟨hq24, hle15⟩
        subst hq24
        refine WK.sub (e' := [(3, .pointer (some ⟨b1, 0, none⟩)), (6, .int .i64 0), (7, .int .i64 0), (9, .pointer (some ⟨b7, 0, none⟩)), (10, .func (.func 48) #[] #[.pointer (some ⟨b2, 0, none⟩), .pointer (some ⟨b3, 0, none⟩), .pointer (some ⟨b7, 0, none⟩)])]) ⟨rfl, rfl, rfl, rfl, rfl, trivial⟩ (WK.cls (C' := St w0 m m14 [[], [⟨b2, 3, [.int .i64 p1]⟩], [⟨b3, 3, [.int .i64 p2]⟩], [⟨b7, 3, [.int .i64 s_4]⟩]]) (fun _ h => h) ?_)
        refine WK_seq ?_
        refine WK_seq ?_
        refine WK_region ?_
        refine WO_pure tbok 1 [(3, .pointer (some ⟨b1, 0, none⟩)), (6, .int .i64 0), (7, .int .i64 0), (9, .pointer (some ⟨b7, 0, none⟩)), (10, .func (.func 48) #[] #[.pointer (some ⟨b2, 0, none⟩), .pointer (some ⟨b3, 0, none⟩), .pointer (some ⟨b7, 0, none⟩)]), (35, .pointer (some ⟨b1, 0, none⟩))] rfl ⟨rfl, rfl, rfl, rfl, rfl, rfl, trivial⟩ ?_
        refine WO_loadM tbok rfl rfl rfl rfl (fun _ h => St.sat h) (hle15 _ _ (hmm10 _ (List.mem_singleton.2 rfl))) rfl ?_
        refine WO_pure tbok 1 [(3, .pointer (some ⟨b1, 0, none⟩)), (6, .int .i64 0), (7, .int .i64 0), (9, .pointer (some ⟨b7, 0, none⟩)), (10, .func (.func 48) #[] #[.pointer (some ⟨b2, 0, none⟩), .pointer (some ⟨b3, 0, none⟩), .pointer (some ⟨b7, 0, none⟩)]), (36, .int .i64 p0_0), (37, .int .i64 0)] rfl ⟨rfl, rfl, rfl, rfl, rfl, rfl, rfl, trivial⟩ ?_
        refine WO_end ?_
        obtain ⟨x29, hx30, hm⟩ := bind_some hm
        refine WK_join (β := Int × Mu) (fun p => p.1 = x29 ∧ Le m14 p.2) (fun p => [(6, .int .i64 0), (7, .int .i64 0), (9, .pointer (some ⟨b7, 0, none⟩))]) (fun p => St w0 m p.2 [[], [⟨b2, 3, [.int .i64 p1]⟩], [⟨b3, 3, [.int .i64 p2]⟩], [⟨b7, 3, [.int .i64 p.1]⟩]]) ?_ (fun hk31 => ?_)
        · rintro ⟨s_7, m27⟩ ⟨hq37, hle28⟩
          subst hq37
          refine WK.sub (e' := [(6, .int .i64 0), (7, .int .i64 0), (9, .pointer (some ⟨b7, 0, none⟩))]) ⟨rfl, rfl, rfl, trivial⟩ (WK.cls (C' := St w0 m m27 [[], [⟨b2, 3, [.int .i64 p1]⟩], [⟨b3, 3, [.int .i64 p2]⟩], [⟨b7, 3, [.int .i64 s_7]⟩]]) (fun _ h => h) ?_)
          refine WK_seq ?_
          refine WK_region ?_
          refine WO_loadB tbok 3 rfl rfl rfl rfl (fun _ h => h) rfl rfl ?_
          refine WO_pure tbok 2 [(6, .int .i64 s_7), (7, .int .i64 0)] rfl ⟨rfl, rfl, trivial⟩ ?_
          refine WO_end ?_
          cases hm
          exact WK_ret (ret_out (L := []) (RLc_tmp rfl (RLc_tmp rfl RLc_nil)) (List.nil_sublist _) rfl)
        · refine WK_block ?_
          refine WK_loop (S := Int × Int) (G := Mu) (fun s => aggregate_Bound_s2 p0_0 p0_1 p0_2 p0_3 p1 p2 s.1 s.2) (fun s g => [(3, .pointer (some ⟨b1, 0, none⟩)), (6, .int .i64 0), (7, .int .i64 0), (9, .pointer (some ⟨b7, 0, none⟩)), (10, .func (.func 48) #[] #[.pointer (some ⟨b2, 0, none⟩), .pointer (some ⟨b3, 0, none⟩), .pointer (some ⟨b7, 0, none⟩)]), (36, .int .i64 p0_0), (37, .int .i64 s.1)]) (fun s g => St w0 m g [[], [⟨b2, 3, [.int .i64 p1]⟩], [⟨b3, 3, [.int .i64 p2]⟩], [⟨b7, 3, [.int .i64 s.2]⟩]]) (fun s g => Le m14 g) FUEL (0, s_4) m14 x29 hx30 (Le.refl _) ⟨rfl, rfl, rfl, rfl, rfl, rfl, rfl, trivial⟩ (fun _ h => h) ?_
          rintro ⟨s_5, s_6⟩ m25 o33 fl34 hm32 hle26 hn35 hd36
          have hm32 : aggregate_Bound_s2 p0_0 p0_1 p0_2 p0_3 p1 p2 s_5 s_6 = some o33 := hm32
          unfold aggregate_Bound_s2 at hm32
          refine WK.sub (e' := [(3, .pointer (some ⟨b1, 0, none⟩)), (6, .int .i64 0), (7, .int .i64 0), (9, .pointer (some ⟨b7, 0, none⟩)), (10, .func (.func 48) #[] #[.pointer (some ⟨b2, 0, none⟩), .pointer (some ⟨b3, 0, none⟩), .pointer (some ⟨b7, 0, none⟩)]), (36, .int .i64 p0_0), (37, .int .i64 s_5)]) ⟨rfl, rfl, rfl, rfl, rfl, rfl, rfl, trivial⟩ (WK.cls (C' := St w0 m m25 [[], [⟨b2, 3, [.int .i64 p1]⟩], [⟨b3, 3, [.int .i64 p2]⟩], [⟨b7, 3, [.int .i64 s_6]⟩]]) (fun _ h => h) ?_)
          refine WK_seq ?_
          refine WK_region ?_
          refine WO_pure tbok 1 [(3, .pointer (some ⟨b1, 0, none⟩)), (6, .int .i64 0), (7, .int .i64 0), (9, .pointer (some ⟨b7, 0, none⟩)), (10, .func (.func 48) #[] #[.pointer (some ⟨b2, 0, none⟩), .pointer (some ⟨b3, 0, none⟩), .pointer (some ⟨b7, 0, none⟩)]), (36, .int .i64 p0_0), (37, .int .i64 s_5), (38, .bool (decide (s_5 < p0_0)))] rfl ⟨rfl, rfl, rfl, rfl, rfl, rfl, rfl, rfl, trivial⟩ ?_
          refine WO_end ?_
          refine WK_seq ?_
          refine WK_cond (b := decide (s_5 < p0_0)) rfl (fun hb38 => ?_) (fun hb38 => ?_)
          · have hm32 := ifT hb38 hm32
            refine WK_skip ?_
            refine WK_seq ?_
            refine WK_block ?_
            refine WK_seq ?_
            refine WK_region ?_
            refine WO_pure tbok 1 [(3, .pointer (some ⟨b1, 0, none⟩)), (6, .int .i64 0), (7, .int .i64 0), (9, .pointer (some ⟨b7, 0, none⟩)), (10, .func (.func 48) #[] #[.pointer (some ⟨b2, 0, none⟩), .pointer (some ⟨b3, 0, none⟩), .pointer (some ⟨b7, 0, none⟩)]), (36, .int .i64 p0_0), (37, .int .i64 s_5), (39, .int .i64 s_5)] rfl ⟨rfl, rfl, rfl, rfl, rfl, rfl, rfl, rfl, trivial⟩ ?_
            refine WO_alloc tbok [.int .i64 0] rfl rfl trivial rfl rfl rfl rfl (fun b39 => ?_)
            refine WO.cls (C' := St w0 m m25 [[], [⟨b2, 3, [.int .i64 p1]⟩], [⟨b3, 3, [.int .i64 p2]⟩], [⟨b7, 3, [.int .i64 s_6]⟩], [⟨b39, 3, [.int .i64 0]⟩]]) (fun _ h => h) ?_
            refine WO_storeB tbok 4 [.int .i64 s_5] rfl rfl rfl rfl rfl rfl rfl ?_
            refine WO.cls (C' := St w0 m m25 [[], [⟨b2, 3, [.int .i64 p1]⟩], [⟨b3, 3, [.int .i64 p2]⟩], [⟨b7, 3, [.int .i64 s_6]⟩], [⟨b39, 3, [.int .i64 s_5]⟩]]) (fun _ h => h) ?_
            refine WO_end ?_
            refine WK_region ?_
            refine WO_pure tbok 2 [(3, .pointer (some ⟨b1, 0, none⟩)), (6, .int .i64 0), (7, .int .i64 0), (9, .pointer (some ⟨b7, 0, none⟩)), (10, .func (.func 48) #[] #[.pointer (some ⟨b2, 0, none⟩), .pointer (some ⟨b3, 0, none⟩), .pointer (some ⟨b7, 0, none⟩)]), (12, .pointer (some ⟨b39, 0, none⟩)), (36, .int .i64 p0_0), (37, .int .i64 s_5), (40, .func (.func 48) #[] #[.pointer (some ⟨b2, 0, none⟩), .pointer (some ⟨b3, 0, none⟩), .pointer (some ⟨b7, 0, none⟩)]), (41, .pointer (some ⟨b1, 1, none⟩))] rfl ⟨rfl, rfl, rfl, rfl, rfl, rfl, rfl, rfl, rfl, rfl, trivial⟩ ?_
            refine WO_loadM tbok rfl rfl rfl rfl (fun _ h => St.sat h) (hle26 _ _ (hle15 _ _ (hmm10 _ (List.mem_singleton.2 rfl)))) rfl ?_
            refine WO_pure tbok 1 [(3, .pointer (some ⟨b1, 0, none⟩)), (6, .int .i64 0), (7, .int .i64 0), (9, .pointer (some ⟨b7, 0, none⟩)), (10, .func (.func 48) #[] #[.pointer (some ⟨b2, 0, none⟩), .pointer (some ⟨b3, 0, none⟩), .pointer (some ⟨b7, 0, none⟩)]), (36, .int .i64 p0_0), (37, .int .i64 s_5), (40, .func (.func 48) #[] #[.pointer (some ⟨b2, 0, none⟩), .pointer (some ⟨b3, 0, none⟩), .pointer (some ⟨b7, 0, none⟩)]), (42, .int .i64 p0_1), (43, .func (.func 51) #[] #[.pointer (some ⟨b1, 0, none⟩), .pointer (some ⟨b39, 0, none⟩)])] rfl ⟨rfl, rfl, rfl, rfl, rfl, rfl, rfl, rfl, rfl, rfl, trivial⟩ ?_
            refine WO_inline rfl rfl rfl rfl rfl rfl callable_48 Try.func48 rfl rfl rfl ?_
            refine WK.sub (e' := [(0, .int .i64 p0_1), (1, .func (.func 51) #[] #[.pointer (some ⟨b1, 0, none⟩), .pointer (some ⟨b39, 0, none⟩)]), (2, .pointer (some ⟨b2, 0, none⟩)), (3, .pointer (some ⟨b3, 0, none⟩)), (4, .pointer (some ⟨b7, 0, none⟩))]) ⟨rfl, rfl, rfl, rfl, rfl, trivial⟩ ?_
            refine WK_seq ?_
            refine WK_region ?_
            refine WO_pure tbok 1 [(0, .int .i64 p0_1), (1, .func (.func 51) #[] #[.pointer (some ⟨b1, 0, none⟩), .pointer (some ⟨b39, 0, none⟩)]), (2, .pointer (some ⟨b2, 0, none⟩)), (3, .pointer (some ⟨b3, 0, none⟩)), (4, .pointer (some ⟨b7, 0, none⟩)), (7, .slice none 0 0)] rfl ⟨rfl, rfl, rfl, rfl, rfl, rfl, trivial⟩ ?_
            refine WO_end ?_
            refine WK_seq ?_
            refine WK_seq ?_
            refine WK_region ?_
            refine WO_pure tbok 2 [(0, .int .i64 p0_1), (1, .func (.func 51) #[] #[.pointer (some ⟨b1, 0, none⟩), .pointer (some ⟨b39, 0, none⟩)]), (2, .pointer (some ⟨b2, 0, none⟩)), (3, .pointer (some ⟨b3, 0, none⟩)), (4, .pointer (some ⟨b7, 0, none⟩)), (7, .slice none 0 0), (10, .int .i64 p0_1), (11, .int .i64 0)] rfl ⟨rfl, rfl, rfl, rfl, rfl, rfl, rfl, rfl, trivial⟩ ?_
            refine WO_end ?_
            refine WK_freeze 4 rfl (fun m40 hle41 hmm42 => ?_)
            refine WK.cls (C' := St w0 m m40 [[], [⟨b2, 3, [.int .i64 p1]⟩], [⟨b3, 3, [.int .i64 p2]⟩], [⟨b7, 3, [.int .i64 s_6]⟩], []]) (fun _ h => h) ?_
            refine WK_pad ?_
            obtain ⟨x56, hx57, hm32⟩ := bind_some hm32
            refine WK_join (β := (List (List Int)) × (Mu × Option Addr × Nat × Nat × List Ent)) (fun p => p.1 = x56 ∧ Le m40 p.2.1 ∧ OwnX 24 1 V1 (RowE (FE (I1 .i64)) 1) p.2.1 (.slice p.2.2.1 p.2.2.2.1 p.2.2.2.2.1) p.1 p.2.2.2.2.2) (fun p => [(0, .int .i64 p0_1), (2, .pointer (some ⟨b2, 0, none⟩)), (3, .pointer (some ⟨b3, 0, none⟩)), (4, .pointer (some ⟨b7, 0, none⟩)), (7, .slice p.2.2.1 p.2.2.2.1 p.2.2.2.2.1)]) (fun p => St w0 m p.2.1 [[], [⟨b2, 3, [.int .i64 p1]⟩], [⟨b3, 3, [.int .i64 p2]⟩], [⟨b7, 3, [.int .i64 s_6]⟩], [], p.2.2.2.2.2]) ?_ (fun hk58 => ?_)
            · rintro ⟨l_10, ⟨m50, a53, q54, c55, L52⟩⟩ ⟨hq64, hle51, hL52⟩
              subst hq64
              have hqq : q54 = l_10.length := OwnX.qlen hL52
              subst hqq
              refine WK.sub (e' := [(0, .int .i64 p0_1), (2, .pointer (some ⟨b2, 0, none⟩)), (3, .pointer (some ⟨b3, 0, none⟩)), (4, .pointer (some ⟨b7, 0, none⟩)), (7, .slice a53 ((l_10).length) c55)]) ⟨rfl, rfl, rfl, rfl, rfl, trivial⟩ (WK.cls (C' := St w0 m m50 [[], [⟨b2, 3, [.int .i64 p1]⟩], [⟨b3, 3, [.int .i64 p2]⟩], [⟨b7, 3, [.int .i64 s_6]⟩], [], L52]) (fun _ h => h) ?_)
              refine WK_seq ?_
              refine WK_region ?_
              refine WO_pure tbok 1 [(0, .int .i64 p0_1), (2, .pointer (some ⟨b2, 0, none⟩)), (3, .pointer (some ⟨b3, 0, none⟩)), (4, .pointer (some ⟨b7, 0, none⟩)), (21, .slice a53 ((l_10).length) c55)] rfl ⟨rfl, rfl, rfl, rfl, rfl, trivial⟩ ?_
              refine WO_loadB tbok 1 rfl rfl rfl rfl (fun _ h => h) rfl rfl ?_
              refine WO_pure tbok 1 [(0, .int .i64 p0_1), (3, .pointer (some ⟨b3, 0, none⟩)), (4, .pointer (some ⟨b7, 0, none⟩)), (21, .slice a53 ((l_10).length) c55), (23, .int .i64 (w64 (2 * p1)))] rfl ⟨rfl, rfl, rfl, rfl, rfl, trivial⟩ ?_
              refine WO_loadB tbok 2 rfl rfl rfl rfl (fun _ h => h) rfl rfl ?_
              refine WO_pure tbok 1 [(0, .int .i64 p0_1), (4, .pointer (some ⟨b7, 0, none⟩)), (21, .slice a53 ((l_10).length) c55), (23, .int .i64 (w64 (2 * p1))), (25, .int .i64 (w64 (2 * p2)))] rfl ⟨rfl, rfl, rfl, rfl, rfl, trivial⟩ ?_
              refine WO_freeze 5 rfl (fun m65 hle66 hmm67 => ?_)
              refine WO.cls (C' := St w0 m m65 [[], [⟨b2, 3, [.int .i64 p1]⟩], [⟨b3, 3, [.int .i64 p2]⟩], [⟨b7, 3, [.int .i64 s_6]⟩], [], []]) (fun _ h => h) ?_
              obtain ⟨y_11, hc68, hm32⟩ := bind_some hm32
              refine WO_call2 (aggregate_table_Q y_11) rfl rfl trivial rfl rfl rfl rfl ⟨33, #[], #[], rfl, callable_33, aggregate_table_walk (OwnX.rd (E := V1) (k := 1) (fun _ => rfl) hL52 (mono_RowE (mono_FE _) _) hle66 hmm67) hc68⟩ (fun v72 m73 L71 hle74 hq => ?_)
              obtain ⟨a69, qa69, c70, rfl, h75⟩ := hq
              obtain rfl := SlR.qlen h75
              refine WO.cls (C' := St w0 m m73 [[], [⟨b2, 3, [.int .i64 p1]⟩], [⟨b3, 3, [.int .i64 p2]⟩], [⟨b7, 3, [.int .i64 s_6]⟩], [], [], L71]) (fun _ h => h.sub (by simp)) ?_
              refine WO_pure tbok 1 [(0, .int .i64 p0_1), (4, .pointer (some ⟨b7, 0, none⟩)), (9, .slice a69 ((y_11).length) c70)] rfl ⟨rfl, rfl, rfl, trivial⟩ ?_
              refine WO_end ?_
              refine WK_draw 8 [0, 1, 2, 3, 4, 5, 6, 7] follows_ok (by kernel_rfl) St_closed ?_
              refine WO_loadB tbok 3 rfl rfl rfl rfl (fun _ h => h) rfl rfl ?_
              refine WO_pure tbok 3 [(4, .pointer (some ⟨b7, 0, none⟩)), (27, .int .i64 s_6), (28, .slice a69 ((y_11).length) c70), (30, .int .i64 (w64 (p0_1 - 1)))] rfl ⟨rfl, rfl, rfl, rfl, trivial⟩ ?_
              obtain ⟨v_12, hy76, hm32⟩ := bind_some hm32
              obtain ⟨hc77, hy76⟩ := ix_some hy76
              refine WO_index tbok rfl rfl rfl rfl rfl rfl rfl rfl (SlR.addr h75) hc77 ?_
              refine WO_loadR tbok rfl rfl rfl rfl (fun _ h => St.sat h) h75 hy76 rfl rfl (fun a78 c79 h80 => ?_)
              obtain ⟨y_13, hc81, hm32⟩ := bind_some hm32
              refine WO_call0 (.int .i64 y_13) rfl rfl St_closed rfl rfl rfl rfl St_closed ⟨34, #[], #[], rfl, callable_34, fun w hw => ⟨_, hw.sat, slices_Min_sint_walk h80 hc81⟩⟩ ?_
              refine WO_pure tbok 1 [(4, .pointer (some ⟨b7, 0, none⟩)), (34, .int .i64 (w64 (s_6 + y_13)))] rfl ⟨rfl, rfl, trivial⟩ ?_
              refine WO_tail ?_
              refine WO_storeB tbok 3 [.int .i64 (w64 (s_6 + y_13))] rfl rfl rfl rfl rfl rfl rfl ?_
              refine WO.cls (C' := St w0 m m73 [[], [⟨b2, 3, [.int .i64 p1]⟩], [⟨b3, 3, [.int .i64 p2]⟩], [⟨b7, 3, [.int .i64 (w64 (s_6 + y_13))]⟩], [], [], L71]) (fun _ h => h) ?_
              refine WO_end ?_
              refine WK_nilI RLc_nil (fun _ _ => trivial) ?_
              refine WO_end ?_
              refine WK_blk ?_
              refine WK_region ?_
              refine WO_pure tbok 2 [(3, .pointer (some ⟨b1, 0, none⟩)), (6, .int .i64 0), (7, .int .i64 0), (9, .pointer (some ⟨b7, 0, none⟩)), (10, .func (.func 48) #[] #[.pointer (some ⟨b2, 0, none⟩), .pointer (some ⟨b3, 0, none⟩), .pointer (some ⟨b7, 0, none⟩)]), (36, .int .i64 p0_0), (37, .int .i64 (w64 (s_5 + 1)))] rfl ⟨rfl, rfl, rfl, rfl, rfl, rfl, rfl, trivial⟩ ?_
              refine WO_end ?_
              cases hm32
              refine WK.sub ?_ (WK.cls (fun _ h => St.take 4 h) (hn35 _ m73 rfl ((((hle26.trans hle41).trans hle51).trans hle66).trans hle74)))
              exact ⟨rfl, rfl, rfl, rfl, rfl, rfl, rfl, trivial⟩
            · refine WK_block ?_
              refine WK_loop (S := List (List Int) × Int) (G := Mu × Option Addr × Nat × Nat × List Ent) (fun s => aggregate_Bound_s3 p0_0 p0_1 p0_2 p0_3 s_5 s.1 s.2) (fun s g => [(0, .int .i64 p0_1), (1, .func (.func 51) #[] #[.pointer (some ⟨b1, 0, none⟩), .pointer (some ⟨b39, 0, none⟩)]), (2, .pointer (some ⟨b2, 0, none⟩)), (3, .pointer (some ⟨b3, 0, none⟩)), (4, .pointer (some ⟨b7, 0, none⟩)), (7, .slice g.2.1 g.2.2.1 g.2.2.2.1), (10, .int .i64 p0_1), (11, .int .i64 s.2)]) (fun s g => St w0 m g.1 [[], [⟨b2, 3, [.int .i64 p1]⟩], [⟨b3, 3, [.int .i64 p2]⟩], [⟨b7, 3, [.int .i64 s_6]⟩], [], g.2.2.2.2]) (fun s g => Le m40 g.1 ∧ OwnX 24 1 V1 (RowE (FE (I1 .i64)) 1) g.1 (.slice g.2.1 g.2.2.1 g.2.2.2.1) s.1 g.2.2.2.2) FUEL (([] : List (List Int)), 0) (m40, none, 0, 0, []) x56 hx57 ⟨(Le.refl _), (OwnX.nil (T := 24) (k := 1) (E := V1) (El := (RowE (FE (I1 .i64)) 1)) (m := m40) none)⟩ ⟨rfl, rfl, rfl, rfl, rfl, rfl, rfl, rfl, trivial⟩ (fun _ h => h) ?_
              rintro ⟨l_8, s_9⟩ ⟨m44, a47, q48, c49, L46⟩ o60 fl61 hm59 ⟨hle45, hL46⟩ hn62 hd63
              have hm59 : aggregate_Bound_s3 p0_0 p0_1 p0_2 p0_3 s_5 l_8 s_9 = some o60 := hm59
              unfold aggregate_Bound_s3 at hm59
              have hqq : q48 = l_8.length := OwnX.qlen hL46
              subst hqq
              refine WK.sub (e' := [(0, .int .i64 p0_1), (1, .func (.func 51) #[] #[.pointer (some ⟨b1, 0, none⟩), .pointer (some ⟨b39, 0, none⟩)]), (2, .pointer (some ⟨b2, 0, none⟩)), (3, .pointer (some ⟨b3, 0, none⟩)), (4, .pointer (some ⟨b7, 0, none⟩)), (7, .slice a47 ((l_8).length) c49), (10, .int .i64 p0_1), (11, .int .i64 s_9)]) ⟨rfl, rfl, rfl, rfl, rfl, rfl, rfl, rfl, trivial⟩ (WK.cls (C' := St w0 m m44 [[], [⟨b2, 3, [.int .i64 p1]⟩], [⟨b3, 3, [.int .i64 p2]⟩], [⟨b7, 3, [.int .i64 s_6]⟩], [], L46]) (fun _ h => h) ?_)
              refine WK_seq ?_
              refine WK_region ?_
              refine WO_pure tbok 1 [(0, .int .i64 p0_1), (1, .func (.func 51) #[] #[.pointer (some ⟨b1, 0, none⟩), .pointer (some ⟨b39, 0, none⟩)]), (2, .pointer (some ⟨b2, 0, none⟩)), (3, .pointer (some ⟨b3, 0, none⟩)), (4, .pointer (some ⟨b7, 0, none⟩)), (7, .slice a47 ((l_8).length) c49), (10, .int .i64 p0_1), (11, .int .i64 s_9), (12, .bool (decide (s_9 < p0_1)))] rfl ⟨rfl, rfl, rfl, rfl, rfl, rfl, rfl, rfl, rfl, trivial⟩ ?_
              refine WO_end ?_
              refine WK_seq ?_
              refine WK_cond (b := decide (s_9 < p0_1)) rfl (fun hb82 => ?_) (fun hb82 => ?_)
              · have hm59 := ifT hb82 hm59
                refine WK_skip ?_
                refine WK_seq ?_
                refine WK_block ?_
                refine WK_seq ?_
                refine WK_region ?_
                refine WO_pure tbok 2 [(0, .int .i64 p0_1), (1, .func (.func 51) #[] #[.pointer (some ⟨b1, 0, none⟩), .pointer (some ⟨b39, 0, none⟩)]), (2, .pointer (some ⟨b2, 0, none⟩)), (3, .pointer (some ⟨b3, 0, none⟩)), (4, .pointer (some ⟨b7, 0, none⟩)), (7, .slice a47 ((l_8).length) c49), (8, .int .i64 s_9), (10, .int .i64 p0_1), (11, .int .i64 s_9)] rfl ⟨rfl, rfl, rfl, rfl, rfl, rfl, rfl, rfl, rfl, trivial⟩ ?_
                refine WO_end ?_
                refine WK_region ?_
                refine WO_pure tbok 3 [(0, .int .i64 p0_1), (1, .func (.func 51) #[] #[.pointer (some ⟨b1, 0, none⟩), .pointer (some ⟨b39, 0, none⟩)]), (2, .pointer (some ⟨b2, 0, none⟩)), (3, .pointer (some ⟨b3, 0, none⟩)), (4, .pointer (some ⟨b7, 0, none⟩)), (7, .slice a47 ((l_8).length) c49), (10, .int .i64 p0_1), (11, .int .i64 s_9), (14, .slice a47 ((l_8).length) c49), (15, .func (.func 51) #[] #[.pointer (some ⟨b1, 0, none⟩), .pointer (some ⟨b39, 0, none⟩)]), (16, .int .i64 s_9)] rfl ⟨rfl, rfl, rfl, rfl, rfl, rfl, rfl, rfl, rfl, rfl, rfl, trivial⟩ ?_
                obtain ⟨y_14, hc83, hm59⟩ := bind_some hm59
                refine WO_call2 (aggregate_Bound_c3_Q y_14) rfl rfl trivial rfl rfl rfl rfl ⟨51, #[], #[.pointer (some ⟨b1, 0, none⟩), .pointer (some ⟨b39, 0, none⟩)], rfl, callable_51, aggregate_Bound_c3_walk (hle45 _ _ (hle41 _ _ (hle26 _ _ (hle15 _ _ (hmm10 _ (List.mem_singleton.2 rfl)))))) (((((h_p0_3.mono (mono_FE _) hle9).mono (mono_FE _) hle15).mono (mono_FE _) hle26).mono (mono_FE _) hle41).mono (mono_FE _) hle45) (hle45 _ _ (hmm42 _ (List.mem_singleton.2 rfl))) hc83⟩ (fun v87 m88 L86 hle89 hq => ?_)
                obtain ⟨a84, qa84, c85, rfl, h90⟩ := hq
                obtain rfl := SlR.qlen h90
                refine WO.cls (C' := St w0 m m88 [[], [⟨b2, 3, [.int .i64 p1]⟩], [⟨b3, 3, [.int .i64 p2]⟩], [⟨b7, 3, [.int .i64 s_6]⟩], [], L46, L86]) (fun _ h => h.sub (by simp)) ?_
                refine WO_bsliceX (E := V1) (El := (RowE (FE (I1 .i64)) 1)) tbok (fun _ => rfl) (by decide) [.slice a84 ((y_14).length) c85] [.slice a84 ((y_14).length) c85] ([y_14] : List (List Int)) rfl rfl trivial rfl rfl rfl rfl rfl rfl rfl rfl rfl rfl rfl rfl ⟨⟨_, rfl, h90⟩, trivial⟩ (fun b91 hb91 => ?_)
                refine WO.cls (C' := St w0 m m88 [[], [⟨b2, 3, [.int .i64 p1]⟩], [⟨b3, 3, [.int .i64 p2]⟩], [⟨b7, 3, [.int .i64 s_6]⟩], [], L46, L86, [⟨b91, 24, [.slice a84 ((y_14).length) c85]⟩]]) (fun _ h => h) ?_
                obtain ⟨hc92, hm59⟩ := chk_some hm59
                refine WO_appendX (E := V1) (El := (RowE (FE (I1 .i64)) 1)) tbok (fun _ => rfl) 5 [.slice a84 ((y_14).length) c85] ([y_14] : List (List Int)) (one_lit rfl) rfl rfl rfl rfl rfl rfl rfl rfl rfl rfl rfl rfl (hL46.mono (mono_RowE (mono_FE _) _) hle89) rfl (src_seg (j := 7) rfl) ⟨⟨_, rfl, h90⟩, trivial⟩ (ap_ok (by decide) hc92) (ap_max hc92) (fun a93 c94 L95 hL95 => ?_)
                refine WO.cls (C' := St w0 m m88 [[], [⟨b2, 3, [.int .i64 p1]⟩], [⟨b3, 3, [.int .i64 p2]⟩], [⟨b7, 3, [.int .i64 s_6]⟩], [], L95, L86, [⟨b91, 24, [.slice a84 ((y_14).length) c85]⟩]]) (fun _ h => h) ?_
                refine WO_pure tbok 1 [(0, .int .i64 p0_1), (1, .func (.func 51) #[] #[.pointer (some ⟨b1, 0, none⟩), .pointer (some ⟨b39, 0, none⟩)]), (2, .pointer (some ⟨b2, 0, none⟩)), (3, .pointer (some ⟨b3, 0, none⟩)), (4, .pointer (some ⟨b7, 0, none⟩)), (7, .slice a93 ((l_8 ++ ([y_14] : List (List Int))).length) c94), (10, .int .i64 p0_1), (11, .int .i64 s_9)] rfl ⟨rfl, rfl, rfl, rfl, rfl, rfl, rfl, rfl, trivial⟩ ?_
                refine WO_end ?_
                refine WK_blk ?_
                refine WK_region ?_
                refine WO_pure tbok 2 [(0, .int .i64 p0_1), (1, .func (.func 51) #[] #[.pointer (some ⟨b1, 0, none⟩), .pointer (some ⟨b39, 0, none⟩)]), (2, .pointer (some ⟨b2, 0, none⟩)), (3, .pointer (some ⟨b3, 0, none⟩)), (4, .pointer (some ⟨b7, 0, none⟩)), (7, .slice a93 ((l_8 ++ ([y_14] : List (List Int))).length) c94), (10, .int .i64 p0_1), (11, .int .i64 (w64 (s_9 + 1)))] rfl ⟨rfl, rfl, rfl, rfl, rfl, rfl, rfl, rfl, trivial⟩ ?_
                refine WO_end ?_
                cases hm59
                refine WK.sub ?_ (WK.cls (fun _ h => St.take 6 h) (hn62 _ (m88, a93, (l_8 ++ ([y_14] : List (List Int))).length, c94, L95) rfl ⟨(hle45.trans hle89), hL95⟩))
                exact ⟨rfl, rfl, rfl, rfl, rfl, rfl, rfl, rfl, trivial⟩
              · have hm59 := ifF hb82 hm59
                refine WK_exit rfl ?_
                cases hm59
                refine WK.sub ?_ (WK.cls (fun _ h => h) (hk58 (l_8, (m44, a47, _, c49, L46)) ⟨(hd63 _ rfl), hle45, hL46⟩))
                exact ⟨rfl, rfl, rfl, rfl, rfl, trivial⟩
          · have hm32 := ifF hb38 hm32
            refine WK_exit rfl ?_
            cases hm32
            refine WK.sub ?_ (WK.cls (fun _ h => h) (hk31 (s_6, m25) ⟨(hd36 _ rfl), hle26⟩))
            exact ⟨rfl, rfl, rfl, trivial⟩
      · refine WK_block ?_
        refine WK_loop (S := Int × Int) (G := Mu) (fun s => aggregate_Bound_s1 p0_0 p0_1 p0_2 p0_3 p1 p2 s.1 s.2) (fun s g => [(3, .pointer (some ⟨b1, 0, none⟩)), (6, .int .i64 0), (7, .int .i64 0), (9, .pointer (some ⟨b7, 0, none⟩)), (10, .func (.func 48) #[] #[.pointer (some ⟨b2, 0, none⟩), .pointer (some ⟨b3, 0, none⟩), .pointer (some ⟨b7, 0, none⟩)]), (25, .int .i64 p0_1), (26, .int .i64 s.1)]) (fun s g => St w0 m g [[], [⟨b2, 3, [.int .i64 p1]⟩], [⟨b3, 3, [.int .i64 p2]⟩], [⟨b7, 3, [.int .i64 s.2]⟩]]) (fun s g => Le m8 g) FUEL (0, 0) m8 x16 hx17 (Le.refl _) ⟨rfl, rfl, rfl, rfl, rfl, rfl, rfl, trivial⟩ (fun _ h => h) ?_
        rintro ⟨s_2, s_3⟩ m12 o20 fl21 hm19 hle13 hn22 hd23
        have hm19 : aggregate_Bound_s1 p0_0 p0_1 p0_2 p0_3 p1 p2 s_2 s_3 = some o20 := hm19
        unfold aggregate_Bound_s1 at hm19
        refine WK.sub (e' := [(3, .pointer (some ⟨b1, 0, none⟩)), (6, .int .i64 0), (7, .int .i64 0), (9, .pointer (some ⟨b7, 0, none⟩)), (10, .func (.func 48) #[] #[.pointer (some ⟨b2, 0, none⟩), .pointer (some ⟨b3, 0, none⟩), .pointer (some ⟨b7, 0, none⟩)]), (25, .int .i64 p0_1), (26, .int .i64 s_2)]) ⟨rfl, rfl, rfl, rfl, rfl, rfl, rfl, trivial⟩ (WK.cls (C' := St w0 m m12 [[], [⟨b2, 3, [.int .i64 p1]⟩], [⟨b3, 3, [.int .i64 p2]⟩], [⟨b7, 3, [.int .i64 s_3]⟩]]) (fun _ h => h) ?_)
        refine WK_seq ?_
        refine WK_region ?_
        refine WO_pure tbok 1 [(3, .pointer (some ⟨b1, 0, none⟩)), (6, .int .i64 0), (7, .int .i64 0), (9, .pointer (some ⟨b7, 0, none⟩)), (10, .func (.func 48) #[] #[.pointer (some ⟨b2, 0, none⟩), .pointer (some ⟨b3, 0, none⟩), .pointer (some ⟨b7, 0, none⟩)]), (25, .int .i64 p0_1), (26, .int .i64 s_2), (27, .bool (decide (s_2 < p0_1)))] rfl ⟨rfl, rfl, rfl, rfl, rfl, rfl, rfl, rfl, trivial⟩ ?_
        refine WO_end ?_
        refine WK_seq ?_
        refine WK_cond (b := decide (s_2 < p0_1)) rfl (fun hb96 => ?_) (fun hb96 => ?_)
        · have hm19 := ifT hb96 hm19
          refine WK_skip ?_
          refine WK_seq ?_
          refine WK_block ?_
          refine WK_seq ?_
          refine WK_region ?_
          refine WO_pure tbok 1 [(3, .pointer (some ⟨b1, 0, none⟩)), (6, .int .i64 0), (7, .int .i64 0), (9, .pointer (some ⟨b7, 0, none⟩)), (10, .func (.func 48) #[] #[.pointer (some ⟨b2, 0, none⟩), .pointer (some ⟨b3, 0, none⟩), .pointer (some ⟨b7, 0, none⟩)]), (25, .int .i64 p0_1), (26, .int .i64 s_2), (28, .int .i64 s_2)] rfl ⟨rfl, rfl, rfl, rfl, rfl, rfl, rfl, rfl, trivial⟩ ?_
          refine WO_alloc tbok [.int .i64 0] rfl rfl trivial rfl rfl rfl rfl (fun b97 => ?_)
          refine WO.cls (C' := St w0 m m12 [[], [⟨b2, 3, [.int .i64 p1]⟩], [⟨b3, 3, [.int .i64 p2]⟩], [⟨b7, 3, [.int .i64 s_3]⟩], [⟨b97, 3, [.int .i64 0]⟩]]) (fun _ h => h) ?_
          refine WO_storeB tbok 4 [.int .i64 s_2] rfl rfl rfl rfl rfl rfl rfl ?_
          refine WO.cls (C' := St w0 m m12 [[], [⟨b2, 3, [.int .i64 p1]⟩], [⟨b3, 3, [.int .i64 p2]⟩], [⟨b7, 3, [.int .i64 s_3]⟩], [⟨b97, 3, [.int .i64 s_2]⟩]]) (fun _ h => h) ?_
          refine WO_end ?_
          refine WK_region ?_
          refine WO_pure tbok 2 [(3, .pointer (some ⟨b1, 0, none⟩)), (6, .int .i64 0), (7, .int .i64 0), (9, .pointer (some ⟨b7, 0, none⟩)), (10, .func (.func 48) #[] #[.pointer (some ⟨b2, 0, none⟩), .pointer (some ⟨b3, 0, none⟩), .pointer (some ⟨b7, 0, none⟩)]), (11, .pointer (some ⟨b97, 0, none⟩)), (25, .int .i64 p0_1), (26, .int .i64 s_2), (29, .func (.func 48) #[] #[.pointer (some ⟨b2, 0, none⟩), .pointer (some ⟨b3, 0, none⟩), .pointer (some ⟨b7, 0, none⟩)]), (30, .pointer (some ⟨b1, 0, none⟩))] rfl ⟨rfl, rfl, rfl, rfl, rfl, rfl, rfl, rfl, rfl, rfl, trivial⟩ ?_
          refine WO_loadM tbok rfl rfl rfl rfl (fun _ h => St.sat h) (hle13 _ _ (hmm10 _ (List.mem_singleton.2 rfl))) rfl ?_
          refine WO_pure tbok 1 [(3, .pointer (some ⟨b1, 0, none⟩)), (6, .int .i64 0), (7, .int .i64 0), (9, .pointer (some ⟨b7, 0, none⟩)), (10, .func (.func 48) #[] #[.pointer (some ⟨b2, 0, none⟩), .pointer (some ⟨b3, 0, none⟩), .pointer (some ⟨b7, 0, none⟩)]), (25, .int .i64 p0_1), (26, .int .i64 s_2), (29, .func (.func 48) #[] #[.pointer (some ⟨b2, 0, none⟩), .pointer (some ⟨b3, 0, none⟩), .pointer (some ⟨b7, 0, none⟩)]), (31, .int .i64 p0_0), (32, .func (.func 49) #[] #[.pointer (some ⟨b1, 0, none⟩), .pointer (some ⟨b97, 0, none⟩)])] rfl ⟨rfl, rfl, rfl, rfl, rfl, rfl, rfl, rfl, rfl, rfl, trivial⟩ ?_
          refine WO_inline rfl rfl rfl rfl rfl rfl callable_48 Try.func48 rfl rfl rfl ?_
          refine WK.sub (e' := [(0, .int .i64 p0_0), (1, .func (.func 49) #[] #[.pointer (some ⟨b1, 0, none⟩), .pointer (some ⟨b97, 0, none⟩)]), (2, .pointer (some ⟨b2, 0, none⟩)), (3, .pointer (some ⟨b3, 0, none⟩)), (4, .pointer (some ⟨b7, 0, none⟩))]) ⟨rfl, rfl, rfl, rfl, rfl, trivial⟩ ?_
          refine WK_seq ?_
          refine WK_region ?_
          refine WO_pure tbok 1 [(0, .int .i64 p0_0), (1, .func (.func 49) #[] #[.pointer (some ⟨b1, 0, none⟩), .pointer (some ⟨b97, 0, none⟩)]), (2, .pointer (some ⟨b2, 0, none⟩)), (3, .pointer (some ⟨b3, 0, none⟩)), (4, .pointer (some ⟨b7, 0, none⟩)), (7, .slice none 0 0)] rfl ⟨rfl, rfl, rfl, rfl, rfl, rfl, trivial⟩ ?_
          refine WO_end ?_
          refine WK_seq ?_
          refine WK_seq ?_
          refine WK_region ?_
          refine WO_pure tbok 2 [(0, .int .i64 p0_0), (1, .func (.func 49) #[] #[.pointer (some ⟨b1, 0, none⟩), .pointer (some ⟨b97, 0, none⟩)]), (2, .pointer (some ⟨b2, 0, none⟩)), (3, .pointer (some ⟨b3, 0, none⟩)), (4, .pointer (some ⟨b7, 0, none⟩)), (7, .slice none 0 0), (10, .int .i64 p0_0), (11, .int .i64 0)] rfl ⟨rfl, rfl, rfl, rfl, rfl, rfl, rfl, rfl, trivial⟩ ?_
          refine WO_end ?_
          refine WK_freeze 4 rfl (fun m98 hle99 hmm100 => ?_)
          refine WK.cls (C' := St w0 m m98 [[], [⟨b2, 3, [.int .i64 p1]⟩], [⟨b3, 3, [.int .i64 p2]⟩], [⟨b7, 3, [.int .i64 s_3]⟩], []]) (fun _ h => h) ?_
          refine WK_pad ?_
          obtain ⟨x114, hx115, hm19⟩ := bind_some hm19
          refine WK_join (β := (List (List Int)) × (Mu × Option Addr × Nat × Nat × List Ent)) (fun p => p.1 = x114 ∧ Le m98 p.2.1 ∧ OwnX 24 1 V1 (RowE (FE (I1 .i64)) 1) p.2.1 (.slice p.2.2.1 p.2.2.2.1 p.2.2.2.2.1) p.1 p.2.2.2.2.2) (fun p => [(0, .int .i64 p0_0), (2, .pointer (some ⟨b2, 0, none⟩)), (3, .pointer (some ⟨b3, 0, none⟩)), (4, .pointer (some ⟨b7, 0, none⟩)), (7, .slice p.2.2.1 p.2.2.2.1 p.2.2.2.2.1)]) (fun p => St w0 m p.2.1 [[], [⟨b2, 3, [.int .i64 p1]⟩], [⟨b3, 3, [.int .i64 p2]⟩], [⟨b7, 3, [.int .i64 s_3]⟩], [], p.2.2.2.2.2]) ?_ (fun hk116 => ?_)
          · rintro ⟨l_17, ⟨m108, a111, q112, c113, L110⟩⟩ ⟨hq122, hle109, hL110⟩
            subst hq122
            have hqq : q112 = l_17.length := OwnX.qlen hL110
            subst hqq
            refine WK.sub (e' := [(0, .int .i64 p0_0), (2, .pointer (some ⟨b2, 0, none⟩)), (3, .pointer (some ⟨b3, 0, none⟩)), (4, .pointer (some ⟨b7, 0, none⟩)), (7, .slice a111 ((l_17).length) c113)]) ⟨rfl, rfl, rfl, rfl, rfl, trivial⟩ (WK.cls (C' := St w0 m m108 [[], [⟨b2, 3, [.int .i64 p1]⟩], [⟨b3, 3, [.int .i64 p2]⟩], [⟨b7, 3, [.int .i64 s_3]⟩], [], L110]) (fun _ h => h) ?_)
            refine WK_seq ?_
            refine WK_region ?_
            refine WO_pure tbok 1 [(0, .int .i64 p0_0), (2, .pointer (some ⟨b2, 0, none⟩)), (3, .pointer (some ⟨b3, 0, none⟩)), (4, .pointer (some ⟨b7, 0, none⟩)), (21, .slice a111 ((l_17).length) c113)] rfl ⟨rfl, rfl, rfl, rfl, rfl, trivial⟩ ?_
            refine WO_loadB tbok 1 rfl rfl rfl rfl (fun _ h => h) rfl rfl ?_
            refine WO_pure tbok 1 [(0, .int .i64 p0_0), (3, .pointer (some ⟨b3, 0, none⟩)), (4, .pointer (some ⟨b7, 0, none⟩)), (21, .slice a111 ((l_17).length) c113), (23, .int .i64 (w64 (2 * p1)))] rfl ⟨rfl, rfl, rfl, rfl, rfl, trivial⟩ ?_
            refine WO_loadB tbok 2 rfl rfl rfl rfl (fun _ h => h) rfl rfl ?_
            refine WO_pure tbok 1 [(0, .int .i64 p0_0), (4, .pointer (some ⟨b7, 0, none⟩)), (21, .slice a111 ((l_17).length) c113), (23, .int .i64 (w64 (2 * p1))), (25, .int .i64 (w64 (2 * p2)))] rfl ⟨rfl, rfl, rfl, rfl, rfl, trivial⟩ ?_
            refine WO_freeze 5 rfl (fun m123 hle124 hmm125 => ?_)
            refine WO.cls (C' := St w0 m m123 [[], [⟨b2, 3, [.int .i64 p1]⟩], [⟨b3, 3, [.int .i64 p2]⟩], [⟨b7, 3, [.int .i64 s_3]⟩], [], []]) (fun _ h => h) ?_
            obtain ⟨y_18, hc126, hm19⟩ := bind_some hm19
            refine WO_call2 (aggregate_table_Q y_18) rfl rfl trivial rfl rfl rfl rfl ⟨33, #[], #[], rfl, callable_33, aggregate_table_walk (OwnX.rd (E := V1) (k := 1) (fun _ => rfl) hL110 (mono_RowE (mono_FE _) _) hle124 hmm125) hc126⟩ (fun v130 m131 L129 hle132 hq => ?_)
            obtain ⟨a127, qa127, c128, rfl, h133⟩ := hq
            obtain rfl := SlR.qlen h133
            refine WO.cls (C' := St w0 m m131 [[], [⟨b2, 3, [.int .i64 p1]⟩], [⟨b3, 3, [.int .i64 p2]⟩], [⟨b7, 3, [.int .i64 s_3]⟩], [], [], L129]) (fun _ h => h.sub (by simp)) ?_
            refine WO_pure tbok 1 [(0, .int .i64 p0_0), (4, .pointer (some ⟨b7, 0, none⟩)), (9, .slice a127 ((y_18).length) c128)] rfl ⟨rfl, rfl, rfl, trivial⟩ ?_
            refine WO_end ?_
            refine WK_draw 8 [0, 1, 2, 3, 4, 5, 6, 7] follows_ok (by kernel_rfl) St_closed ?_
            refine WO_loadB tbok 3 rfl rfl rfl rfl (fun _ h => h) rfl rfl ?_
            refine WO_pure tbok 3 [(4, .pointer (some ⟨b7, 0, none⟩)), (27, .int .i64 s_3), (28, .slice a127 ((y_18).length) c128), (30, .int .i64 (w64 (p0_0 - 1)))] rfl ⟨rfl, rfl, rfl, rfl, trivial⟩ ?_
            obtain ⟨v_19, hy134, hm19⟩ := bind_some hm19
            obtain ⟨hc135, hy134⟩ := ix_some hy134
            refine WO_index tbok rfl rfl rfl rfl rfl rfl rfl rfl (SlR.addr h133) hc135 ?_
            refine WO_loadR tbok rfl rfl rfl rfl (fun _ h => St.sat h) h133 hy134 rfl rfl (fun a136 c137 h138 => ?_)
            obtain ⟨y_20, hc139, hm19⟩ := bind_some hm19
            refine WO_call0 (.int .i64 y_20) rfl rfl St_closed rfl rfl rfl rfl St_closed ⟨34, #[], #[], rfl, callable_34, fun w hw => ⟨_, hw.sat, slices_Min_sint_walk h138 hc139⟩⟩ ?_
            refine WO_pure tbok 1 [(4, .pointer (some ⟨b7, 0, none⟩)), (34, .int .i64 (w64 (s_3 + y_20)))] rfl ⟨rfl, rfl, trivial⟩ ?_
            refine WO_tail ?_
            refine WO_storeB tbok 3 [.int .i64 (w64 (s_3 + y_20))] rfl rfl rfl rfl rfl rfl rfl ?_
            refine WO.cls (C' := St w0 m m131 [[], [⟨b2, 3, [.int .i64 p1]⟩], [⟨b3, 3, [.int .i64 p2]⟩], [⟨b7, 3, [.int .i64 (w64 (s_3 + y_20))]⟩], [], [], L129]) (fun _ h => h) ?_
            refine WO_end ?_
            refine WK_nilI RLc_nil (fun _ _ => trivial) ?_
            refine WO_end ?_
            refine WK_blk ?_
            refine WK_region ?_
            refine WO_pure tbok 2 [(3, .pointer (some ⟨b1, 0, none⟩)), (6, .int .i64 0), (7, .int .i64 0), (9, .pointer (some ⟨b7, 0, none⟩)), (10, .func (.func 48) #[] #[.pointer (some ⟨b2, 0, none⟩), .pointer (some ⟨b3, 0, none⟩), .pointer (some ⟨b7, 0, none⟩)]), (25, .int .i64 p0_1), (26, .int .i64 (w64 (s_2 + 1)))] rfl ⟨rfl, rfl, rfl, rfl, rfl, rfl, rfl, trivial⟩ ?_
            refine WO_end ?_
            cases hm19
            refine WK.sub ?_ (WK.cls (fun _ h => St.take 4 h) (hn22 _ m131 rfl ((((hle13.trans hle99).trans hle109).trans hle124).trans hle132)))
            exact ⟨rfl, rfl, rfl, rfl, rfl, rfl, rfl, trivial⟩
          · refine WK_block ?_
            refine WK_loop (S := List (List Int) × Int) (G := Mu × Option Addr × Nat × Nat × List Ent) (fun s => aggregate_Bound_s4 p0_0 p0_1 p0_2 p0_3 s_2 s.1 s.2) (fun s g => [(0, .int .i64 p0_0), (1, .func (.func 49) #[] #[.pointer (some ⟨b1, 0, none⟩), .pointer (some ⟨b97, 0, none⟩)]), (2, .pointer (some ⟨b2, 0, none⟩)), (3, .pointer (some ⟨b3, 0, none⟩)), (4, .pointer (some ⟨b7, 0, none⟩)), (7, .slice g.2.1 g.2.2.1 g.2.2.2.1), (10, .int .i64 p0_0), (11, .int .i64 s.2)]) (fun s g => St w0 m g.1 [[], [⟨b2, 3, [.int .i64 p1]⟩], [⟨b3, 3, [.int .i64 p2]⟩], [⟨b7, 3, [.int .i64 s_3]⟩], [], g.2.2.2.2]) (fun s g => Le m98 g.1 ∧ OwnX 24 1 V1 (RowE (FE (I1 .i64)) 1) g.1 (.slice g.2.1 g.2.2.1 g.2.2.2.1) s.1 g.2.2.2.2) FUEL (([] : List (List Int)), 0) (m98, none, 0, 0, []) x114 hx115 ⟨(Le.refl _), (OwnX.nil (T := 24) (k := 1) (E := V1) (El := (RowE (FE (I1 .i64)) 1)) (m := m98) none)⟩ ⟨rfl, rfl, rfl, rfl, rfl, rfl, rfl, rfl, trivial⟩ (fun _ h => h) ?_
            rintro ⟨l_15, s_16⟩ ⟨m102, a105, q106, c107, L104⟩ o118 fl119 hm117 ⟨hle103, hL104⟩ hn120 hd121
            have hm117 : aggregate_Bound_s4 p0_0 p0_1 p0_2 p0_3 s_2 l_15 s_16 = some o118 := hm117
            unfold aggregate_Bound_s4 at hm117
            have hqq : q106 = l_15.length := OwnX.qlen hL104
            subst hqq
            refine WK.sub (e' := [(0, .int .i64 p0_0), (1, .func (.func 49) #[] #[.pointer (some ⟨b1, 0, none⟩), .pointer (some ⟨b97, 0, none⟩)]), (2, .pointer (some ⟨b2, 0, none⟩)), (3, .pointer (some ⟨b3, 0, none⟩)), (4, .pointer (some ⟨b7, 0, none⟩)), (7, .slice a105 ((l_15).length) c107), (10, .int .i64 p0_0), (11, .int .i64 s_16)]) ⟨rfl, rfl, rfl, rfl, rfl, rfl, rfl, rfl, trivial⟩ (WK.cls (C' := St w0 m m102 [[], [⟨b2, 3, [.int .i64 p1]⟩], [⟨b3, 3, [.int .i64 p2]⟩], [⟨b7, 3, [.int .i64 s_3]⟩], [], L104]) (fun _ h => h) ?_)
            refine WK_seq ?_
            refine WK_region ?_
            refine WO_pure tbok 1 [(0, .int .i64 p0_0), (1, .func (.func 49) #[] #[.pointer (some ⟨b1, 0, none⟩), .pointer (some ⟨b97, 0, none⟩)]), (2, .pointer (some ⟨b2, 0, none⟩)), (3, .pointer (some ⟨b3, 0, none⟩)), (4, .pointer (some ⟨b7, 0, none⟩)), (7, .slice a105 ((l_15).length) c107), (10, .int .i64 p0_0), (11, .int .i64 s_16), (12, .bool (decide (s_16 < p0_0)))] rfl ⟨rfl, rfl, rfl, rfl, rfl, rfl, rfl, rfl, rfl, trivial⟩ ?_
            refine WO_end ?_
            refine WK_seq ?_
            refine WK_cond (b := decide (s_16 < p0_0)) rfl (fun hb140 => ?_) (fun hb140 => ?_)
            · have hm117 := ifT hb140 hm117
              refine WK_skip ?_
              refine WK_seq ?_
              refine WK_block ?_
              refine WK_seq ?_
              refine WK_region ?_
              refine WO_pure tbok 2 [(0, .int .i64 p0_0), (1, .func (.func 49) #[] #[.pointer (some ⟨b1, 0, none⟩), .pointer (some ⟨b97, 0, none⟩)]), (2, .pointer (some ⟨b2, 0, none⟩)), (3, .pointer (some ⟨b3, 0, none⟩)), (4, .pointer (some ⟨b7, 0, none⟩)), (7, .slice a105 ((l_15).length) c107), (8, .int .i64 s_16), (10, .int .i64 p0_0), (11, .int .i64 s_16)] rfl ⟨rfl, rfl, rfl, rfl, rfl, rfl, rfl, rfl, rfl, trivial⟩ ?_
              refine WO_end ?_
              refine WK_region ?_
              refine WO_pure tbok 3 [(0, .int .i64 p0_0), (1, .func (.func 49) #[] #[.pointer (some ⟨b1, 0, none⟩), .pointer (some ⟨b97, 0, none⟩)]), (2, .pointer (some ⟨b2, 0, none⟩)), (3, .pointer (some ⟨b3, 0, none⟩)), (4, .pointer (some ⟨b7, 0, none⟩)), (7, .slice a105 ((l_15).length) c107), (10, .int .i64 p0_0), (11, .int .i64 s_16), (14, .slice a105 ((l_15).length) c107), (15, .func (.func 49) #[] #[.pointer (some ⟨b1, 0, none⟩), .pointer (some ⟨b97, 0, none⟩)]), (16, .int .i64 s_16)] rfl ⟨rfl, rfl, rfl, rfl, rfl, rfl, rfl, rfl, rfl, rfl, rfl, trivial⟩ ?_
              obtain ⟨y_21, hc141, hm117⟩ := bind_some hm117
              refine WO_call2 (aggregate_Bound_c2_Q y_21) rfl rfl trivial rfl rfl rfl rfl ⟨49, #[], #[.pointer (some ⟨b1, 0, none⟩), .pointer (some ⟨b97, 0, none⟩)], rfl, callable_49, aggregate_Bound_c2_walk (hle103 _ _ (hle99 _ _ (hle13 _ _ (hmm10 _ (List.mem_singleton.2 rfl))))) ((((h_p0_3.mono (mono_FE _) hle9).mono (mono_FE _) hle13).mono (mono_FE _) hle99).mono (mono_FE _) hle103) (hle103 _ _ (hmm100 _ (List.mem_singleton.2 rfl))) hc141⟩ (fun v145 m146 L144 hle147 hq => ?_)
              obtain ⟨a142, qa142, c143, rfl, h148⟩ := hq
              obtain rfl := SlR.qlen h148
              refine WO.cls (C' := St w0 m m146 [[], [⟨b2, 3, [.int .i64 p1]⟩], [⟨b3, 3, [.int .i64 p2]⟩], [⟨b7, 3, [.int .i64 s_3]⟩], [], L104, L144]) (fun _ h => h.sub (by simp)) ?_
              refine WO_bsliceX (E := V1) (El := (RowE (FE (I1 .i64)) 1)) tbok (fun _ => rfl) (by decide) [.slice a142 ((y_21).length) c143] [.slice a142 ((y_21).length) c143] ([y_21] : List (List Int)) rfl rfl trivial rfl rfl rfl rfl rfl rfl rfl rfl rfl rfl rfl rfl ⟨⟨_, rfl, h148⟩, trivial⟩ (fun b149 hb149 => ?_)
              refine WO.cls (C' := St w0 m m146 [[], [⟨b2, 3, [.int .i64 p1]⟩], [⟨b3, 3, [.int .i64 p2]⟩], [⟨b7, 3, [.int .i64 s_3]⟩], [], L104, L144, [⟨b149, 24, [.slice a142 ((y_21).length) c143]⟩]]) (fun _ h => h) ?_
              obtain ⟨hc150, hm117⟩ := chk_some hm117
              refine WO_appendX (E := V1) (El := (RowE (FE (I1 .i64)) 1)) tbok (fun _ => rfl) 5 [.slice a142 ((y_21).length) c143] ([y_21] : List (List Int)) (one_lit rfl) rfl rfl rfl rfl rfl rfl rfl rfl rfl rfl rfl rfl (hL104.mono (mono_RowE (mono_FE _) _) hle147) rfl (src_seg (j := 7) rfl) ⟨⟨_, rfl, h148⟩, trivial⟩ (ap_ok (by decide) hc150) (ap_max hc150) (fun a151 c152 L153 hL153 => ?_)
              refine WO.cls (C' := St w0 m m146 [[], [⟨b2, 3, [.int .i64 p1]⟩], [⟨b3, 3, [.int .i64 p2]⟩], [⟨b7, 3, [.int .i64 s_3]⟩], [], L153, L144, [⟨b149, 24, [.slice a142 ((y_21).length) c143]⟩]]) (fun _ h => h) ?_
              refine WO_pure tbok 1 [(0, .int .i64 p0_0), (1, .func (.func 49) #[] #[.pointer (some ⟨b1, 0, none⟩), .pointer (some ⟨b97, 0, none⟩)]), (2, .pointer (some ⟨b2, 0, none⟩)), (3, .pointer (some ⟨b3, 0, none⟩)), (4, .pointer (some ⟨b7, 0, none⟩)), (7, .slice a151 ((l_15 ++ ([y_21] : List (List Int))).length) c152), (10, .int .i64 p0_0), (11, .int .i64 s_16)] rfl ⟨rfl, rfl, rfl, rfl, rfl, rfl, rfl, rfl, trivial⟩ ?_
              refine WO_end ?_
              refine WK_blk ?_
              refine WK_region ?_
              refine WO_pure tbok 2 [(0, .int .i64 p0_0), (1, .func (.func 49) #[] #[.pointer (some ⟨b1, 0, none⟩), .pointer (some ⟨b97, 0, none⟩)]), (2, .pointer (some ⟨b2, 0, none⟩)), (3, .pointer (some ⟨b3, 0, none⟩)), (4, .pointer (some ⟨b7, 0, none⟩)), (7, .slice a151 ((l_15 ++ ([y_21] : List (List Int))).length) c152), (10, .int .i64 p0_0), (11, .int .i64 (w64 (s_16 + 1)))] rfl ⟨rfl, rfl, rfl, rfl, rfl, rfl, rfl, rfl, trivial⟩ ?_
              refine WO_end ?_
              cases hm117
              refine WK.sub ?_ (WK.cls (fun _ h => St.take 6 h) (hn120 _ (m146, a151, (l_15 ++ ([y_21] : List (List Int))).length, c152, L153) rfl ⟨(hle103.trans hle147), hL153⟩))
              exact ⟨rfl, rfl, rfl, rfl, rfl, rfl, rfl, rfl, trivial⟩
            · have hm117 := ifF hb140 hm117
              refine WK_exit rfl ?_
              cases hm117
              refine WK.sub ?_ (WK.cls (fun _ h => h) (hk116 (l_15, (m102, a105, _, c107, L104)) ⟨(hd121 _ rfl), hle103, hL104⟩))
              exact ⟨rfl, rfl, rfl, rfl, rfl, trivial⟩
        · have hm19 := ifF hb96 hm19
          refine WK_exit rfl ?_
          cases hm19
          refine WK.sub ?_ (WK.cls (fun _ h => h) (hk18 (s_3, m12) ⟨(hd23 _ rfl), hle13⟩))
          exact ⟨rfl, rfl, rfl, rfl, rfl, trivial⟩
theorem fiduciallaw45_image_c1_walk {m : Mu} {p0 : Int}   {r : Bool} (hm : fiduciallaw45_image_c1 p0 = some r) :
    Go.E.Spec Try.prog 52 [.int .i64 p0] m (fun v _ _ => v = .bool r) := by
  refine Spec_enter Try.func52 rfl rfl rfl (fun w0 => ?_)
  refine WK.sub (e' := [(0, .int .i64 p0)]) ⟨rfl, trivial⟩ ?_
  refine WK.sub (e' := [(0, .int .i64 p0)]) ⟨rfl, trivial⟩ ?_
  unfold fiduciallaw45_image_c1 at hm
  refine WK_seq ?_
  refine WK_region ?_
  refine WO_pure tbok 1 [(0, .int .i64 p0), (2, .bool false)] rfl ⟨rfl, rfl, trivial⟩ ?_
  refine WO_end ?_
  refine WK_seq ?_
  refine WK_region ?_
  refine WO_pure tbok 3 [(0, .int .i64 p0), (2, .bool false), (5, .bool (decide (p0 < 0)))] rfl ⟨rfl, rfl, rfl, trivial⟩ ?_
  refine WO_split (d := 5) (b := decide (p0 < 0)) rfl (fun hb1 => ?_) (fun hb1 => ?_)
  · have hm := ifT hb1 hm
    refine WO_pure tbok 4 [(2, .bool true)] rfl ⟨rfl, trivial⟩ ?_
    refine WO_end ?_
    cases hm
    exact WK_ret (ret_out (L := []) (RLc_tmp rfl RLc_nil) (List.nil_sublist _) rfl)
  · have hm := ifF hb1 hm
    refine WO_pure tbok 4 [(2, .bool (decide (1048576 < p0)))] rfl ⟨rfl, trivial⟩ ?_
    refine WO_end ?_
    cases hm
    exact WK_ret (ret_out (L := []) (RLc_tmp rfl RLc_nil) (List.nil_sublist _) rfl)
theorem fiduciallaw45_image_walk {m : Mu} {p0_0 : Int} {p0_1 : Int} {p0_2 : Int} {p0_3 : List Int} {p1 : Int} {p2 : Int} {a_p0_3 : Option Addr} {q_p0_3 c_p0_3 : Nat} (h_p0_3 : SlR (FE (I1 .i64)) 1 m (.slice a_p0_3 q_p0_3 c_p0_3) p0_3) {r : Int} (hm : fiduciallaw45_image p0_0 p0_1 p0_2 p0_3 p1 p2 = some r) :
    Go.E.Spec Try.prog 26 [.agg #[.int .i64 p0_0, .int .i64 p0_1, .int .i64 p0_2, .slice a_p0_3 q_p0_3 c_p0_3], .int .i64 p1, .int .i64 p2] m (fun v _ _ => v = .int .i64 r) := by
  refine Spec_enter Try.func26 rfl rfl rfl (fun w0 => ?_)
  refine WK.sub (e' := [(0, .agg #[.int .i64 p0_0, .int .i64 p0_1, .int .i64 p0_2, .slice a_p0_3 q_p0_3 c_p0_3]), (1, .int .i64 p1), (2, .int .i64 p2)]) ⟨rfl, rfl, rfl, trivial⟩ ?_
  obtain rfl := SlR.qlen h_p0_3
  refine WK.sub (e' := [(0, .agg #[.int .i64 p0_0, .int .i64 p0_1, .int .i64 p0_2, .slice a_p0_3 p0_3.length c_p0_3]), (1, .int .i64 p1), (2, .int .i64 p2)]) ⟨rfl, rfl, rfl, trivial⟩ ?_
  unfold fiduciallaw45_image at hm
  refine WK_seq ?_
  refine WK_region ?_
  refine WO_box [.int .i64 p0_0, .int .i64 p0_1, .int .i64 p0_2, .slice a_p0_3 p0_3.length c_p0_3] rfl rfl trivial rfl rfl rfl (fun b1 => ?_)
  refine WO.cls (C' := St w0 m m [[⟨b1, 50, [.int .i64 p0_0, .int .i64 p0_1, .int .i64 p0_2, .slice a_p0_3 p0_3.length c_p0_3]⟩]]) (fun _ h => h) ?_
  refine WO_pure tbok 1 [(1, .int .i64 p1), (2, .int .i64 p2), (3, .pointer (some ⟨b1, 0, none⟩)), (6, .int .i64 0)] rfl ⟨rfl, rfl, rfl, rfl, trivial⟩ ?_
  refine WO_end ?_
  refine WK_seq ?_
  refine WK_seq ?_
  obtain ⟨s_1, hx2, hm⟩ := bind_some hm
  refine WK_meet [(1, .int .i64 p1), (2, .int .i64 p2), (3, .pointer (some ⟨b1, 0, none⟩)), (6, .int .i64 0), (48, .bool s_1)] (St w0 m m [[⟨b1, 50, [.int .i64 p0_0, .int .i64 p0_1, .int .i64 p0_2, .slice a_p0_3 p0_3.length c_p0_3]⟩]]) ?_ (fun hk3 => ?_)
  · refine WK_cond (b := s_1) rfl (fun hb4 => ?_) (fun hb4 => ?_)
    · have hm := ifT hb4 hm
      refine WK_seq ?_
      refine WK_region ?_
      refine WO_pure tbok 1 [(1, .int .i64 p1), (2, .int .i64 p2), (3, .pointer (some ⟨b1, 0, none⟩)), (6, .int .i64 1)] rfl ⟨rfl, rfl, rfl, rfl, trivial⟩ ?_
      refine WO_end ?_
      cases hm
      exact WK_ret (ret_out (L := []) (RLc_tmp rfl RLc_nil) (List.nil_sublist _) rfl)
    · have hm := ifF hb4 hm
      refine WK_skip ?_
      refine WK_seq ?_
      refine WK_seq ?_
      refine WK_region ?_
      refine WO_pure tbok 1 [(1, .int .i64 p1), (2, .int .i64 p2), (6, .int .i64 0), (49, .pointer (some ⟨b1, 3, none⟩))] rfl ⟨rfl, rfl, rfl, rfl, trivial⟩ ?_
      refine WO_loadB tbok 0 rfl rfl rfl rfl (fun _ h => h) rfl rfl ?_
      obtain ⟨y_3, hc5, hm⟩ := bind_some hm
      refine WO_call0 (.bool y_3) rfl rfl trivial rfl rfl rfl rfl St_closed ⟨43, #[], #[], rfl, callable_43, fun w hw => ⟨_, hw.sat, slices_ContainsFunc_sint_walk h_p0_3 (fun m1 hm1 z_2 _ h => specV_cap callable_52 (fiduciallaw45_image_c1_walk h)) hc5⟩⟩ ?_
      refine WO_end ?_
      refine WK_cond (b := y_3) rfl (fun hb6 => ?_) (fun hb6 => ?_)
      · have hm := ifT hb6 hm
        refine WK_seq ?_
        refine WK_region ?_
        refine WO_pure tbok 1 [(1, .int .i64 p1), (2, .int .i64 p2), (6, .int .i64 1)] rfl ⟨rfl, rfl, rfl, trivial⟩ ?_
        refine WO_end ?_
        cases hm
        exact WK_ret (ret_out (L := []) (RLc_tmp rfl RLc_nil) (List.nil_sublist _) rfl)
      · have hm := ifF hb6 hm
        refine WK_skip ?_
        refine WK_seq ?_
        refine WK_seq ?_
        refine WK_region ?_
        refine WO_pure tbok 2 [(6, .int .i64 0), (52, .int .i64 p1), (53, .int .i64 p2)] rfl ⟨rfl, rfl, rfl, trivial⟩ ?_
        obtain ⟨y_4, hc7, hm⟩ := bind_some hm
        refine WO_call0 (.bool y_4) rfl rfl trivial rfl rfl rfl rfl St_closed ⟨37, #[], #[], rfl, callable_37, fun w hw => ⟨_, hw.sat, fiduciallaw45_penalties_walk hc7⟩⟩ ?_
        refine WO_pure tbok 1 [(6, .int .i64 0), (55, .bool (!y_4))] rfl ⟨rfl, rfl, trivial⟩ ?_
        refine WO_end ?_
        refine WK_cond (b := !y_4) rfl (fun hb8 => ?_) (fun hb8 => ?_)
        · have hm := ifT hb8 hm
          refine WK_seq ?_
          refine WK_region ?_
          refine WO_pure tbok 1 [(6, .int .i64 2)] rfl ⟨rfl, trivial⟩ ?_
          refine WO_end ?_
          cases hm
          exact WK_ret (ret_out (L := []) (RLc_tmp rfl RLc_nil) (List.nil_sublist _) rfl)
        · have hm := ifF hb8 hm
          refine WK_skip ?_
          refine WK_seq ?_
          refine WK_region ?_
          refine WO_pure tbok 1 [(6, .int .i64 0)] rfl ⟨rfl, trivial⟩ ?_
          refine WO_end ?_
          cases hm
          exact WK_ret (ret_out (L := []) (RLc_tmp rfl RLc_nil) (List.nil_sublist _) rfl)
  · refine WK_region ?_
    refine WO_pure tbok 1 [(1, .int .i64 p1), (2, .int .i64 p2), (3, .pointer (some ⟨b1, 0, none⟩)), (6, .int .i64 0), (7, .pointer (some ⟨b1, 0, none⟩))] rfl ⟨rfl, rfl, rfl, rfl, rfl, trivial⟩ ?_
    refine WO_loadB tbok 0 rfl rfl rfl rfl (fun _ h => h) rfl rfl ?_
    refine WO_pure tbok 2 [(1, .int .i64 p1), (2, .int .i64 p2), (3, .pointer (some ⟨b1, 0, none⟩)), (6, .int .i64 0), (10, .bool (decide (p0_0 < 1)))] rfl ⟨rfl, rfl, rfl, rfl, rfl, trivial⟩ ?_
    refine WO_split (d := 10) (b := decide (p0_0 < 1)) rfl (fun hb9 => ?_) (fun hb9 => ?_)
    · have hx2 := ifT hb9 hx2
      refine WO_pure tbok 38 [(1, .int .i64 p1), (2, .int .i64 p2), (3, .pointer (some ⟨b1, 0, none⟩)), (6, .int .i64 0), (48, .bool true)] rfl ⟨rfl, rfl, rfl, rfl, rfl, trivial⟩ ?_
      refine WO_end ?_
      cases hx2
      refine WK.sub ?_ (WK.cls (fun _ h => h) hk3)
      exact ⟨rfl, rfl, rfl, rfl, rfl, trivial⟩
    · have hx2 := ifF hb9 hx2
      refine WO_pure tbok 1 [(1, .int .i64 p1), (2, .int .i64 p2), (3, .pointer (some ⟨b1, 0, none⟩)), (6, .int .i64 0), (10, .bool false), (11, .pointer (some ⟨b1, 0, none⟩))] rfl ⟨rfl, rfl, rfl, rfl, rfl, rfl, trivial⟩ ?_
      refine WO_loadB tbok 0 rfl rfl rfl rfl (fun _ h => h) rfl rfl ?_
      refine WO_pure tbok 3 [(1, .int .i64 p1), (2, .int .i64 p2), (3, .pointer (some ⟨b1, 0, none⟩)), (6, .int .i64 0), (15, .bool (decide (64 < p0_0)))] rfl ⟨rfl, rfl, rfl, rfl, rfl, trivial⟩ ?_
      refine WO_split (d := 15) (b := decide (64 < p0_0)) rfl (fun hb10 => ?_) (fun hb10 => ?_)
      · have hx2 := ifT hb10 hx2
        refine WO_pure tbok 33 [(1, .int .i64 p1), (2, .int .i64 p2), (3, .pointer (some ⟨b1, 0, none⟩)), (6, .int .i64 0), (48, .bool true)] rfl ⟨rfl, rfl, rfl, rfl, rfl, trivial⟩ ?_
        refine WO_end ?_
        cases hx2
        refine WK.sub ?_ (WK.cls (fun _ h => h) hk3)
        exact ⟨rfl, rfl, rfl, rfl, rfl, trivial⟩
      · have hx2 := ifF hb10 hx2
        refine WO_pure tbok 1 [(1, .int .i64 p1), (2, .int .i64 p2), (3, .pointer (some ⟨b1, 0, none⟩)), (6, .int .i64 0), (15, .bool false), (16, .pointer (some ⟨b1, 1, none⟩))] rfl ⟨rfl, rfl, rfl, rfl, rfl, rfl, trivial⟩ ?_
        refine WO_loadB tbok 0 rfl rfl rfl rfl (fun _ h => h) rfl rfl ?_
        refine WO_pure tbok 3 [(1, .int .i64 p1), (2, .int .i64 p2), (3, .pointer (some ⟨b1, 0, none⟩)), (6, .int .i64 0), (20, .bool (decide (p0_1 < 1)))] rfl ⟨rfl, rfl, rfl, rfl, rfl, trivial⟩ ?_
        refine WO_split (d := 20) (b := decide (p0_1 < 1)) rfl (fun hb11 => ?_) (fun hb11 => ?_)
        · have hx2 := ifT hb11 hx2
          refine WO_pure tbok 28 [(1, .int .i64 p1), (2, .int .i64 p2), (3, .pointer (some ⟨b1, 0, none⟩)), (6, .int .i64 0), (48, .bool true)] rfl ⟨rfl, rfl, rfl, rfl, rfl, trivial⟩ ?_
          refine WO_end ?_
          cases hx2
          refine WK.sub ?_ (WK.cls (fun _ h => h) hk3)
          exact ⟨rfl, rfl, rfl, rfl, rfl, trivial⟩
        · have hx2 := ifF hb11 hx2
          refine WO_pure tbok 1 [(1, .int .i64 p1), (2, .int .i64 p2), (3, .pointer (some ⟨b1, 0, none⟩)), (6, .int .i64 0), (20, .bool false), (21, .pointer (some ⟨b1, 1, none⟩))] rfl ⟨rfl, rfl, rfl, rfl, rfl, rfl, trivial⟩ ?_
          refine WO_loadB tbok 0 rfl rfl rfl rfl (fun _ h => h) rfl rfl ?_
          refine WO_pure tbok 3 [(1, .int .i64 p1), (2, .int .i64 p2), (3, .pointer (some ⟨b1, 0, none⟩)), (6, .int .i64 0), (25, .bool (decide (64 < p0_1)))] rfl ⟨rfl, rfl, rfl, rfl, rfl, trivial⟩ ?_
          refine WO_split (d := 25) (b := decide (64 < p0_1)) rfl (fun hb12 => ?_) (fun hb12 => ?_)
          · have hx2 := ifT hb12 hx2
            refine WO_pure tbok 23 [(1, .int .i64 p1), (2, .int .i64 p2), (3, .pointer (some ⟨b1, 0, none⟩)), (6, .int .i64 0), (48, .bool true)] rfl ⟨rfl, rfl, rfl, rfl, rfl, trivial⟩ ?_
            refine WO_end ?_
            cases hx2
            refine WK.sub ?_ (WK.cls (fun _ h => h) hk3)
            exact ⟨rfl, rfl, rfl, rfl, rfl, trivial⟩
          · have hx2 := ifF hb12 hx2
            refine WO_pure tbok 1 [(1, .int .i64 p1), (2, .int .i64 p2), (3, .pointer (some ⟨b1, 0, none⟩)), (6, .int .i64 0), (25, .bool false), (26, .pointer (some ⟨b1, 2, none⟩))] rfl ⟨rfl, rfl, rfl, rfl, rfl, rfl, trivial⟩ ?_
            refine WO_loadB tbok 0 rfl rfl rfl rfl (fun _ h => h) rfl rfl ?_
            refine WO_pure tbok 3 [(1, .int .i64 p1), (2, .int .i64 p2), (3, .pointer (some ⟨b1, 0, none⟩)), (6, .int .i64 0), (30, .bool (decide (p0_2 < 1)))] rfl ⟨rfl, rfl, rfl, rfl, rfl, trivial⟩ ?_
            refine WO_split (d := 30) (b := decide (p0_2 < 1)) rfl (fun hb13 => ?_) (fun hb13 => ?_)
            · have hx2 := ifT hb13 hx2
              refine WO_pure tbok 18 [(1, .int .i64 p1), (2, .int .i64 p2), (3, .pointer (some ⟨b1, 0, none⟩)), (6, .int .i64 0), (48, .bool true)] rfl ⟨rfl, rfl, rfl, rfl, rfl, trivial⟩ ?_
              refine WO_end ?_
              cases hx2
              refine WK.sub ?_ (WK.cls (fun _ h => h) hk3)
              exact ⟨rfl, rfl, rfl, rfl, rfl, trivial⟩
            · have hx2 := ifF hb13 hx2
              refine WO_pure tbok 1 [(1, .int .i64 p1), (2, .int .i64 p2), (3, .pointer (some ⟨b1, 0, none⟩)), (6, .int .i64 0), (30, .bool false), (31, .pointer (some ⟨b1, 2, none⟩))] rfl ⟨rfl, rfl, rfl, rfl, rfl, rfl, trivial⟩ ?_
              refine WO_loadB tbok 0 rfl rfl rfl rfl (fun _ h => h) rfl rfl ?_
              refine WO_pure tbok 3 [(1, .int .i64 p1), (2, .int .i64 p2), (3, .pointer (some ⟨b1, 0, none⟩)), (6, .int .i64 0), (35, .bool (decide (64 < p0_2)))] rfl ⟨rfl, rfl, rfl, rfl, rfl, trivial⟩ ?_
              refine WO_split (d := 35) (b := decide (64 < p0_2)) rfl (fun hb14 => ?_) (fun hb14 => ?_)
              · have hx2 := ifT hb14 hx2
                refine WO_pure tbok 13 [(1, .int .i64 p1), (2, .int .i64 p2), (3, .pointer (some ⟨b1, 0, none⟩)), (6, .int .i64 0), (48, .bool true)] rfl ⟨rfl, rfl, rfl, rfl, rfl, trivial⟩ ?_
                refine WO_end ?_
                cases hx2
                refine WK.sub ?_ (WK.cls (fun _ h => h) hk3)
                exact ⟨rfl, rfl, rfl, rfl, rfl, trivial⟩
              · have hx2 := ifF hb14 hx2
                refine WO_pure tbok 1 [(1, .int .i64 p1), (2, .int .i64 p2), (3, .pointer (some ⟨b1, 0, none⟩)), (6, .int .i64 0), (35, .bool false), (36, .pointer (some ⟨b1, 3, none⟩))] rfl ⟨rfl, rfl, rfl, rfl, rfl, rfl, trivial⟩ ?_
                refine WO_loadB tbok 0 rfl rfl rfl rfl (fun _ h => h) rfl rfl ?_
                refine WO_pure tbok 2 [(1, .int .i64 p1), (2, .int .i64 p2), (3, .pointer (some ⟨b1, 0, none⟩)), (6, .int .i64 0), (35, .bool false), (38, .int .i64 (p0_3.length : Int)), (39, .pointer (some ⟨b1, 0, none⟩))] rfl ⟨rfl, rfl, rfl, rfl, rfl, rfl, rfl, trivial⟩ ?_
                refine WO_loadB tbok 0 rfl rfl rfl rfl (fun _ h => h) rfl rfl ?_
                refine WO_pure tbok 1 [(1, .int .i64 p1), (2, .int .i64 p2), (3, .pointer (some ⟨b1, 0, none⟩)), (6, .int .i64 0), (35, .bool false), (38, .int .i64 (p0_3.length : Int)), (40, .int .i64 p0_0), (41, .pointer (some ⟨b1, 1, none⟩))] rfl ⟨rfl, rfl, rfl, rfl, rfl, rfl, rfl, rfl, trivial⟩ ?_
                refine WO_loadB tbok 0 rfl rfl rfl rfl (fun _ h => h) rfl rfl ?_
                refine WO_pure tbok 2 [(1, .int .i64 p1), (2, .int .i64 p2), (3, .pointer (some ⟨b1, 0, none⟩)), (6, .int .i64 0), (35, .bool false), (38, .int .i64 (p0_3.length : Int)), (43, .int .i64 (w64 (p0_0 * p0_1))), (44, .pointer (some ⟨b1, 2, none⟩))] rfl ⟨rfl, rfl, rfl, rfl, rfl, rfl, rfl, rfl, trivial⟩ ?_
                refine WO_loadB tbok 0 rfl rfl rfl rfl (fun _ h => h) rfl rfl ?_
                refine WO_pure tbok 3 [(1, .int .i64 p1), (2, .int .i64 p2), (3, .pointer (some ⟨b1, 0, none⟩)), (6, .int .i64 0), (48, .bool ((p0_3.length : Int) != (w64 ((w64 (p0_0 * p0_1)) * p0_2))))] rfl ⟨rfl, rfl, rfl, rfl, rfl, trivial⟩ ?_
                refine WO_end ?_
                cases hx2
                refine WK.sub ?_ (WK.cls (fun _ h => h) hk3)
                exact ⟨rfl, rfl, rfl, rfl, rfl, trivial⟩
def fiduciallaw45_at_Q (r : List Int) : Value → Mu → List Ent → Prop := fun v m L => ∃ (a0 : Option Addr) (q0 c0 : Nat), v = .slice a0 q0 c0 ∧ SlR (FE (I1 .i64)) 1 m (.slice a0 q0 c0) r
theorem fiduciallaw45_at_walk {m : Mu} {p0_0 : Int} {p0_1 : Int} {p0_2 : Int} {p0_3 : List Int} {p1 : Int} {p2 : Int} {a_p0_3 : Option Addr} {q_p0_3 c_p0_3 : Nat} (h_p0_3 : SlR (FE (I1 .i64)) 1 m (.slice a_p0_3 q_p0_3 c_p0_3) p0_3) {r : List Int} (hm : fiduciallaw45_at p0_0 p0_1 p0_2 p0_3 p1 p2 = some r) :
    Go.E.Spec Try.prog 55 [.agg #[.int .i64 p0_0, .int .i64 p0_1, .int .i64 p0_2, .slice a_p0_3 q_p0_3 c_p0_3], .int .i64 p1, .int .i64 p2] m (fiduciallaw45_at_Q r) := by
  refine Spec_enter Try.func55 rfl rfl rfl (fun w0 => ?_)
  refine WK.sub (e' := [(0, .agg #[.int .i64 p0_0, .int .i64 p0_1, .int .i64 p0_2, .slice a_p0_3 q_p0_3 c_p0_3]), (1, .int .i64 p1), (2, .int .i64 p2)]) ⟨rfl, rfl, rfl, trivial⟩ ?_
  obtain rfl := SlR.qlen h_p0_3
  refine WK.sub (e' := [(0, .agg #[.int .i64 p0_0, .int .i64 p0_1, .int .i64 p0_2, .slice a_p0_3 p0_3.length c_p0_3]), (1, .int .i64 p1), (2, .int .i64 p2)]) ⟨rfl, rfl, rfl, trivial⟩ ?_
  unfold fiduciallaw45_at at hm
  refine WK_seq ?_
  refine WK_region ?_
  refine WO_box [.int .i64 p0_0, .int .i64 p0_1, .int .i64 p0_2, .slice a_p0_3 p0_3.length c_p0_3] rfl rfl trivial rfl rfl rfl (fun b1 => ?_)
  refine WO.cls (C' := St w0 m m [[⟨b1, 50, [.int .i64 p0_0, .int .i64 p0_1, .int .i64 p0_2, .slice a_p0_3 p0_3.length c_p0_3]⟩]]) (fun _ h => h) ?_
  refine WO_pure tbok 1 [(1, .int .i64 p1), (2, .int .i64 p2), (3, .pointer (some ⟨b1, 0, none⟩)), (6, .slice none 0 0)] rfl ⟨rfl, rfl, rfl, rfl, trivial⟩ ?_
  refine WO_end ?_
  refine WK_seq ?_
  refine WK_region ?_
  refine WO_pure tbok 2 [(1, .int .i64 p1), (3, .pointer (some ⟨b1, 0, none⟩)), (6, .slice none 0 0), (8, .int .i64 p2), (9, .pointer (some ⟨b1, 0, none⟩))] rfl ⟨rfl, rfl, rfl, rfl, rfl, trivial⟩ ?_
  refine WO_loadB tbok 0 rfl rfl rfl rfl (fun _ h => h) rfl rfl ?_
  refine WO_pure tbok 4 [(3, .pointer (some ⟨b1, 0, none⟩)), (6, .slice none 0 0), (13, .int .i64 (w64 ((w64 (p2 * p0_0)) + p1))), (14, .pointer (some ⟨b1, 2, none⟩))] rfl ⟨rfl, rfl, rfl, rfl, trivial⟩ ?_
  refine WO_loadB tbok 0 rfl rfl rfl rfl (fun _ h => h) rfl rfl ?_
  refine WO_pure tbok 2 [(3, .pointer (some ⟨b1, 0, none⟩)), (6, .slice none 0 0), (7, .int .i64 (w64 ((w64 ((w64 (p2 * p0_0)) + p1)) * p0_2)))] rfl ⟨rfl, rfl, rfl, trivial⟩ ?_
  refine WO_end ?_
  refine WK_seq ?_
  refine WK_region ?_
  refine WO_pure tbok 1 [(3, .pointer (some ⟨b1, 0, none⟩)), (6, .slice none 0 0), (7, .int .i64 (w64 ((w64 ((w64 (p2 * p0_0)) + p1)) * p0_2))), (17, .pointer (some ⟨b1, 3, none⟩))] rfl ⟨rfl, rfl, rfl, rfl, trivial⟩ ?_
  refine WO_loadB tbok 0 rfl rfl rfl rfl (fun _ h => h) rfl rfl ?_
  refine WO_pure tbok 3 [(6, .slice none 0 0), (18, .slice a_p0_3 p0_3.length c_p0_3), (19, .int .i64 (w64 ((w64 ((w64 (p2 * p0_0)) + p1)) * p0_2))), (20, .int .i64 (w64 ((w64 ((w64 (p2 * p0_0)) + p1)) * p0_2))), (21, .pointer (some ⟨b1, 2, none⟩))] rfl ⟨rfl, rfl, rfl, rfl, rfl, trivial⟩ ?_
  refine WO_loadB tbok 0 rfl rfl rfl rfl (fun _ h => h) rfl rfl ?_
  refine WO_pure tbok 1 [(6, .slice none 0 0), (18, .slice a_p0_3 p0_3.length c_p0_3), (19, .int .i64 (w64 ((w64 ((w64 (p2 * p0_0)) + p1)) * p0_2))), (23, .int .i64 (w64 ((w64 ((w64 ((w64 (p2 * p0_0)) + p1)) * p0_2)) + p0_2)))] rfl ⟨rfl, rfl, rfl, rfl, trivial⟩ ?_
  obtain ⟨hc2, hm⟩ := chk_some hm
  have hc2 : 0 ≤ (w64 ((w64 ((w64 (p2 * p0_0)) + p1)) * p0_2) : Int) ∧ (w64 ((w64 ((w64 (p2 * p0_0)) + p1)) * p0_2) : Int) ≤ (w64 ((w64 ((w64 ((w64 (p2 * p0_0)) + p1)) * p0_2)) + p0_2) : Int) ∧ (w64 ((w64 ((w64 ((w64 (p2 * p0_0)) + p1)) * p0_2)) + p0_2) : Int) ≤ (p0_3.length : Int) := hc2
  have hz6 : SlR (FE (I1 .i64)) 1 m (.slice a_p0_3 p0_3.length c_p0_3) p0_3 := h_p0_3
  refine WO_slice tbok (some (w64 ((w64 ((w64 (p2 * p0_0)) + p1)) * p0_2) : Int)) (some (w64 ((w64 ((w64 ((w64 (p2 * p0_0)) + p1)) * p0_2)) + p0_2) : Int)) none (w64 ((w64 ((w64 (p2 * p0_0)) + p1)) * p0_2) : Int).toNat (w64 ((w64 ((w64 ((w64 (p2 * p0_0)) + p1)) * p0_2)) + p0_2) : Int).toNat rfl rfl rfl rfl rfl rfl rfl rfl rfl rfl rfl hz6 (by simp only [Option.getD_some] <;> omega) (by simp only [Option.getD_some] <;> omega) (fun q hq => by cases hq) (by omega) (by omega) (fun hh => by cases hh) (fun a3 c4 h5 => ?_)
  refine WO_pure tbok 1 [(6, .slice a3 (((p0_3.take (w64 ((w64 ((w64 ((w64 (p2 * p0_0)) + p1)) * p0_2)) + p0_2) : Int).toNat).drop (w64 ((w64 ((w64 (p2 * p0_0)) + p1)) * p0_2) : Int).toNat).length) c4)] rfl ⟨rfl, trivial⟩ ?_
  refine WO_end ?_
  cases hm
  exact WK_ret (ret_out (L := []) (RLc_tmp rfl RLc_nil) (List.nil_sublist _) ⟨a3, (((p0_3.take (w64 ((w64 ((w64 ((w64 (p2 * p0_0)) + p1)) * p0_2)) + p0_2) : Int).toNat).drop (w64 ((w64 ((w64 (p2 * p0_0)) + p1)) * p0_2) : Int).toNat).length), c4, rfl, h5⟩)
def fiduciallaw45_row_Q (r : List (List Int)) : Value → Mu → List Ent → Prop := fun v m L => ∃ (a0 : Option Addr) (q0 c0 : Nat), v = .slice a0 q0 c0 ∧ SlR (RowE (FE (I1 .i64)) 1) 1 m (.slice a0 q0 c0) r
theorem fiduciallaw45_row_walk {m : Mu} {p0_0 : Int} {p0_1 : Int} {p0_2 : Int} {p0_3 : List Int} {p1 : Int} {a_p0_3 : Option Addr} {q_p0_3 c_p0_3 : Nat} (h_p0_3 : SlR (FE (I1 .i64)) 1 m (.slice a_p0_3 q_p0_3 c_p0_3) p0_3) {r : List (List Int)} (hm : fiduciallaw45_row p0_0 p0_1 p0_2 p0_3 p1 = some r) :
    Go.E.Spec Try.prog 53 [.agg #[.int .i64 p0_0, .int .i64 p0_1, .int .i64 p0_2, .slice a_p0_3 q_p0_3 c_p0_3], .int .i64 p1] m (fiduciallaw45_row_Q r) := by
  refine Spec_enter Try.func53 rfl rfl rfl (fun w0 => ?_)
  refine WK.sub (e' := [(0, .agg #[.int .i64 p0_0, .int .i64 p0_1, .int .i64 p0_2, .slice a_p0_3 q_p0_3 c_p0_3]), (1, .int .i64 p1)]) ⟨rfl, rfl, trivial⟩ ?_
  obtain rfl := SlR.qlen h_p0_3
  refine WK.sub (e' := [(0, .agg #[.int .i64 p0_0, .int .i64 p0_1, .int .i64 p0_2, .slice a_p0_3 p0_3.length c_p0_3]), (1, .int .i64 p1)]) ⟨rfl, rfl, trivial⟩ ?_
  unfold fiduciallaw45_row at hm
  refine WK_seq ?_
  refine WK_region ?_
  refine WO_box [.int .i64 p0_0, .int .i64 p0_1, .int .i64 p0_2, .slice a_p0_3 p0_3.length c_p0_3] rfl rfl trivial rfl rfl rfl (fun b1 => ?_)
  refine WO.cls (C' := St w0 m m [[⟨b1, 50, [.int .i64 p0_0, .int .i64 p0_1, .int .i64 p0_2, .slice a_p0_3 p0_3.length c_p0_3]⟩]]) (fun _ h => h) ?_
  refine WO_pure tbok 1 [(1, .int .i64 p1), (2, .pointer (some ⟨b1, 0, none⟩)), (4, .slice none 0 0)] rfl ⟨rfl, rfl, rfl, trivial⟩ ?_
  refine WO_end ?_
  refine WK_seq ?_
  refine WK_region ?_
  refine WO_pure tbok 1 [(1, .int .i64 p1), (2, .pointer (some ⟨b1, 0, none⟩)), (4, .slice none 0 0), (5, .slice none 0 0)] rfl ⟨rfl, rfl, rfl, rfl, trivial⟩ ?_
  refine WO_end ?_
  refine WK_seq ?_
  refine WK_seq ?_
  refine WK_region ?_
  refine WO_pure tbok 1 [(1, .int .i64 p1), (2, .pointer (some ⟨b1, 0, none⟩)), (4, .slice none 0 0), (5, .slice none 0 0), (7, .pointer (some ⟨b1, 0, none⟩))] rfl ⟨rfl, rfl, rfl, rfl, rfl, trivial⟩ ?_
  refine WO_loadB tbok 0 rfl rfl rfl rfl (fun _ h => h) rfl rfl ?_
  refine WO_pure tbok 1 [(1, .int .i64 p1), (2, .pointer (some ⟨b1, 0, none⟩)), (4, .slice none 0 0), (5, .slice none 0 0), (8, .int .i64 p0_0), (9, .int .i64 0)] rfl ⟨rfl, rfl, rfl, rfl, rfl, rfl, trivial⟩ ?_
  refine WO_end ?_
  refine WK_pad ?_
  obtain ⟨x14, hx15, hm⟩ := bind_some hm
  refine WK_join (β := (List (List Int)) × (Mu × Option Addr × Nat × Nat × List Ent)) (fun p => p.1 = x14 ∧ Le m p.2.1 ∧ OwnX 24 1 V1 (RowE (FE (I1 .i64)) 1) p.2.1 (.slice p.2.2.1 p.2.2.2.1 p.2.2.2.2.1) p.1 p.2.2.2.2.2) (fun p => [(4, .slice none 0 0), (5, .slice p.2.2.1 p.2.2.2.1 p.2.2.2.2.1)]) (fun p => St w0 m p.2.1 [[⟨b1, 50, [.int .i64 p0_0, .int .i64 p0_1, .int .i64 p0_2, .slice a_p0_3 p0_3.length c_p0_3]⟩], p.2.2.2.2.2]) ?_ (fun hk16 => ?_)
  · rintro ⟨l_3, ⟨m8, a11, q12, c13, L10⟩⟩ ⟨hq22, hle9, hL10⟩
    subst hq22
    have hqq : q12 = l_3.length := OwnX.qlen hL10
    subst hqq
    refine WK.sub (e' := [(4, .slice none 0 0), (5, .slice a11 ((l_3).length) c13)]) ⟨rfl, rfl, trivial⟩ (WK.cls (C' := St w0 m m8 [[⟨b1, 50, [.int .i64 p0_0, .int .i64 p0_1, .int .i64 p0_2, .slice a_p0_3 p0_3.length c_p0_3]⟩], L10]) (fun _ h => h) ?_)
    refine WK_seq ?_
    refine WK_region ?_
    refine WO_pure tbok 2 [(4, .slice a11 ((l_3).length) c13)] rfl ⟨rfl, trivial⟩ ?_
    refine WO_end ?_
    cases hm
    refine WK_freeze 1 rfl (fun m23 hle24 hmm25 => ?_)
    refine WK.cls (C' := St w0 m m23 [[⟨b1, 50, [.int .i64 p0_0, .int .i64 p0_1, .int .i64 p0_2, .slice a_p0_3 p0_3.length c_p0_3]⟩], []]) (fun _ h => h) ?_
    exact WK_ret (ret_out (L := []) (RLc_tmp rfl RLc_nil) (List.nil_sublist _) ⟨a11, _, c13, rfl, (OwnX.rd (E := V1) (k := 1) (fun _ => rfl) hL10 (mono_RowE (mono_FE _) _) hle24 hmm25)⟩)
  · refine WK_block ?_
    refine WK_loop (S := List (List Int) × Int) (G := Mu × Option Addr × Nat × Nat × List Ent) (fun s => fiduciallaw45_row_s1 p0_0 p0_1 p0_2 p0_3 p1 s.1 s.2) (fun s g => [(1, .int .i64 p1), (2, .pointer (some ⟨b1, 0, none⟩)), (4, .slice none 0 0), (5, .slice g.2.1 g.2.2.1 g.2.2.2.1), (8, .int .i64 p0_0), (9, .int .i64 s.2)]) (fun s g => St w0 m g.1 [[⟨b1, 50, [.int .i64 p0_0, .int .i64 p0_1, .int .i64 p0_2, .slice a_p0_3 p0_3.length c_p0_3]⟩], g.2.2.2.2]) (fun s g => Le m g.1 ∧ OwnX 24 1 V1 (RowE (FE (I1 .i64)) 1) g.1 (.slice g.2.1 g.2.2.1 g.2.2.2.1) s.1 g.2.2.2.2) FUEL (([] : List (List Int)), 0) (m, none, 0, 0, []) x14 hx15 ⟨(Le.refl _), (OwnX.nil (T := 24) (k := 1) (E := V1) (El := (RowE (FE (I1 .i64)) 1)) (m := m) none)⟩ ⟨rfl, rfl, rfl, rfl, rfl, rfl, trivial⟩ (fun _ h => h) ?_
    rintro ⟨l_1, s_2⟩ ⟨m2, a5, q6, c7, L4⟩ o18 fl19 hm17 ⟨hle3, hL4⟩ hn20 hd21
    have hm17 : fiduciallaw45_row_s1 p0_0 p0_1 p0_2 p0_3 p1 l_1 s_2 = some o18 := hm17
    unfold fiduciallaw45_row_s1 at hm17
    have hqq : q6 = l_1.length := OwnX.qlen hL4
    subst hqq
    refine WK.sub (e' := [(1, .int .i64 p1), (2, .pointer (some ⟨b1, 0, none⟩)), (4, .slice none 0 0), (5, .slice a5 ((l_1).length) c7), (8, .int .i64 p0_0), (9, .int .i64 s_2)]) ⟨rfl, rfl, rfl, rfl, rfl, rfl, trivial⟩ (WK.cls (C' := St w0 m m2 [[⟨b1, 50, [.int .i64 p0_0, .int .i64 p0_1, .int .i64 p0_2, .slice a_p0_3 p0_3.length c_p0_3]⟩], L4]) (fun _ h => h) ?_)
    refine WK_seq ?_
    refine WK_region ?_
    refine WO_pure tbok 1 [(1, .int .i64 p1), (2, .pointer (some ⟨b1, 0, none⟩)), (4, .slice none 0 0), (5, .slice a5 ((l_1).length) c7), (8, .int .i64 p0_0), (9, .int .i64 s_2), (10, .bool (decide (s_2 < p0_0)))] rfl ⟨rfl, rfl, rfl, rfl, rfl, rfl, rfl, trivial⟩ ?_
    refine WO_end ?_
    refine WK_seq ?_
    refine WK_cond (b := decide (s_2 < p0_0)) rfl (fun hb26 => ?_) (fun hb26 => ?_)
    · have hm17 := ifT hb26 hm17
      refine WK_skip ?_
      refine WK_seq ?_
      refine WK_block ?_
      refine WK_seq ?_
      refine WK_region ?_
      refine WO_pure tbok 2 [(1, .int .i64 p1), (2, .pointer (some ⟨b1, 0, none⟩)), (4, .slice none 0 0), (5, .slice a5 ((l_1).length) c7), (6, .int .i64 s_2), (8, .int .i64 p0_0), (9, .int .i64 s_2)] rfl ⟨rfl, rfl, rfl, rfl, rfl, rfl, rfl, trivial⟩ ?_
      refine WO_end ?_
      refine WK_region ?_
      refine WO_pure tbok 1 [(1, .int .i64 p1), (2, .pointer (some ⟨b1, 0, none⟩)), (4, .slice none 0 0), (5, .slice a5 ((l_1).length) c7), (6, .int .i64 s_2), (8, .int .i64 p0_0), (9, .int .i64 s_2), (12, .slice a5 ((l_1).length) c7)] rfl ⟨rfl, rfl, rfl, rfl, rfl, rfl, rfl, rfl, trivial⟩ ?_
      refine WO_loadB tbok 0 rfl rfl rfl rfl (fun _ h => h) rfl rfl ?_
      refine WO_pure tbok 2 [(1, .int .i64 p1), (2, .pointer (some ⟨b1, 0, none⟩)), (4, .slice none 0 0), (5, .slice a5 ((l_1).length) c7), (8, .int .i64 p0_0), (9, .int .i64 s_2), (12, .slice a5 ((l_1).length) c7), (13, .agg #[.int .i64 p0_0, .int .i64 p0_1, .int .i64 p0_2, .slice a_p0_3 p0_3.length c_p0_3]), (14, .int .i64 s_2), (15, .int .i64 p1)] rfl ⟨rfl, rfl, rfl, rfl, rfl, rfl, rfl, rfl, rfl, rfl, trivial⟩ ?_
      obtain ⟨y_4, hc27, hm17⟩ := bind_some hm17
      refine WO_call2 (fiduciallaw45_at_Q y_4) rfl rfl trivial rfl rfl rfl rfl ⟨55, #[], #[], rfl, callable_55, fiduciallaw45_at_walk (h_p0_3.mono (mono_FE _) hle3) hc27⟩ (fun v31 m32 L30 hle33 hq => ?_)
      obtain ⟨a28, qa28, c29, rfl, h34⟩ := hq
      obtain rfl := SlR.qlen h34
      refine WO.cls (C' := St w0 m m32 [[⟨b1, 50, [.int .i64 p0_0, .int .i64 p0_1, .int .i64 p0_2, .slice a_p0_3 p0_3.length c_p0_3]⟩], L4, L30]) (fun _ h => h.sub (by simp)) ?_
      refine WO_bsliceX (E := V1) (El := (RowE (FE (I1 .i64)) 1)) tbok (fun _ => rfl) (by decide) [.slice a28 ((y_4).length) c29] [.slice a28 ((y_4).length) c29] ([y_4] : List (List Int)) rfl rfl trivial rfl rfl rfl rfl rfl rfl rfl rfl rfl rfl rfl rfl ⟨⟨_, rfl, h34⟩, trivial⟩ (fun b35 hb35 => ?_)
      refine WO.cls (C' := St w0 m m32 [[⟨b1, 50, [.int .i64 p0_0, .int .i64 p0_1, .int .i64 p0_2, .slice a_p0_3 p0_3.length c_p0_3]⟩], L4, L30, [⟨b35, 24, [.slice a28 ((y_4).length) c29]⟩]]) (fun _ h => h) ?_
      obtain ⟨hc36, hm17⟩ := chk_some hm17
      refine WO_appendX (E := V1) (El := (RowE (FE (I1 .i64)) 1)) tbok (fun _ => rfl) 1 [.slice a28 ((y_4).length) c29] ([y_4] : List (List Int)) (one_lit rfl) rfl rfl rfl rfl rfl rfl rfl rfl rfl rfl rfl rfl (hL4.mono (mono_RowE (mono_FE _) _) hle33) rfl (src_seg (j := 3) rfl) ⟨⟨_, rfl, h34⟩, trivial⟩ (ap_ok (by decide) hc36) (ap_max hc36) (fun a37 c38 L39 hL39 => ?_)
      refine WO.cls (C' := St w0 m m32 [[⟨b1, 50, [.int .i64 p0_0, .int .i64 p0_1, .int .i64 p0_2, .slice a_p0_3 p0_3.length c_p0_3]⟩], L39, L30, [⟨b35, 24, [.slice a28 ((y_4).length) c29]⟩]]) (fun _ h => h) ?_
      refine WO_pure tbok 1 [(1, .int .i64 p1), (2, .pointer (some ⟨b1, 0, none⟩)), (4, .slice none 0 0), (5, .slice a37 ((l_1 ++ ([y_4] : List (List Int))).length) c38), (8, .int .i64 p0_0), (9, .int .i64 s_2)] rfl ⟨rfl, rfl, rfl, rfl, rfl, rfl, trivial⟩ ?_
      refine WO_end ?_
      refine WK_blk ?_
      refine WK_region ?_
      refine WO_pure tbok 2 [(1, .int .i64 p1), (2, .pointer (some ⟨b1, 0, none⟩)), (4, .slice none 0 0), (5, .slice a37 ((l_1 ++ ([y_4] : List (List Int))).length) c38), (8, .int .i64 p0_0), (9, .int .i64 (w64 (s_2 + 1)))] rfl ⟨rfl, rfl, rfl, rfl, rfl, rfl, trivial⟩ ?_
      refine WO_end ?_
      cases hm17
      refine WK.sub ?_ (WK.cls (fun _ h => St.take 2 h) (hn20 _ (m32, a37, (l_1 ++ ([y_4] : List (List Int))).length, c38, L39) rfl ⟨(hle3.trans hle33), hL39⟩))
      exact ⟨rfl, rfl, rfl, rfl, rfl, rfl, trivial⟩
    · have hm17 := ifF hb26 hm17
      refine WK_exit rfl ?_
      cases hm17
      refine WK.sub ?_ (WK.cls (fun _ h => h) (hk16 (l_1, (m2, a5, _, c7, L4)) ⟨(hd21 _ rfl), hle3, hL4⟩))
      exact ⟨rfl, rfl, trivial⟩
def fiduciallaw45_column_Q (r : List (List Int)) : Value → Mu → List Ent → Prop := fun v m L => ∃ (a0 : Option Addr) (q0 c0 : Nat), v = .slice a0 q0 c0 ∧ SlR (RowE (FE (I1 .i64)) 1) 1 m (.slice a0 q0 c0) r
theorem fiduciallaw45_column_walk {m : Mu} {p0_0 : Int} {p0_1 : Int} {p0_2 : Int} {p0_3 : List Int} {p1 : Int} {a_p0_3 : Option Addr} {q_p0_3 c_p0_3 : Nat} (h_p0_3 : SlR (FE (I1 .i64)) 1 m (.slice a_p0_3 q_p0_3 c_p0_3) p0_3) {r : List (List Int)} (hm : fiduciallaw45_column p0_0 p0_1 p0_2 p0_3 p1 = some r) :
    Go.E.Spec Try.prog 54 [.agg #[.int .i64 p0_0, .int .i64 p0_1, .int .i64 p0_2, .slice a_p0_3 q_p0_3 c_p0_3], .int .i64 p1] m (fiduciallaw45_column_Q r) := by
  refine Spec_enter Try.func54 rfl rfl rfl (fun w0 => ?_)
  refine WK.sub (e' := [(0, .agg #[.int .i64 p0_0, .int .i64 p0_1, .int .i64 p0_2, .slice a_p0_3 q_p0_3 c_p0_3]), (1, .int .i64 p1)]) ⟨rfl, rfl, trivial⟩ ?_
  obtain rfl := SlR.qlen h_p0_3
  refine WK.sub (e' := [(0, .agg #[.int .i64 p0_0, .int .i64 p0_1, .int .i64 p0_2, .slice a_p0_3 p0_3.length c_p0_3]), (1, .int .i64 p1)]) ⟨rfl, rfl, trivial⟩ ?_
  unfold fiduciallaw45_column at hm
  refine WK_seq ?_
  refine WK_region ?_
  refine WO_box [.int .i64 p0_0, .int .i64 p0_1, .int .i64 p0_2, .slice a_p0_3 p0_3.length c_p0_3] rfl rfl trivial rfl rfl rfl (fun b1 => ?_)
  refine WO.cls (C' := St w0 m m [[⟨b1, 50, [.int .i64 p0_0, .int .i64 p0_1, .int .i64 p0_2, .slice a_p0_3 p0_3.length c_p0_3]⟩]]) (fun _ h => h) ?_
  refine WO_pure tbok 1 [(1, .int .i64 p1), (2, .pointer (some ⟨b1, 0, none⟩)), (4, .slice none 0 0)] rfl ⟨rfl, rfl, rfl, trivial⟩ ?_
  refine WO_end ?_
  refine WK_seq ?_
  refine WK_region ?_
  refine WO_pure tbok 1 [(1, .int .i64 p1), (2, .pointer (some ⟨b1, 0, none⟩)), (4, .slice none 0 0), (5, .slice none 0 0)] rfl ⟨rfl, rfl, rfl, rfl, trivial⟩ ?_
  refine WO_end ?_
  refine WK_seq ?_
  refine WK_seq ?_
  refine WK_region ?_
  refine WO_pure tbok 1 [(1, .int .i64 p1), (2, .pointer (some ⟨b1, 0, none⟩)), (4, .slice none 0 0), (5, .slice none 0 0), (7, .pointer (some ⟨b1, 1, none⟩))] rfl ⟨rfl, rfl, rfl, rfl, rfl, trivial⟩ ?_
  refine WO_loadB tbok 0 rfl rfl rfl rfl (fun _ h => h) rfl rfl ?_
  refine WO_pure tbok 1 [(1, .int .i64 p1), (2, .pointer (some ⟨b1, 0, none⟩)), (4, .slice none 0 0), (5, .slice none 0 0), (8, .int .i64 p0_1), (9, .int .i64 0)] rfl ⟨rfl, rfl, rfl, rfl, rfl, rfl, trivial⟩ ?_
  refine WO_end ?_
  refine WK_pad ?_
  obtain ⟨x14, hx15, hm⟩ := bind_some hm
  refine WK_join (β := (List (List Int)) × (Mu × Option Addr × Nat × Nat × List Ent)) (fun p => p.1 = x14 ∧ Le m p.2.1 ∧ OwnX 24 1 V1 (RowE (FE (I1 .i64)) 1) p.2.1 (.slice p.2.2.1 p.2.2.2.1 p.2.2.2.2.1) p.1 p.2.2.2.2.2) (fun p => [(4, .slice none 0 0), (5, .slice p.2.2.1 p.2.2.2.1 p.2.2.2.2.1)]) (fun p => St w0 m p.2.1 [[⟨b1, 50, [.int .i64 p0_0, .int .i64 p0_1, .int .i64 p0_2, .slice a_p0_3 p0_3.length c_p0_3]⟩], p.2.2.2.2.2]) ?_ (fun hk16 => ?_)
  · rintro ⟨l_3, ⟨m8, a11, q12, c13, L10⟩⟩ ⟨hq22, hle9, hL10⟩
    subst hq22
    have hqq : q12 = l_3.length := OwnX.qlen hL10
    subst hqq
    refine WK.sub (e' := [(4, .slice none 0 0), (5, .slice a11 ((l_3).length) c13)]) ⟨rfl, rfl, trivial⟩ (WK.cls (C' := St w0 m m8 [[⟨b1, 50, [.int .i64 p0_0, .int .i64 p0_1, .int .i64 p0_2, .slice a_p0_3 p0_3.length c_p0_3]⟩], L10]) (fun _ h => h) ?_)
    refine WK_seq ?_
    refine WK_region ?_
    refine WO_pure tbok 2 [(4, .slice a11 ((l_3).length) c13)] rfl ⟨rfl, trivial⟩ ?_
    refine WO_end ?_
    cases hm
    refine WK_freeze 1 rfl (fun m23 hle24 hmm25 => ?_)
    refine WK.cls (C' := St w0 m m23 [[⟨b1, 50, [.int .i64 p0_0, .int .i64 p0_1, .int .i64 p0_2, .slice a_p0_3 p0_3.length c_p0_3]⟩], []]) (fun _ h => h) ?_
    exact WK_ret (ret_out (L := []) (RLc_tmp rfl RLc_nil) (List.nil_sublist _) ⟨a11, _, c13, rfl, (OwnX.rd (E := V1) (k := 1) (fun _ => rfl) hL10 (mono_RowE (mono_FE _) _) hle24 hmm25)⟩)
  · refine WK_block ?_
    refine WK_loop (S := List (List Int) × Int) (G := Mu × Option Addr × Nat × Nat × List Ent) (fun s => fiduciallaw45_column_s1 p0_0 p0_1 p0_2 p0_3 p1 s.1 s.2) (fun s g => [(1, .int .i64 p1), (2, .pointer (some ⟨b1, 0, none⟩)), (4, .slice none 0 0), (5, .slice g.2.1 g.2.2.1 g.2.2.2.1), (8, .int .i64 p0_1), (9, .int .i64 s.2)]) (fun s g => St w0 m g.1 [[⟨b1, 50, [.int .i64 p0_0, .int .i64 p0_1, .int .i64 p0_2, .slice a_p0_3 p0_3.length c_p0_3]⟩], g.2.2.2.2]) (fun s g => Le m g.1 ∧ OwnX 24 1 V1 (RowE (FE (I1 .i64)) 1) g.1 (.slice g.2.1 g.2.2.1 g.2.2.2.1) s.1 g.2.2.2.2) FUEL (([] : List (List Int)), 0) (m, none, 0, 0, []) x14 hx15 ⟨(Le.refl _), (OwnX.nil (T := 24) (k := 1) (E := V1) (El := (RowE (FE (I1 .i64)) 1)) (m := m) none)⟩ ⟨rfl, rfl, rfl, rfl, rfl, rfl, trivial⟩ (fun _ h => h) ?_
    rintro ⟨l_1, s_2⟩ ⟨m2, a5, q6, c7, L4⟩ o18 fl19 hm17 ⟨hle3, hL4⟩ hn20 hd21
    have hm17 : fiduciallaw45_column_s1 p0_0 p0_1 p0_2 p0_3 p1 l_1 s_2 = some o18 := hm17
    unfold fiduciallaw45_column_s1 at hm17
    have hqq : q6 = l_1.length := OwnX.qlen hL4
    subst hqq
    refine WK.sub (e' := [(1, .int .i64 p1), (2, .pointer (some ⟨b1, 0, none⟩)), (4, .slice none 0 0), (5, .slice a5 ((l_1).length) c7), (8, .int .i64 p0_1), (9, .int .i64 s_2)]) ⟨rfl, rfl, rfl, rfl, rfl, rfl, trivial⟩ (WK.cls (C' := St w0 m m2 [[⟨b1, 50, [.int .i64 p0_0, .int .i64 p0_1, .int .i64 p0_2, .slice a_p0_3 p0_3.length c_p0_3]⟩], L4]) (fun _ h => h) ?_)
    refine WK_seq ?_
    refine WK_region ?_
    refine WO_pure tbok 1 [(1, .int .i64 p1), (2, .pointer (some ⟨b1, 0, none⟩)), (4, .slice none 0 0), (5, .slice a5 ((l_1).length) c7), (8, .int .i64 p0_1), (9, .int .i64 s_2), (10, .bool (decide (s_2 < p0_1)))] rfl ⟨rfl, rfl, rfl, rfl, rfl, rfl, rfl, trivial⟩ ?_
    refine WO_end ?_
    refine WK_seq ?_
    refine WK_cond (b := decide (s_2 < p0_1)) rfl (fun hb26 => ?_) (fun hb26 => ?_)
    · have hm17 := ifT hb26 hm17
      refine WK_skip ?_
      refine WK_seq ?_
      refine WK_block ?_
      refine WK_seq ?_
      refine WK_region ?_
      refine WO_pure tbok 2 [(1, .int .i64 p1), (2, .pointer (some ⟨b1, 0, none⟩)), (4, .slice none 0 0), (5, .slice a5 ((l_1).length) c7), (6, .int .i64 s_2), (8, .int .i64 p0_1), (9, .int .i64 s_2)] rfl ⟨rfl, rfl, rfl, rfl, rfl, rfl, rfl, trivial⟩ ?_
      refine WO_end ?_
      refine WK_region ?_
      refine WO_pure tbok 1 [(1, .int .i64 p1), (2, .pointer (some ⟨b1, 0, none⟩)), (4, .slice none 0 0), (5, .slice a5 ((l_1).length) c7), (6, .int .i64 s_2), (8, .int .i64 p0_1), (9, .int .i64 s_2), (12, .slice a5 ((l_1).length) c7)] rfl ⟨rfl, rfl, rfl, rfl, rfl, rfl, rfl, rfl, trivial⟩ ?_
      refine WO_loadB tbok 0 rfl rfl rfl rfl (fun _ h => h) rfl rfl ?_
      refine WO_pure tbok 2 [(1, .int .i64 p1), (2, .pointer (some ⟨b1, 0, none⟩)), (4, .slice none 0 0), (5, .slice a5 ((l_1).length) c7), (8, .int .i64 p0_1), (9, .int .i64 s_2), (12, .slice a5 ((l_1).length) c7), (13, .agg #[.int .i64 p0_0, .int .i64 p0_1, .int .i64 p0_2, .slice a_p0_3 p0_3.length c_p0_3]), (14, .int .i64 p1), (15, .int .i64 s_2)] rfl ⟨rfl, rfl, rfl, rfl, rfl, rfl, rfl, rfl, rfl, rfl, trivial⟩ ?_
      obtain ⟨y_4, hc27, hm17⟩ := bind_some hm17
      refine WO_call2 (fiduciallaw45_at_Q y_4) rfl rfl trivial rfl rfl rfl rfl ⟨55, #[], #[], rfl, callable_55, fiduciallaw45_at_walk (h_p0_3.mono (mono_FE _) hle3) hc27⟩ (fun v31 m32 L30 hle33 hq => ?_)
      obtain ⟨a28, qa28, c29, rfl, h34⟩ := hq
      obtain rfl := SlR.qlen h34
      refine WO.cls (C' := St w0 m m32 [[⟨b1, 50, [.int .i64 p0_0, .int .i64 p0_1, .int .i64 p0_2, .slice a_p0_3 p0_3.length c_p0_3]⟩], L4, L30]) (fun _ h => h.sub (by simp)) ?_
      refine WO_bsliceX (E := V1) (El := (RowE (FE (I1 .i64)) 1)) tbok (fun _ => rfl) (by decide) [.slice a28 ((y_4).length) c29] [.slice a28 ((y_4).length) c29] ([y_4] : List (List Int)) rfl rfl trivial rfl rfl rfl rfl rfl rfl rfl rfl rfl rfl rfl rfl ⟨⟨_, rfl, h34⟩, trivial⟩ (fun b35 hb35 => ?_)
      refine WO.cls (C' := St w0 m m32 [[⟨b1, 50, [.int .i64 p0_0, .int .i64 p0_1, .int .i64 p0_2, .slice a_p0_3 p0_3.length c_p0_3]⟩], L4, L30, [⟨b35, 24, [.slice a28 ((y_4).length) c29]⟩]]) (fun _ h => h) ?_
      obtain ⟨hc36, hm17⟩ := chk_some hm17
      refine WO_appendX (E := V1) (El := (RowE (FE (I1 .i64)) 1)) tbok (fun _ => rfl) 1 [.slice a28 ((y_4).length) c29] ([y_4] : List (List Int)) (one_lit rfl) rfl rfl rfl rfl rfl rfl rfl rfl rfl rfl rfl rfl (hL4.mono (mono_RowE (mono_FE _) _) hle33) rfl (src_seg (j := 3) rfl) ⟨⟨_, rfl, h34⟩, trivial⟩ (ap_ok (by decide) hc36) (ap_max hc36) (fun a37 c38 L39 hL39 => ?_)
      refine WO.cls (C' := St w0 m m32 [[⟨b1, 50, [.int .i64 p0_0, .int .i64 p0_1, .int .i64 p0_2, .slice a_p0_3 p0_3.length c_p0_3]⟩], L39, L30, [⟨b35, 24, [.slice a28 ((y_4).length) c29]⟩]]) (fun _ h => h) ?_
      refine WO_pure tbok 1 [(1, .int .i64 p1), (2, .pointer (some ⟨b1, 0, none⟩)), (4, .slice none 0 0), (5, .slice a37 ((l_1 ++ ([y_4] : List (List Int))).length) c38), (8, .int .i64 p0_1), (9, .int .i64 s_2)] rfl ⟨rfl, rfl, rfl, rfl, rfl, rfl, trivial⟩ ?_
      refine WO_end ?_
      refine WK_blk ?_
      refine WK_region ?_
      refine WO_pure tbok 2 [(1, .int .i64 p1), (2, .pointer (some ⟨b1, 0, none⟩)), (4, .slice none 0 0), (5, .slice a37 ((l_1 ++ ([y_4] : List (List Int))).length) c38), (8, .int .i64 p0_1), (9, .int .i64 (w64 (s_2 + 1)))] rfl ⟨rfl, rfl, rfl, rfl, rfl, rfl, trivial⟩ ?_
      refine WO_end ?_
      cases hm17
      refine WK.sub ?_ (WK.cls (fun _ h => St.take 2 h) (hn20 _ (m32, a37, (l_1 ++ ([y_4] : List (List Int))).length, c38, L39) rfl ⟨(hle3.trans hle33), hL39⟩))
      exact ⟨rfl, rfl, rfl, rfl, rfl, rfl, trivial⟩
    · have hm17 := ifF hb26 hm17
      refine WK_exit rfl ?_
      cases hm17
      refine WK.sub ?_ (WK.cls (fun _ h => h) (hk16 (l_1, (m2, a5, _, c7, L4)) ⟨(hd21 _ rfl), hle3, hL4⟩))
      exact ⟨rfl, rfl, trivial⟩
theorem fiduciallaw45_bound_walk {m : Mu} {p0_0 : Int} {p0_1 : Int} {p0_2 : Int} {p0_3 : List Int} {p1 : Int} {p2 : Int} {a_p0_3 : Option Addr} {q_p0_3 c_p0_3 : Nat} (h_p0_3 : SlR (FE (I1 .i64)) 1 m (.slice a_p0_3 q_p0_3 c_p0_3) p0_3) {r : Int} (hm : fiduciallaw45_bound p0_0 p0_1 p0_2 p0_3 p1 p2 = some r) :
    Go.E.Spec Try.prog 27 [.agg #[.int .i64 p0_0, .int .i64 p0_1, .int .i64 p0_2, .slice a_p0_3 q_p0_3 c_p0_3], .int .i64 p1, .int .i64 p2] m (fun v _ _ => v = .int .i64 r) := by
  refine Spec_enter Try.func27 rfl rfl rfl (fun w0 => ?_)
  refine WK.sub (e' := [(0, .agg #[.int .i64 p0_0, .int .i64 p0_1, .int .i64 p0_2, .slice a_p0_3 q_p0_3 c_p0_3]), (1, .int .i64 p1), (2, .int .i64 p2)]) ⟨rfl, rfl, rfl, trivial⟩ ?_
  obtain rfl := SlR.qlen h_p0_3
  refine WK.sub (e' := [(0, .agg #[.int .i64 p0_0, .int .i64 p0_1, .int .i64 p0_2, .slice a_p0_3 p0_3.length c_p0_3]), (1, .int .i64 p1), (2, .int .i64 p2)]) ⟨rfl, rfl, rfl, trivial⟩ ?_
  unfold fiduciallaw45_bound at hm
  refine WK_seq ?_
  refine WK_region ?_
  refine WO_box [.int .i64 p0_0, .int .i64 p0_1, .int .i64 p0_2, .slice a_p0_3 p0_3.length c_p0_3] rfl rfl trivial rfl rfl rfl (fun b1 => ?_)
  refine WO.cls (C' := St w0 m m [[⟨b1, 50, [.int .i64 p0_0, .int .i64 p0_1, .int .i64 p0_2, .slice a_p0_3 p0_3.length c_p0_3]⟩]]) (fun _ h => h) ?_
  refine WO_pure tbok 1 [(1, .int .i64 p1), (2, .int .i64 p2), (3, .pointer (some ⟨b1, 0, none⟩)), (6, .int .i64 0)] rfl ⟨rfl, rfl, rfl, rfl, trivial⟩ ?_
  refine WO_end ?_
  refine WK_seq ?_
  refine WK_region ?_
  refine WO_pure tbok 1 [(1, .int .i64 p1), (2, .int .i64 p2), (3, .pointer (some ⟨b1, 0, none⟩)), (6, .int .i64 0), (7, .int .i64 0)] rfl ⟨rfl, rfl, rfl, rfl, rfl, trivial⟩ ?_
  refine WO_end ?_
  refine WK_seq ?_
  refine WK_seq ?_
  refine WK_region ?_
  refine WO_pure tbok 1 [(1, .int .i64 p1), (2, .int .i64 p2), (3, .pointer (some ⟨b1, 0, none⟩)), (6, .int .i64 0), (7, .int .i64 0), (14, .pointer (some ⟨b1, 1, none⟩))] rfl ⟨rfl, rfl, rfl, rfl, rfl, rfl, trivial⟩ ?_
  refine WO_loadB tbok 0 rfl rfl rfl rfl (fun _ h => h) rfl rfl ?_
  refine WO_pure tbok 1 [(1, .int .i64 p1), (2, .int .i64 p2), (3, .pointer (some ⟨b1, 0, none⟩)), (6, .int .i64 0), (7, .int .i64 0), (15, .int .i64 p0_1), (16, .int .i64 0)] rfl ⟨rfl, rfl, rfl, rfl, rfl, rfl, rfl, trivial⟩ ?_
  refine WO_end ?_
  obtain ⟨x6, hx7, hm⟩ := bind_some hm
  refine WK_join (β := Int × Mu) (fun p => p.1 = x6 ∧ Le m p.2) (fun p => [(1, .int .i64 p1), (2, .int .i64 p2), (3, .pointer (some ⟨b1, 0, none⟩)), (6, .int .i64 0), (7, .int .i64 p.1)]) (fun p => St w0 m p.2 [[⟨b1, 50, [.int .i64 p0_0, .int .i64 p0_1, .int .i64 p0_2, .slice a_p0_3 p0_3.length c_p0_3]⟩]]) ?_ (fun hk8 => ?_)
  · rintro ⟨s_3, m4⟩ ⟨hq14, hle5⟩
    subst hq14
    refine WK.sub (e' := [(1, .int .i64 p1), (2, .int .i64 p2), (3, .pointer (some ⟨b1, 0, none⟩)), (6, .int .i64 0), (7, .int .i64 s_3)]) ⟨rfl, rfl, rfl, rfl, rfl, trivial⟩ (WK.cls (C' := St w0 m m4 [[⟨b1, 50, [.int .i64 p0_0, .int .i64 p0_1, .int .i64 p0_2, .slice a_p0_3 p0_3.length c_p0_3]⟩]]) (fun _ h => h) ?_)
    refine WK_seq ?_
    refine WK_seq ?_
    refine WK_region ?_
    refine WO_pure tbok 1 [(1, .int .i64 p1), (2, .int .i64 p2), (3, .pointer (some ⟨b1, 0, none⟩)), (6, .int .i64 0), (7, .int .i64 s_3), (34, .pointer (some ⟨b1, 0, none⟩))] rfl ⟨rfl, rfl, rfl, rfl, rfl, rfl, trivial⟩ ?_
    refine WO_loadB tbok 0 rfl rfl rfl rfl (fun _ h => h) rfl rfl ?_
    refine WO_pure tbok 1 [(1, .int .i64 p1), (2, .int .i64 p2), (3, .pointer (some ⟨b1, 0, none⟩)), (6, .int .i64 0), (7, .int .i64 s_3), (35, .int .i64 p0_0), (36, .int .i64 0)] rfl ⟨rfl, rfl, rfl, rfl, rfl, rfl, rfl, trivial⟩ ?_
    refine WO_end ?_
    obtain ⟨x19, hx20, hm⟩ := bind_some hm
    refine WK_join (β := Int × Mu) (fun p => p.1 = x19 ∧ Le m4 p.2) (fun p => [(6, .int .i64 0), (7, .int .i64 p.1)]) (fun p => St w0 m p.2 [[⟨b1, 50, [.int .i64 p0_0, .int .i64 p0_1, .int .i64 p0_2, .slice a_p0_3 p0_3.length c_p0_3]⟩]]) ?_ (fun hk21 => ?_)
    · rintro ⟨s_6, m17⟩ ⟨hq27, hle18⟩
      subst hq27
      refine WK.sub (e' := [(6, .int .i64 0), (7, .int .i64 s_6)]) ⟨rfl, rfl, trivial⟩ (WK.cls (C' := St w0 m m17 [[⟨b1, 50, [.int .i64 p0_0, .int .i64 p0_1, .int .i64 p0_2, .slice a_p0_3 p0_3.length c_p0_3]⟩]]) (fun _ h => h) ?_)
      refine WK_seq ?_
      refine WK_region ?_
      refine WO_pure tbok 2 [(6, .int .i64 s_6)] rfl ⟨rfl, trivial⟩ ?_
      refine WO_end ?_
      cases hm
      exact WK_ret (ret_out (L := []) (RLc_tmp rfl RLc_nil) (List.nil_sublist _) rfl)
    · refine WK_block ?_
      refine WK_loop (S := Int × Int) (G := Mu) (fun s => fiduciallaw45_bound_s2 p0_0 p0_1 p0_2 p0_3 p1 p2 s.1 s.2) (fun s g => [(1, .int .i64 p1), (2, .int .i64 p2), (3, .pointer (some ⟨b1, 0, none⟩)), (6, .int .i64 0), (7, .int .i64 s.1), (35, .int .i64 p0_0), (36, .int .i64 s.2)]) (fun s g => St w0 m g [[⟨b1, 50, [.int .i64 p0_0, .int .i64 p0_1, .int .i64 p0_2, .slice a_p0_3 p0_3.length c_p0_3]⟩]]) (fun s g => Le m4 g) FUEL (s_3, 0) m4 x19 hx20 (Le.refl _) ⟨rfl, rfl, rfl, rfl, rfl, rfl, rfl, trivial⟩ (fun _ h => h) ?_
      rintro ⟨s_4, s_5⟩ m15 o23 fl24 hm22 hle16 hn25 hd26
      have hm22 : fiduciallaw45_bound_s2 p0_0 p0_1 p0_2 p0_3 p1 p2 s_4 s_5 = some o23 := hm22
      unfold fiduciallaw45_bound_s2 at hm22
      refine WK.sub (e' := [(1, .int .i64 p1), (2, .int .i64 p2), (3, .pointer (some ⟨b1, 0, none⟩)), (6, .int .i64 0), (7, .int .i64 s_4), (35, .int .i64 p0_0), (36, .int .i64 s_5)]) ⟨rfl, rfl, rfl, rfl, rfl, rfl, rfl, trivial⟩ (WK.cls (C' := St w0 m m15 [[⟨b1, 50, [.int .i64 p0_0, .int .i64 p0_1, .int .i64 p0_2, .slice a_p0_3 p0_3.length c_p0_3]⟩]]) (fun _ h => h) ?_)
      refine WK_seq ?_
      refine WK_region ?_
      refine WO_pure tbok 1 [(1, .int .i64 p1), (2, .int .i64 p2), (3, .pointer (some ⟨b1, 0, none⟩)), (6, .int .i64 0), (7, .int .i64 s_4), (35, .int .i64 p0_0), (36, .int .i64 s_5), (37, .bool (decide (s_5 < p0_0)))] rfl ⟨rfl, rfl, rfl, rfl, rfl, rfl, rfl, rfl, trivial⟩ ?_
      refine WO_end ?_
      refine WK_seq ?_
      refine WK_cond (b := decide (s_5 < p0_0)) rfl (fun hb28 => ?_) (fun hb28 => ?_)
      · have hm22 := ifT hb28 hm22
        refine WK_skip ?_
        refine WK_seq ?_
        refine WK_block ?_
        refine WK_seq ?_
        refine WK_region ?_
        refine WO_pure tbok 2 [(1, .int .i64 p1), (2, .int .i64 p2), (3, .pointer (some ⟨b1, 0, none⟩)), (6, .int .i64 0), (7, .int .i64 s_4), (11, .int .i64 s_5), (35, .int .i64 p0_0), (36, .int .i64 s_5)] rfl ⟨rfl, rfl, rfl, rfl, rfl, rfl, rfl, rfl, trivial⟩ ?_
        refine WO_end ?_
        refine WK_seq ?_
        refine WK_region ?_
        refine WO_loadB tbok 0 rfl rfl rfl rfl (fun _ h => h) rfl rfl ?_
        refine WO_pure tbok 1 [(1, .int .i64 p1), (2, .int .i64 p2), (3, .pointer (some ⟨b1, 0, none⟩)), (6, .int .i64 0), (7, .int .i64 s_4), (35, .int .i64 p0_0), (36, .int .i64 s_5), (40, .agg #[.int .i64 p0_0, .int .i64 p0_1, .int .i64 p0_2, .slice a_p0_3 p0_3.length c_p0_3]), (41, .int .i64 s_5)] rfl ⟨rfl, rfl, rfl, rfl, rfl, rfl, rfl, rfl, rfl, trivial⟩ ?_
        obtain ⟨y_7, hc29, hm22⟩ := bind_some hm22
        refine WO_call2 (fiduciallaw45_column_Q y_7) rfl rfl trivial rfl rfl rfl rfl ⟨54, #[], #[], rfl, callable_54, fiduciallaw45_column_walk ((h_p0_3.mono (mono_FE _) hle5).mono (mono_FE _) hle16) hc29⟩ (fun v33 m34 L32 hle35 hq => ?_)
        obtain ⟨a30, qa30, c31, rfl, h36⟩ := hq
        obtain rfl := SlR.qlen h36
        refine WO.cls (C' := St w0 m m34 [[⟨b1, 50, [.int .i64 p0_0, .int .i64 p0_1, .int .i64 p0_2, .slice a_p0_3 p0_3.length c_p0_3]⟩], L32]) (fun _ h => h.sub (by simp)) ?_
        refine WO_pure tbok 4 [(1, .int .i64 p1), (2, .int .i64 p2), (3, .pointer (some ⟨b1, 0, none⟩)), (6, .int .i64 0), (7, .int .i64 s_4), (35, .int .i64 p0_0), (36, .int .i64 s_5), (42, .slice a30 ((y_7).length) c31), (44, .int .i64 (w64 (2 * p1))), (46, .int .i64 (w64 (2 * p2)))] rfl ⟨rfl, rfl, rfl, rfl, rfl, rfl, rfl, rfl, rfl, rfl, trivial⟩ ?_
        obtain ⟨⟨y_8, y_9⟩, hc37, hm22⟩ := bind_some hm22
        refine WO_call1 (fiduciallaw45_first_Q (y_8, y_9)) rfl rfl trivial rfl rfl rfl rfl ⟨12, #[], #[], rfl, callable_12, fun w hw => ⟨_, hw.sat, fiduciallaw45_first_walk h36 hc37⟩⟩ (fun v41 L40 hq => ?_)
        obtain ⟨a38, qa38, c39, rfl, hL40⟩ := hq
        obtain rfl := OwnE.qlen hL40
        refine WO.cls (C' := St w0 m m34 [[⟨b1, 50, [.int .i64 p0_0, .int .i64 p0_1, .int .i64 p0_2, .slice a_p0_3 p0_3.length c_p0_3]⟩], L32, L40]) (fun _ h => h) ?_
        refine WO_pure tbok 5 [(1, .int .i64 p1), (2, .int .i64 p2), (3, .pointer (some ⟨b1, 0, none⟩)), (6, .int .i64 0), (7, .int .i64 s_4), (13, .int .i64 y_9), (35, .int .i64 p0_0), (36, .int .i64 s_5)] rfl ⟨rfl, rfl, rfl, rfl, rfl, rfl, rfl, rfl, trivial⟩ ?_
        refine WO_end ?_
        refine WK_region ?_
        refine WO_pure tbok 4 [(1, .int .i64 p1), (2, .int .i64 p2), (3, .pointer (some ⟨b1, 0, none⟩)), (6, .int .i64 0), (7, .int .i64 (w64 (s_4 + y_9))), (35, .int .i64 p0_0), (36, .int .i64 s_5)] rfl ⟨rfl, rfl, rfl, rfl, rfl, rfl, rfl, trivial⟩ ?_
        refine WO_end ?_
        refine WK_blk ?_
        refine WK_region ?_
        refine WO_pure tbok 2 [(1, .int .i64 p1), (2, .int .i64 p2), (3, .pointer (some ⟨b1, 0, none⟩)), (6, .int .i64 0), (7, .int .i64 (w64 (s_4 + y_9))), (35, .int .i64 p0_0), (36, .int .i64 (w64 (s_5 + 1)))] rfl ⟨rfl, rfl, rfl, rfl, rfl, rfl, rfl, trivial⟩ ?_
        refine WO_end ?_
        cases hm22
        refine WK.sub ?_ (WK.cls (fun _ h => St.take 1 h) (hn25 _ m34 rfl (hle16.trans hle35)))
        exact ⟨rfl, rfl, rfl, rfl, rfl, rfl, rfl, trivial⟩
      · have hm22 := ifF hb28 hm22
        refine WK_exit rfl ?_
        cases hm22
        refine WK.sub ?_ (WK.cls (fun _ h => h) (hk21 (s_4, m15) ⟨(hd26 _ rfl), hle16⟩))
        exact ⟨rfl, rfl, trivial⟩
  · refine WK_block ?_
    refine WK_loop (S := Int × Int) (G := Mu) (fun s => fiduciallaw45_bound_s1 p0_0 p0_1 p0_2 p0_3 p1 p2 s.1 s.2) (fun s g => [(1, .int .i64 p1), (2, .int .i64 p2), (3, .pointer (some ⟨b1, 0, none⟩)), (6, .int .i64 0), (7, .int .i64 s.1), (15, .int .i64 p0_1), (16, .int .i64 s.2)]) (fun s g => St w0 m g [[⟨b1, 50, [.int .i64 p0_0, .int .i64 p0_1, .int .i64 p0_2, .slice a_p0_3 p0_3.length c_p0_3]⟩]]) (fun s g => Le m g) FUEL (0, 0) m x6 hx7 (Le.refl _) ⟨rfl, rfl, rfl, rfl, rfl, rfl, rfl, trivial⟩ (fun _ h => h) ?_
    rintro ⟨s_1, s_2⟩ m2 o10 fl11 hm9 hle3 hn12 hd13
    have hm9 : fiduciallaw45_bound_s1 p0_0 p0_1 p0_2 p0_3 p1 p2 s_1 s_2 = some o10 := hm9
    unfold fiduciallaw45_bound_s1 at hm9
    refine WK.sub (e' := [(1, .int .i64 p1), (2, .int .i64 p2), (3, .pointer (some ⟨b1, 0, none⟩)), (6, .int .i64 0), (7, .int .i64 s_1), (15, .int .i64 p0_1), (16, .int .i64 s_2)]) ⟨rfl, rfl, rfl, rfl, rfl, rfl, rfl, trivial⟩ (WK.cls (C' := St w0 m m2 [[⟨b1, 50, [.int .i64 p0_0, .int .i64 p0_1, .int .i64 p0_2, .slice a_p0_3 p0_3.length c_p0_3]⟩]]) (fun _ h => h) ?_)
    refine WK_seq ?_
    refine WK_region ?_
    refine WO_pure tbok 1 [(1, .int .i64 p1), (2, .int .i64 p2), (3, .pointer (some ⟨b1, 0, none⟩)), (6, .int .i64 0), (7, .int .i64 s_1), (15, .int .i64 p0_1), (16, .int .i64 s_2), (17, .bool (decide (s_2 < p0_1)))] rfl ⟨rfl, rfl, rfl, rfl, rfl, rfl, rfl, rfl, trivial⟩ ?_
    refine WO_end ?_
    refine WK_seq ?_
    refine WK_cond (b := decide (s_2 < p0_1)) rfl (fun hb42 => ?_) (fun hb42 => ?_)
    · have hm9 := ifT hb42 hm9
      refine WK_skip ?_
      refine WK_seq ?_
      refine WK_block ?_
      refine WK_seq ?_
      refine WK_region ?_
      refine WO_pure tbok 2 [(1, .int .i64 p1), (2, .int .i64 p2), (3, .pointer (some ⟨b1, 0, none⟩)), (6, .int .i64 0), (7, .int .i64 s_1), (8, .int .i64 s_2), (15, .int .i64 p0_1), (16, .int .i64 s_2)] rfl ⟨rfl, rfl, rfl, rfl, rfl, rfl, rfl, rfl, trivial⟩ ?_
      refine WO_end ?_
      refine WK_seq ?_
      refine WK_region ?_
      refine WO_loadB tbok 0 rfl rfl rfl rfl (fun _ h => h) rfl rfl ?_
      refine WO_pure tbok 1 [(1, .int .i64 p1), (2, .int .i64 p2), (3, .pointer (some ⟨b1, 0, none⟩)), (6, .int .i64 0), (7, .int .i64 s_1), (15, .int .i64 p0_1), (16, .int .i64 s_2), (20, .agg #[.int .i64 p0_0, .int .i64 p0_1, .int .i64 p0_2, .slice a_p0_3 p0_3.length c_p0_3]), (21, .int .i64 s_2)] rfl ⟨rfl, rfl, rfl, rfl, rfl, rfl, rfl, rfl, rfl, trivial⟩ ?_
      obtain ⟨y_10, hc43, hm9⟩ := bind_some hm9
      refine WO_call2 (fiduciallaw45_row_Q y_10) rfl rfl trivial rfl rfl rfl rfl ⟨53, #[], #[], rfl, callable_53, fiduciallaw45_row_walk (h_p0_3.mono (mono_FE _) hle3) hc43⟩ (fun v47 m48 L46 hle49 hq => ?_)
      obtain ⟨a44, qa44, c45, rfl, h50⟩ := hq
      obtain rfl := SlR.qlen h50
      refine WO.cls (C' := St w0 m m48 [[⟨b1, 50, [.int .i64 p0_0, .int .i64 p0_1, .int .i64 p0_2, .slice a_p0_3 p0_3.length c_p0_3]⟩], L46]) (fun _ h => h.sub (by simp)) ?_
      refine WO_pure tbok 4 [(1, .int .i64 p1), (2, .int .i64 p2), (3, .pointer (some ⟨b1, 0, none⟩)), (6, .int .i64 0), (7, .int .i64 s_1), (15, .int .i64 p0_1), (16, .int .i64 s_2), (22, .slice a44 ((y_10).length) c45), (24, .int .i64 (w64 (2 * p1))), (26, .int .i64 (w64 (2 * p2)))] rfl ⟨rfl, rfl, rfl, rfl, rfl, rfl, rfl, rfl, rfl, rfl, trivial⟩ ?_
      obtain ⟨⟨y_11, y_12⟩, hc51, hm9⟩ := bind_some hm9
      refine WO_call1 (fiduciallaw45_first_Q (y_11, y_12)) rfl rfl trivial rfl rfl rfl rfl ⟨12, #[], #[], rfl, callable_12, fun w hw => ⟨_, hw.sat, fiduciallaw45_first_walk h50 hc51⟩⟩ (fun v55 L54 hq => ?_)
      obtain ⟨a52, qa52, c53, rfl, hL54⟩ := hq
      obtain rfl := OwnE.qlen hL54
      refine WO.cls (C' := St w0 m m48 [[⟨b1, 50, [.int .i64 p0_0, .int .i64 p0_1, .int .i64 p0_2, .slice a_p0_3 p0_3.length c_p0_3]⟩], L46, L54]) (fun _ h => h) ?_
      refine WO_pure tbok 5 [(1, .int .i64 p1), (2, .int .i64 p2), (3, .pointer (some ⟨b1, 0, none⟩)), (6, .int .i64 0), (7, .int .i64 s_1), (10, .int .i64 y_12), (15, .int .i64 p0_1), (16, .int .i64 s_2)] rfl ⟨rfl, rfl, rfl, rfl, rfl, rfl, rfl, rfl, trivial⟩ ?_
      refine WO_end ?_
      refine WK_region ?_
      refine WO_pure tbok 4 [(1, .int .i64 p1), (2, .int .i64 p2), (3, .pointer (some ⟨b1, 0, none⟩)), (6, .int .i64 0), (7, .int .i64 (w64 (s_1 + y_12))), (15, .int .i64 p0_1), (16, .int .i64 s_2)] rfl ⟨rfl, rfl, rfl, rfl, rfl, rfl, rfl, trivial⟩ ?_
      refine WO_end ?_
      refine WK_blk ?_
      refine WK_region ?_
      refine WO_pure tbok 2 [(1, .int .i64 p1), (2, .int .i64 p2), (3, .pointer (some ⟨b1, 0, none⟩)), (6, .int .i64 0), (7, .int .i64 (w64 (s_1 + y_12))), (15, .int .i64 p0_1), (16, .int .i64 (w64 (s_2 + 1)))] rfl ⟨rfl, rfl, rfl, rfl, rfl, rfl, rfl, trivial⟩ ?_
      refine WO_end ?_
      cases hm9
      refine WK.sub ?_ (WK.cls (fun _ h => St.take 1 h) (hn12 _ m48 rfl (hle3.trans hle49)))
      exact ⟨rfl, rfl, rfl, rfl, rfl, rfl, rfl, trivial⟩
    · have hm9 := ifF hb42 hm9
      refine WK_exit rfl ?_
      cases hm9
      refine WK.sub ?_ (WK.cls (fun _ h => h) (hk8 (s_1, m2) ⟨(hd13 _ rfl), hle3⟩))
      exact ⟨rfl, rfl, rfl, rfl, rfl, trivial⟩
theorem fiduciallaw45_grid_walk {m : Mu} {p0_0 : Int} {p0_1 : Int} {p0_2 : Int} {p0_3 : List Int} {p1 : Int} {p2 : Int} {p3 : List Int} {a_p0_3 : Option Addr} {q_p0_3 c_p0_3 : Nat} {a_p3 : Option Addr} {q_p3 c_p3 : Nat} (h_p0_3 : SlR (FE (I1 .i64)) 1 m (.slice a_p0_3 q_p0_3 c_p0_3) p0_3) (h_p3 : SlR (FE (I1 .i64)) 1 m (.slice a_p3 q_p3 c_p3) p3) {r : Int} (hm : fiduciallaw45_grid p0_0 p0_1 p0_2 p0_3 p1 p2 p3 = some r) :
    Go.E.Spec Try.prog 28 [.agg #[.int .i64 p0_0, .int .i64 p0_1, .int .i64 p0_2, .slice a_p0_3 q_p0_3 c_p0_3], .int .i64 p1, .int .i64 p2, .slice a_p3 q_p3 c_p3] m (fun v _ _ => v = .int .i64 r) := by
  refine Spec_enter Try.func28 rfl rfl rfl (fun w0 => ?_)
  refine WK.sub (e' := [(0, .agg #[.int .i64 p0_0, .int .i64 p0_1, .int .i64 p0_2, .slice a_p0_3 q_p0_3 c_p0_3]), (1, .int .i64 p1), (2, .int .i64 p2), (3, .slice a_p3 q_p3 c_p3)]) ⟨rfl, rfl, rfl, rfl, trivial⟩ ?_
  obtain rfl := SlR.qlen h_p0_3
  obtain rfl := SlR.qlen h_p3
  refine WK.sub (e' := [(0, .agg #[.int .i64 p0_0, .int .i64 p0_1, .int .i64 p0_2, .slice a_p0_3 p0_3.length c_p0_3]), (1, .int .i64 p1), (2, .int .i64 p2), (3, .slice a_p3 p3.length c_p3)]) ⟨rfl, rfl, rfl, rfl, trivial⟩ ?_
  unfold fiduciallaw45_grid at hm
  refine WK_seq ?_
  refine WK_region ?_
  refine WO_box [.int .i64 p0_0, .int .i64 p0_1, .int .i64 p0_2, .slice a_p0_3 p0_3.length c_p0_3] rfl rfl trivial rfl rfl rfl (fun b1 => ?_)
  refine WO.cls (C' := St w0 m m [[⟨b1, 50, [.int .i64 p0_0, .int .i64 p0_1, .int .i64 p0_2, .slice a_p0_3 p0_3.length c_p0_3]⟩]]) (fun _ h => h) ?_
  refine WO_pure tbok 1 [(1, .int .i64 p1), (2, .int .i64 p2), (3, .slice a_p3 p3.length c_p3), (4, .pointer (some ⟨b1, 0, none⟩)), (8, .int .i64 0)] rfl ⟨rfl, rfl, rfl, rfl, rfl, trivial⟩ ?_
  refine WO_end ?_
  refine WK_seq ?_
  refine WK_region ?_
  refine WO_pure tbok 1 [(1, .int .i64 p1), (2, .int .i64 p2), (3, .slice a_p3 p3.length c_p3), (4, .pointer (some ⟨b1, 0, none⟩)), (8, .int .i64 0), (9, .int .i64 0)] rfl ⟨rfl, rfl, rfl, rfl, rfl, rfl, trivial⟩ ?_
  refine WO_end ?_
  refine WK_seq ?_
  refine WK_seq ?_
  refine WK_region ?_
  refine WO_pure tbok 1 [(1, .int .i64 p1), (2, .int .i64 p2), (3, .slice a_p3 p3.length c_p3), (4, .pointer (some ⟨b1, 0, none⟩)), (8, .int .i64 0), (9, .int .i64 0), (13, .pointer (some ⟨b1, 1, none⟩))] rfl ⟨rfl, rfl, rfl, rfl, rfl, rfl, rfl, trivial⟩ ?_
  refine WO_loadB tbok 0 rfl rfl rfl rfl (fun _ h => h) rfl rfl ?_
  refine WO_pure tbok 1 [(1, .int .i64 p1), (2, .int .i64 p2), (3, .slice a_p3 p3.length c_p3), (4, .pointer (some ⟨b1, 0, none⟩)), (8, .int .i64 0), (9, .int .i64 0), (14, .int .i64 p0_1), (15, .int .i64 0)] rfl ⟨rfl, rfl, rfl, rfl, rfl, rfl, rfl, rfl, trivial⟩ ?_
  refine WO_end ?_
  obtain ⟨x6, hx7, hm⟩ := bind_some hm
  refine WK_join (β := Int × Mu) (fun p => p.1 = x6 ∧ Le m p.2) (fun p => [(8, .int .i64 0), (9, .int .i64 p.1)]) (fun p => St w0 m p.2 [[⟨b1, 50, [.int .i64 p0_0, .int .i64 p0_1, .int .i64 p0_2, .slice a_p0_3 p0_3.length c_p0_3]⟩]]) ?_ (fun hk8 => ?_)
  · rintro ⟨s_3, m4⟩ ⟨hq14, hle5⟩
    subst hq14
    refine WK.sub (e' := [(8, .int .i64 0), (9, .int .i64 s_3)]) ⟨rfl, rfl, trivial⟩ (WK.cls (C' := St w0 m m4 [[⟨b1, 50, [.int .i64 p0_0, .int .i64 p0_1, .int .i64 p0_2, .slice a_p0_3 p0_3.length c_p0_3]⟩]]) (fun _ h => h) ?_)
    refine WK_seq ?_
    refine WK_region ?_
    refine WO_pure tbok 2 [(8, .int .i64 s_3)] rfl ⟨rfl, trivial⟩ ?_
    refine WO_end ?_
    cases hm
    exact WK_ret (ret_out (L := []) (RLc_tmp rfl RLc_nil) (List.nil_sublist _) rfl)
  · refine WK_block ?_
    refine WK_loop (S := Int × Int) (G := Mu) (fun s => fiduciallaw45_grid_s1 p0_0 p0_1 p0_2 p0_3 p1 p2 p3 s.1 s.2) (fun s g => [(1, .int .i64 p1), (2, .int .i64 p2), (3, .slice a_p3 p3.length c_p3), (4, .pointer (some ⟨b1, 0, none⟩)), (8, .int .i64 0), (9, .int .i64 s.1), (14, .int .i64 p0_1), (15, .int .i64 s.2)]) (fun s g => St w0 m g [[⟨b1, 50, [.int .i64 p0_0, .int .i64 p0_1, .int .i64 p0_2, .slice a_p0_3 p0_3.length c_p0_3]⟩]]) (fun s g => Le m g) FUEL (0, 0) m x6 hx7 (Le.refl _) ⟨rfl, rfl, rfl, rfl, rfl, rfl, rfl, rfl, trivial⟩ (fun _ h => h) ?_
    rintro ⟨s_1, s_2⟩ m2 o10 fl11 hm9 hle3 hn12 hd13
    have hm9 : fiduciallaw45_grid_s1 p0_0 p0_1 p0_2 p0_3 p1 p2 p3 s_1 s_2 = some o10 := hm9
    unfold fiduciallaw45_grid_s1 at hm9
    refine WK.sub (e' := [(1, .int .i64 p1), (2, .int .i64 p2), (3, .slice a_p3 p3.length c_p3), (4, .pointer (some ⟨b1, 0, none⟩)), (8, .int .i64 0), (9, .int .i64 s_1), (14, .int .i64 p0_1), (15, .int .i64 s_2)]) ⟨rfl, rfl, rfl, rfl, rfl, rfl, rfl, rfl, trivial⟩ (WK.cls (C' := St w0 m m2 [[⟨b1, 50, [.int .i64 p0_0, .int .i64 p0_1, .int .i64 p0_2, .slice a_p0_3 p0_3.length c_p0_3]⟩]]) (fun _ h => h) ?_)
    refine WK_seq ?_
    refine WK_region ?_
    refine WO_pure tbok 1 [(1, .int .i64 p1), (2, .int .i64 p2), (3, .slice a_p3 p3.length c_p3), (4, .pointer (some ⟨b1, 0, none⟩)), (8, .int .i64 0), (9, .int .i64 s_1), (14, .int .i64 p0_1), (15, .int .i64 s_2), (16, .bool (decide (s_2 < p0_1)))] rfl ⟨rfl, rfl, rfl, rfl, rfl, rfl, rfl, rfl, rfl, trivial⟩ ?_
    refine WO_end ?_
    refine WK_seq ?_
    refine WK_cond (b := decide (s_2 < p0_1)) rfl (fun hb15 => ?_) (fun hb15 => ?_)
    · have hm9 := ifT hb15 hm9
      refine WK_skip ?_
      refine WK_seq ?_
      refine WK_block ?_
      refine WK_seq ?_
      refine WK_region ?_
      refine WO_pure tbok 2 [(1, .int .i64 p1), (2, .int .i64 p2), (3, .slice a_p3 p3.length c_p3), (4, .pointer (some ⟨b1, 0, none⟩)), (8, .int .i64 0), (9, .int .i64 s_1), (10, .int .i64 s_2), (14, .int .i64 p0_1), (15, .int .i64 s_2)] rfl ⟨rfl, rfl, rfl, rfl, rfl, rfl, rfl, rfl, rfl, trivial⟩ ?_
      refine WO_end ?_
      refine WK_seq ?_
      refine WK_region ?_
      refine WO_pure tbok 1 [(1, .int .i64 p1), (2, .int .i64 p2), (3, .slice a_p3 p3.length c_p3), (4, .pointer (some ⟨b1, 0, none⟩)), (8, .int .i64 0), (9, .int .i64 s_1), (10, .int .i64 s_2), (14, .int .i64 p0_1), (15, .int .i64 s_2), (18, .pointer (some ⟨b1, 0, none⟩))] rfl ⟨rfl, rfl, rfl, rfl, rfl, rfl, rfl, rfl, rfl, rfl, trivial⟩ ?_
      refine WO_loadB tbok 0 rfl rfl rfl rfl (fun _ h => h) rfl rfl ?_
      refine WO_pure tbok 1 [(1, .int .i64 p1), (2, .int .i64 p2), (3, .slice a_p3 p3.length c_p3), (4, .pointer (some ⟨b1, 0, none⟩)), (8, .int .i64 0), (9, .int .i64 s_1), (10, .int .i64 s_2), (14, .int .i64 p0_1), (15, .int .i64 s_2), (19, .int .i64 p0_0), (20, .int .i64 0)] rfl ⟨rfl, rfl, rfl, rfl, rfl, rfl, rfl, rfl, rfl, rfl, rfl, trivial⟩ ?_
      refine WO_end ?_
      obtain ⟨x20, hx21, hm9⟩ := bind_some hm9
      refine WK_join (β := Int × Mu) (fun p => p.1 = x20 ∧ Le m2 p.2) (fun p => [(1, .int .i64 p1), (2, .int .i64 p2), (3, .slice a_p3 p3.length c_p3), (4, .pointer (some ⟨b1, 0, none⟩)), (8, .int .i64 0), (9, .int .i64 p.1), (14, .int .i64 p0_1), (15, .int .i64 s_2)]) (fun p => St w0 m p.2 [[⟨b1, 50, [.int .i64 p0_0, .int .i64 p0_1, .int .i64 p0_2, .slice a_p0_3 p0_3.length c_p0_3]⟩]]) ?_ (fun hk22 => ?_)
      · rintro ⟨s_6, m18⟩ ⟨hq28, hle19⟩
        subst hq28
        refine WK.sub (e' := [(1, .int .i64 p1), (2, .int .i64 p2), (3, .slice a_p3 p3.length c_p3), (4, .pointer (some ⟨b1, 0, none⟩)), (8, .int .i64 0), (9, .int .i64 s_6), (14, .int .i64 p0_1), (15, .int .i64 s_2)]) ⟨rfl, rfl, rfl, rfl, rfl, rfl, rfl, rfl, trivial⟩ (WK.cls (C' := St w0 m m18 [[⟨b1, 50, [.int .i64 p0_0, .int .i64 p0_1, .int .i64 p0_2, .slice a_p0_3 p0_3.length c_p0_3]⟩]]) (fun _ h => h) ?_)
        refine WK_blk ?_
        refine WK_region ?_
        refine WO_pure tbok 2 [(1, .int .i64 p1), (2, .int .i64 p2), (3, .slice a_p3 p3.length c_p3), (4, .pointer (some ⟨b1, 0, none⟩)), (8, .int .i64 0), (9, .int .i64 s_6), (14, .int .i64 p0_1), (15, .int .i64 (w64 (s_2 + 1)))] rfl ⟨rfl, rfl, rfl, rfl, rfl, rfl, rfl, rfl, trivial⟩ ?_
        refine WO_end ?_
        cases hm9
        refine WK.sub ?_ (WK.cls (fun _ h => h) (hn12 _ m18 rfl (hle3.trans hle19)))
        exact ⟨rfl, rfl, rfl, rfl, rfl, rfl, rfl, rfl, trivial⟩
      · refine WK_block ?_
        refine WK_loop (S := Int × Int) (G := Mu) (fun s => fiduciallaw45_grid_s2 p0_0 p0_1 p0_2 p0_3 p1 p2 p3 s_2 s.1 s.2) (fun s g => [(1, .int .i64 p1), (2, .int .i64 p2), (3, .slice a_p3 p3.length c_p3), (4, .pointer (some ⟨b1, 0, none⟩)), (8, .int .i64 0), (9, .int .i64 s.1), (10, .int .i64 s_2), (14, .int .i64 p0_1), (15, .int .i64 s_2), (19, .int .i64 p0_0), (20, .int .i64 s.2)]) (fun s g => St w0 m g [[⟨b1, 50, [.int .i64 p0_0, .int .i64 p0_1, .int .i64 p0_2, .slice a_p0_3 p0_3.length c_p0_3]⟩]]) (fun s g => Le m2 g) FUEL (s_1, 0) m2 x20 hx21 (Le.refl _) ⟨rfl, rfl, rfl, rfl, rfl, rfl, rfl, rfl, rfl, rfl, rfl, trivial⟩ (fun _ h => h) ?_
        rintro ⟨s_4, s_5⟩ m16 o24 fl25 hm23 hle17 hn26 hd27
        have hm23 : fiduciallaw45_grid_s2 p0_0 p0_1 p0_2 p0_3 p1 p2 p3 s_2 s_4 s_5 = some o24 := hm23
        unfold fiduciallaw45_grid_s2 at hm23
        refine WK.sub (e' := [(1, .int .i64 p1), (2, .int .i64 p2), (3, .slice a_p3 p3.length c_p3), (4, .pointer (some ⟨b1, 0, none⟩)), (8, .int .i64 0), (9, .int .i64 s_4), (10, .int .i64 s_2), (14, .int .i64 p0_1), (15, .int .i64 s_2), (19, .int .i64 p0_0), (20, .int .i64 s_5)]) ⟨rfl, rfl, rfl, rfl, rfl, rfl, rfl, rfl, rfl, rfl, rfl, trivial⟩ (WK.cls (C' := St w0 m m16 [[⟨b1, 50, [.int .i64 p0_0, .int .i64 p0_1, .int .i64 p0_2, .slice a_p0_3 p0_3.length c_p0_3]⟩]]) (fun _ h => h) ?_)
        refine WK_seq ?_
        refine WK_region ?_
        refine WO_pure tbok 1 [(1, .int .i64 p1), (2, .int .i64 p2), (3, .slice a_p3 p3.length c_p3), (4, .pointer (some ⟨b1, 0, none⟩)), (8, .int .i64 0), (9, .int .i64 s_4), (10, .int .i64 s_2), (14, .int .i64 p0_1), (15, .int .i64 s_2), (19, .int .i64 p0_0), (20, .int .i64 s_5), (21, .bool (decide (s_5 < p0_0)))] rfl ⟨rfl, rfl, rfl, rfl, rfl, rfl, rfl, rfl, rfl, rfl, rfl, rfl, trivial⟩ ?_
        refine WO_end ?_
        refine WK_seq ?_
        refine WK_cond (b := decide (s_5 < p0_0)) rfl (fun hb29 => ?_) (fun hb29 => ?_)
        · have hm23 := ifT hb29 hm23
          refine WK_skip ?_
          refine WK_seq ?_
          refine WK_block ?_
          refine WK_seq ?_
          refine WK_region ?_
          refine WO_pure tbok 2 [(1, .int .i64 p1), (2, .int .i64 p2), (3, .slice a_p3 p3.length c_p3), (4, .pointer (some ⟨b1, 0, none⟩)), (8, .int .i64 0), (9, .int .i64 s_4), (10, .int .i64 s_2), (11, .int .i64 s_5), (14, .int .i64 p0_1), (15, .int .i64 s_2), (19, .int .i64 p0_0), (20, .int .i64 s_5)] rfl ⟨rfl, rfl, rfl, rfl, rfl, rfl, rfl, rfl, rfl, rfl, rfl, rfl, trivial⟩ ?_
          refine WO_end ?_
          refine WK_seq ?_
          refine WK_region ?_
          refine WO_pure tbok 3 [(1, .int .i64 p1), (2, .int .i64 p2), (3, .slice a_p3 p3.length c_p3), (4, .pointer (some ⟨b1, 0, none⟩)), (8, .int .i64 0), (9, .int .i64 s_4), (10, .int .i64 s_2), (11, .int .i64 s_5), (14, .int .i64 p0_1), (15, .int .i64 s_2), (19, .int .i64 p0_0), (20, .int .i64 s_5), (23, .slice a_p3 p3.length c_p3), (24, .int .i64 s_2), (25, .pointer (some ⟨b1, 0, none⟩))] rfl ⟨rfl, rfl, rfl, rfl, rfl, rfl, rfl, rfl, rfl, rfl, rfl, rfl, rfl, rfl, rfl, trivial⟩ ?_
          refine WO_loadB tbok 0 rfl rfl rfl rfl (fun _ h => h) rfl rfl ?_
          refine WO_pure tbok 3 [(1, .int .i64 p1), (2, .int .i64 p2), (3, .slice a_p3 p3.length c_p3), (4, .pointer (some ⟨b1, 0, none⟩)), (8, .int .i64 0), (9, .int .i64 s_4), (10, .int .i64 s_2), (11, .int .i64 s_5), (14, .int .i64 p0_1), (15, .int .i64 s_2), (19, .int .i64 p0_0), (20, .int .i64 s_5), (23, .slice a_p3 p3.length c_p3), (29, .int .i64 (w64 ((w64 (s_2 * p0_0)) + s_5)))] rfl ⟨rfl, rfl, rfl, rfl, rfl, rfl, rfl, rfl, rfl, rfl, rfl, rfl, rfl, rfl, trivial⟩ ?_
          obtain ⟨v_7, hy30, hm23⟩ := bind_some hm23
          obtain ⟨hc31, hy30⟩ := ix_some hy30
          refine WO_index tbok rfl rfl rfl rfl rfl rfl rfl rfl (SlR.addr ((h_p3.mono (mono_FE _) hle3).mono (mono_FE _) hle17)) hc31 ?_
          refine WO_loadE tbok rfl rfl rfl rfl (fun _ h => St.sat h) ((h_p3.mono (mono_FE _) hle3).mono (mono_FE _) hle17) hy30 rfl ?_
          refine WO_pure tbok 1 [(1, .int .i64 p1), (2, .int .i64 p2), (3, .slice a_p3 p3.length c_p3), (4, .pointer (some ⟨b1, 0, none⟩)), (8, .int .i64 0), (9, .int .i64 s_4), (10, .int .i64 s_2), (11, .int .i64 s_5), (12, .int .i64 v_7), (14, .int .i64 p0_1), (15, .int .i64 s_2), (19, .int .i64 p0_0), (20, .int .i64 s_5)] rfl ⟨rfl, rfl, rfl, rfl, rfl, rfl, rfl, rfl, rfl, rfl, rfl, rfl, rfl, trivial⟩ ?_
          refine WO_end ?_
          refine WK_seq ?_
          refine WK_region ?_
          refine WO_pure tbok 1 [(1, .int .i64 p1), (2, .int .i64 p2), (3, .slice a_p3 p3.length c_p3), (4, .pointer (some ⟨b1, 0, none⟩)), (8, .int .i64 0), (9, .int .i64 s_4), (10, .int .i64 s_2), (11, .int .i64 s_5), (12, .int .i64 v_7), (14, .int .i64 p0_1), (15, .int .i64 s_2), (19, .int .i64 p0_0), (20, .int .i64 s_5), (32, .int .i64 s_4)] rfl ⟨rfl, rfl, rfl, rfl, rfl, rfl, rfl, rfl, rfl, rfl, rfl, rfl, rfl, rfl, trivial⟩ ?_
          refine WO_loadB tbok 0 rfl rfl rfl rfl (fun _ h => h) rfl rfl ?_
          refine WO_pure tbok 2 [(1, .int .i64 p1), (2, .int .i64 p2), (3, .slice a_p3 p3.length c_p3), (4, .pointer (some ⟨b1, 0, none⟩)), (8, .int .i64 0), (9, .int .i64 s_4), (10, .int .i64 s_2), (11, .int .i64 s_5), (12, .int .i64 v_7), (14, .int .i64 p0_1), (15, .int .i64 s_2), (19, .int .i64 p0_0), (20, .int .i64 s_5), (32, .int .i64 s_4), (33, .agg #[.int .i64 p0_0, .int .i64 p0_1, .int .i64 p0_2, .slice a_p0_3 p0_3.length c_p0_3]), (34, .int .i64 s_5), (35, .int .i64 s_2)] rfl ⟨rfl, rfl, rfl, rfl, rfl, rfl, rfl, rfl, rfl, rfl, rfl, rfl, rfl, rfl, rfl, rfl, rfl, trivial⟩ ?_
          obtain ⟨y_8, hc32, hm23⟩ := bind_some hm23
          refine WO_call2 (fiduciallaw45_at_Q y_8) rfl rfl trivial rfl rfl rfl rfl ⟨55, #[], #[], rfl, callable_55, fiduciallaw45_at_walk ((h_p0_3.mono (mono_FE _) hle3).mono (mono_FE _) hle17) hc32⟩ (fun v36 m37 L35 hle38 hq => ?_)
          obtain ⟨a33, qa33, c34, rfl, h39⟩ := hq
          obtain rfl := SlR.qlen h39
          refine WO.cls (C' := St w0 m m37 [[⟨b1, 50, [.int .i64 p0_0, .int .i64 p0_1, .int .i64 p0_2, .slice a_p0_3 p0_3.length c_p0_3]⟩], L35]) (fun _ h => h.sub (by simp)) ?_
          refine WO_pure tbok 1 [(1, .int .i64 p1), (2, .int .i64 p2), (3, .slice a_p3 p3.length c_p3), (4, .pointer (some ⟨b1, 0, none⟩)), (8, .int .i64 0), (9, .int .i64 s_4), (10, .int .i64 s_2), (11, .int .i64 s_5), (12, .int .i64 v_7), (14, .int .i64 p0_1), (15, .int .i64 s_2), (19, .int .i64 p0_0), (20, .int .i64 s_5), (32, .int .i64 s_4), (36, .slice a33 ((y_8).length) c34), (37, .int .i64 v_7)] rfl ⟨rfl, rfl, rfl, rfl, rfl, rfl, rfl, rfl, rfl, rfl, rfl, rfl, rfl, rfl, rfl, rfl, trivial⟩ ?_
          obtain ⟨v_9, hy40, hm23⟩ := bind_some hm23
          obtain ⟨hc41, hy40⟩ := ix_some hy40
          refine WO_index tbok rfl rfl rfl rfl rfl rfl rfl rfl (SlR.addr h39) hc41 ?_
          refine WO_loadE tbok rfl rfl rfl rfl (fun _ h => St.sat h) h39 hy40 rfl ?_
          refine WO_pure tbok 2 [(1, .int .i64 p1), (2, .int .i64 p2), (3, .slice a_p3 p3.length c_p3), (4, .pointer (some ⟨b1, 0, none⟩)), (8, .int .i64 0), (9, .int .i64 (w64 (s_4 + v_9))), (10, .int .i64 s_2), (11, .int .i64 s_5), (12, .int .i64 v_7), (14, .int .i64 p0_1), (15, .int .i64 s_2), (19, .int .i64 p0_0), (20, .int .i64 s_5)] rfl ⟨rfl, rfl, rfl, rfl, rfl, rfl, rfl, rfl, rfl, rfl, rfl, rfl, rfl, trivial⟩ ?_
          refine WO_end ?_
          refine WK_seq ?_
          refine WK_seq ?_
          refine WK_region ?_
          refine WO_pure tbok 2 [(1, .int .i64 p1), (2, .int .i64 p2), (3, .slice a_p3 p3.length c_p3), (4, .pointer (some ⟨b1, 0, none⟩)), (8, .int .i64 0), (9, .int .i64 (w64 (s_4 + v_9))), (10, .int .i64 s_2), (11, .int .i64 s_5), (12, .int .i64 v_7), (14, .int .i64 p0_1), (15, .int .i64 s_2), (19, .int .i64 p0_0), (20, .int .i64 s_5), (42, .bool (decide (0 < s_5)))] rfl ⟨rfl, rfl, rfl, rfl, rfl, rfl, rfl, rfl, rfl, rfl, rfl, rfl, rfl, rfl, trivial⟩ ?_
          refine WO_end ?_
          obtain ⟨s_10, hx42, hm23⟩ := bind_some hm23
          refine WK_meet [(1, .int .i64 p1), (2, .int .i64 p2), (3, .slice a_p3 p3.length c_p3), (4, .pointer (some ⟨b1, 0, none⟩)), (8, .int .i64 0), (9, .int .i64 s_10), (10, .int .i64 s_2), (11, .int .i64 s_5), (12, .int .i64 v_7), (14, .int .i64 p0_1), (15, .int .i64 s_2), (19, .int .i64 p0_0), (20, .int .i64 s_5)] (St w0 m m37 [[⟨b1, 50, [.int .i64 p0_0, .int .i64 p0_1, .int .i64 p0_2, .slice a_p0_3 p0_3.length c_p0_3]⟩], L35]) ?_ (fun hk43 => ?_)
          · refine WK_seq ?_
            refine WK_region ?_
            refine WO_pure tbok 2 [(1, .int .i64 p1), (2, .int .i64 p2), (3, .slice a_p3 p3.length c_p3), (4, .pointer (some ⟨b1, 0, none⟩)), (8, .int .i64 0), (9, .int .i64 s_10), (10, .int .i64 s_2), (11, .int .i64 s_5), (12, .int .i64 v_7), (14, .int .i64 p0_1), (15, .int .i64 s_2), (19, .int .i64 p0_0), (20, .int .i64 s_5), (61, .bool (decide (0 < s_2)))] rfl ⟨rfl, rfl, rfl, rfl, rfl, rfl, rfl, rfl, rfl, rfl, rfl, rfl, rfl, rfl, trivial⟩ ?_
            refine WO_end ?_
            obtain ⟨s_11, hx44, hm23⟩ := bind_some hm23
            refine WK_meet [(1, .int .i64 p1), (2, .int .i64 p2), (3, .slice a_p3 p3.length c_p3), (4, .pointer (some ⟨b1, 0, none⟩)), (8, .int .i64 0), (9, .int .i64 s_11), (10, .int .i64 s_2), (14, .int .i64 p0_1), (15, .int .i64 s_2), (19, .int .i64 p0_0), (20, .int .i64 s_5)] (St w0 m m37 [[⟨b1, 50, [.int .i64 p0_0, .int .i64 p0_1, .int .i64 p0_2, .slice a_p0_3 p0_3.length c_p0_3]⟩], L35]) ?_ (fun hk45 => ?_)
            · refine WK_blk ?_
              refine WK_region ?_
              refine WO_pure tbok 2 [(1, .int .i64 p1), (2, .int .i64 p2), (3, .slice a_p3 p3.length c_p3), (4, .pointer (some ⟨b1, 0, none⟩)), (8, .int .i64 0), (9, .int .i64 s_11), (10, .int .i64 s_2), (14, .int .i64 p0_1), (15, .int .i64 s_2), (19, .int .i64 p0_0), (20, .int .i64 (w64 (s_5 + 1)))] rfl ⟨rfl, rfl, rfl, rfl, rfl, rfl, rfl, rfl, rfl, rfl, rfl, trivial⟩ ?_
              refine WO_end ?_
              cases hm23
              refine WK.sub ?_ (WK.cls (fun _ h => St.take 1 h) (hn26 _ m37 rfl (hle17.trans hle38)))
              exact ⟨rfl, rfl, rfl, rfl, rfl, rfl, rfl, rfl, rfl, rfl, rfl, trivial⟩
            · refine WK_cond (b := decide (0 < s_2)) rfl (fun hb46 => ?_) (fun hb46 => ?_)
              · have hx44 := ifT hb46 hx44
                refine WK_region ?_
                refine WO_pure tbok 6 [(1, .int .i64 p1), (2, .int .i64 p2), (3, .slice a_p3 p3.length c_p3), (4, .pointer (some ⟨b1, 0, none⟩)), (8, .int .i64 0), (9, .int .i64 s_10), (10, .int .i64 s_2), (11, .int .i64 s_5), (14, .int .i64 p0_1), (15, .int .i64 s_2), (19, .int .i64 p0_0), (20, .int .i64 s_5), (62, .int .i64 s_10), (63, .int .i64 v_7), (64, .slice a_p3 p3.length c_p3), (66, .int .i64 (w64 (s_2 - 1))), (67, .pointer (some ⟨b1, 0, none⟩))] rfl ⟨rfl, rfl, rfl, rfl, rfl, rfl, rfl, rfl, rfl, rfl, rfl, rfl, rfl, rfl, rfl, rfl, rfl, trivial⟩ ?_
                refine WO_loadB tbok 0 rfl rfl rfl rfl (fun _ h => h) rfl rfl ?_
                refine WO_pure tbok 3 [(1, .int .i64 p1), (2, .int .i64 p2), (3, .slice a_p3 p3.length c_p3), (4, .pointer (some ⟨b1, 0, none⟩)), (8, .int .i64 0), (9, .int .i64 s_10), (10, .int .i64 s_2), (14, .int .i64 p0_1), (15, .int .i64 s_2), (19, .int .i64 p0_0), (20, .int .i64 s_5), (62, .int .i64 s_10), (63, .int .i64 v_7), (64, .slice a_p3 p3.length c_p3), (71, .int .i64 (w64 ((w64 ((w64 (s_2 - 1)) * p0_0)) + s_5)))] rfl ⟨rfl, rfl, rfl, rfl, rfl, rfl, rfl, rfl, rfl, rfl, rfl, rfl, rfl, rfl, rfl, trivial⟩ ?_
                obtain ⟨v_12, hy47, hx44⟩ := bind_some hx44
                obtain ⟨hc48, hy47⟩ := ix_some hy47
                refine WO_index tbok rfl rfl rfl rfl rfl rfl rfl rfl (SlR.addr (((h_p3.mono (mono_FE _) hle3).mono (mono_FE _) hle17).mono (mono_FE _) hle38)) hc48 ?_
                refine WO_loadE tbok rfl rfl rfl rfl (fun _ h => St.sat h) (((h_p3.mono (mono_FE _) hle3).mono (mono_FE _) hle17).mono (mono_FE _) hle38) hy47 rfl ?_
                refine WO_pure tbok 3 [(1, .int .i64 p1), (2, .int .i64 p2), (3, .slice a_p3 p3.length c_p3), (4, .pointer (some ⟨b1, 0, none⟩)), (8, .int .i64 0), (9, .int .i64 s_10), (10, .int .i64 s_2), (14, .int .i64 p0_1), (15, .int .i64 s_2), (19, .int .i64 p0_0), (20, .int .i64 s_5), (62, .int .i64 s_10), (74, .int .i64 (w64 (v_7 - v_12))), (75, .int .i64 p1), (76, .int .i64 p2)] rfl ⟨rfl, rfl, rfl, rfl, rfl, rfl, rfl, rfl, rfl, rfl, rfl, rfl, rfl, rfl, rfl, trivial⟩ ?_
                obtain ⟨y_13, hc49, hx44⟩ := bind_some hx44
                refine WO_call0 (.int .i64 y_13) rfl rfl trivial rfl rfl rfl rfl St_closed ⟨39, #[], #[], rfl, callable_39, fun w hw => ⟨_, hw.sat, fiduciallaw45_jump_walk hc49⟩⟩ ?_
                refine WO_pure tbok 2 [(1, .int .i64 p1), (2, .int .i64 p2), (3, .slice a_p3 p3.length c_p3), (4, .pointer (some ⟨b1, 0, none⟩)), (8, .int .i64 0), (9, .int .i64 (w64 (s_10 + y_13))), (10, .int .i64 s_2), (14, .int .i64 p0_1), (15, .int .i64 s_2), (19, .int .i64 p0_0), (20, .int .i64 s_5)] rfl ⟨rfl, rfl, rfl, rfl, rfl, rfl, rfl, rfl, rfl, rfl, rfl, trivial⟩ ?_
                refine WO_end ?_
                cases hx44
                refine WK.sub ?_ (WK.cls (fun _ h => h) hk45)
                exact ⟨rfl, rfl, rfl, rfl, rfl, rfl, rfl, rfl, rfl, rfl, rfl, trivial⟩
              · have hx44 := ifF hb46 hx44
                refine WK_skip ?_
                cases hx44
                refine WK.sub ?_ (WK.cls (fun _ h => h) hk45)
                exact ⟨rfl, rfl, rfl, rfl, rfl, rfl, rfl, rfl, rfl, rfl, rfl, trivial⟩
          · refine WK_cond (b := decide (0 < s_5)) rfl (fun hb50 => ?_) (fun hb50 => ?_)
            · have hx42 := ifT hb50 hx42
              refine WK_region ?_
              refine WO_pure tbok 5 [(1, .int .i64 p1), (2, .int .i64 p2), (3, .slice a_p3 p3.length c_p3), (4, .pointer (some ⟨b1, 0, none⟩)), (8, .int .i64 0), (9, .int .i64 (w64 (s_4 + v_9))), (10, .int .i64 s_2), (11, .int .i64 s_5), (12, .int .i64 v_7), (14, .int .i64 p0_1), (15, .int .i64 s_2), (19, .int .i64 p0_0), (20, .int .i64 s_5), (43, .int .i64 (w64 (s_4 + v_9))), (44, .int .i64 v_7), (45, .slice a_p3 p3.length c_p3), (46, .int .i64 s_2), (47, .pointer (some ⟨b1, 0, none⟩))] rfl ⟨rfl, rfl, rfl, rfl, rfl, rfl, rfl, rfl, rfl, rfl, rfl, rfl, rfl, rfl, rfl, rfl, rfl, rfl, trivial⟩ ?_
              refine WO_loadB tbok 0 rfl rfl rfl rfl (fun _ h => h) rfl rfl ?_
              refine WO_pure tbok 4 [(1, .int .i64 p1), (2, .int .i64 p2), (3, .slice a_p3 p3.length c_p3), (4, .pointer (some ⟨b1, 0, none⟩)), (8, .int .i64 0), (9, .int .i64 (w64 (s_4 + v_9))), (10, .int .i64 s_2), (11, .int .i64 s_5), (12, .int .i64 v_7), (14, .int .i64 p0_1), (15, .int .i64 s_2), (19, .int .i64 p0_0), (20, .int .i64 s_5), (43, .int .i64 (w64 (s_4 + v_9))), (44, .int .i64 v_7), (45, .slice a_p3 p3.length c_p3), (52, .int .i64 (w64 ((w64 ((w64 (s_2 * p0_0)) + s_5)) - 1)))] rfl ⟨rfl, rfl, rfl, rfl, rfl, rfl, rfl, rfl, rfl, rfl, rfl, rfl, rfl, rfl, rfl, rfl, rfl, trivial⟩ ?_
              obtain ⟨v_14, hy51, hx42⟩ := bind_some hx42
              obtain ⟨hc52, hy51⟩ := ix_some hy51
              refine WO_index tbok rfl rfl rfl rfl rfl rfl rfl rfl (SlR.addr (((h_p3.mono (mono_FE _) hle3).mono (mono_FE _) hle17).mono (mono_FE _) hle38)) hc52 ?_
              refine WO_loadE tbok rfl rfl rfl rfl (fun _ h => St.sat h) (((h_p3.mono (mono_FE _) hle3).mono (mono_FE _) hle17).mono (mono_FE _) hle38) hy51 rfl ?_
              refine WO_pure tbok 3 [(1, .int .i64 p1), (2, .int .i64 p2), (3, .slice a_p3 p3.length c_p3), (4, .pointer (some ⟨b1, 0, none⟩)), (8, .int .i64 0), (9, .int .i64 (w64 (s_4 + v_9))), (10, .int .i64 s_2), (11, .int .i64 s_5), (12, .int .i64 v_7), (14, .int .i64 p0_1), (15, .int .i64 s_2), (19, .int .i64 p0_0), (20, .int .i64 s_5), (43, .int .i64 (w64 (s_4 + v_9))), (55, .int .i64 (w64 (v_7 - v_14))), (56, .int .i64 p1), (57, .int .i64 p2)] rfl ⟨rfl, rfl, rfl, rfl, rfl, rfl, rfl, rfl, rfl, rfl, rfl, rfl, rfl, rfl, rfl, rfl, rfl, trivial⟩ ?_
              obtain ⟨y_15, hc53, hx42⟩ := bind_some hx42
              refine WO_call0 (.int .i64 y_15) rfl rfl trivial rfl rfl rfl rfl St_closed ⟨39, #[], #[], rfl, callable_39, fun w hw => ⟨_, hw.sat, fiduciallaw45_jump_walk hc53⟩⟩ ?_
              refine WO_pure tbok 2 [(1, .int .i64 p1), (2, .int .i64 p2), (3, .slice a_p3 p3.length c_p3), (4, .pointer (some ⟨b1, 0, none⟩)), (8, .int .i64 0), (9, .int .i64 (w64 ((w64 (s_4 + v_9)) + y_15))), (10, .int .i64 s_2), (11, .int .i64 s_5), (12, .int .i64 v_7), (14, .int .i64 p0_1), (15, .int .i64 s_2), (19, .int .i64 p0_0), (20, .int .i64 s_5)] rfl ⟨rfl, rfl, rfl, rfl, rfl, rfl, rfl, rfl, rfl, rfl, rfl, rfl, rfl, trivial⟩ ?_
              refine WO_end ?_
              cases hx42
              refine WK.sub ?_ (WK.cls (fun _ h => h) hk43)
              exact ⟨rfl, rfl, rfl, rfl, rfl, rfl, rfl, rfl, rfl, rfl, rfl, rfl, rfl, trivial⟩
            · have hx42 := ifF hb50 hx42
              refine WK_skip ?_
              cases hx42
              refine WK.sub ?_ (WK.cls (fun _ h => h) hk43)
              exact ⟨rfl, rfl, rfl, rfl, rfl, rfl, rfl, rfl, rfl, rfl, rfl, rfl, rfl, trivial⟩
        · have hm23 := ifF hb29 hm23
          refine WK_exit rfl ?_
          cases hm23
          refine WK.sub ?_ (WK.cls (fun _ h => h) (hk22 (s_4, m16) ⟨(hd27 _ rfl), hle17⟩))
          exact ⟨rfl, rfl, rfl, rfl, rfl, rfl, rfl, rfl, trivial⟩
    · have hm9 := ifF hb15 hm9
      refine WK_exit rfl ?_
      cases hm9
      refine WK.sub ?_ (WK.cls (fun _ h => h) (hk8 (s_1, m2) ⟨(hd13 _ rfl), hle3⟩))
      exact ⟨rfl, rfl, trivial⟩
end Go.Proofs.Ytgakaghdiodakaa
