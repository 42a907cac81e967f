import Derived.Test.YtgakaghdiodakaaDoorTab
import Derived.Test.YtgakaghdiodakaaDoorM
import Derived.Test.YtgakaghdiodakaaDoorW2
set_option linter.unusedVariables false
set_option maxRecDepth 100000
set_option maxHeartbeats 4000000
namespace Go.Proofs.YtgakaghdiodakaaDoor
open Go.E Go.RowKit
attribute [local irreducible] Go.E.WO Go.E.WK
def aggregate_Path_Q (r : Int × Int × Int × List Int × Int) : Value → List Ent → Prop := fun v L => ∃ (a0 : Option Addr) (q0 c0 : Nat), v = .tuple #[.agg #[.int .i64 r.1, .int .i64 r.2.1, .int .i64 r.2.2.1, .slice a0 q0 c0], .int .i64 r.2.2.2.2] ∧ OwnE 3 1 (I1 .i64) (.slice a0 q0 c0) r.2.2.2.1 L
theorem aggregate_Path_walk {m : Mu} {p0_0 : Int} {p0_1 : Int} {p0_2 : Int} {p0_3 : List Int} {p1 : Int} {p2 : Int} {p3 : Int} {a_p0_3 : Option Addr} {q_p0_3 c_p0_3 : Nat} {fr0 : Nat × Nat} {tg0 : TypeId} (hg0 : m 0 = some (.cells ([.int .i64 1, .int .i64 0, .int .i64 (-1), .int .i64 0, .int .i64 0, .int .i64 1, .int .i64 0, .int .i64 (-1), .int .i64 1, .int .i64 1, .int .i64 (-1), .int .i64 (-1), .int .i64 1, .int .i64 (-1), .int .i64 (-1), .int .i64 1] : List Value).toArray tg0 fr0)) (h_p0_3 : SlR (FE (I1 .i64)) 1 m (.slice a_p0_3 q_p0_3 c_p0_3) p0_3) {r : Int × Int × Int × List Int × Int} (hm : aggregate_Path p0_0 p0_1 p0_2 p0_3 p1 p2 p3 = some r) :
    Go.E.Spec Tryd.prog 7 [.agg #[.int .i64 p0_0, .int .i64 p0_1, .int .i64 p0_2, .slice a_p0_3 q_p0_3 c_p0_3], .int .i64 p1, .int .i64 p2, .int .i64 p3] m (fun v _ L => aggregate_Path_Q r v L) := by
  refine Spec_enter Tryd.func7 rfl rfl rfl (fun w0 => ?_)
  refine WK.sub (e' := [(0, .agg #[.int .i64 p0_0, .int .i64 p0_1, .int .i64 p0_2, .slice a_p0_3 q_p0_3 c_p0_3]), (1, .int .i64 p1), (2, .int .i64 p2), (3, .int .i64 p3)]) ⟨rfl, rfl, rfl, rfl, trivial⟩ ?_
  obtain rfl := SlR.qlen h_p0_3
  refine WK.sub (e' := [(0, .agg #[.int .i64 p0_0, .int .i64 p0_1, .int .i64 p0_2, .slice a_p0_3 p0_3.length c_p0_3]), (1, .int .i64 p1), (2, .int .i64 p2), (3, .int .i64 p3)]) ⟨rfl, rfl, rfl, rfl, trivial⟩ ?_
  unfold aggregate_Path at hm
  refine WK_seq ?_
  refine WK_region ?_
  refine WO_box [.int .i64 p0_0, .int .i64 p0_1, .int .i64 p0_2, .slice a_p0_3 p0_3.length c_p0_3] rfl rfl trivial rfl rfl rfl (fun b1 => ?_)
  refine WO.cls (C' := St w0 m m [[⟨b1, 24, [.int .i64 p0_0, .int .i64 p0_1, .int .i64 p0_2, .slice a_p0_3 p0_3.length c_p0_3]⟩]]) (fun _ h => h) ?_
  refine WO_alloc tbok [.int .i64 0, .int .i64 0, .int .i64 0, .slice none 0 0] rfl rfl trivial rfl rfl rfl rfl (fun b2 => ?_)
  refine WO.cls (C' := St w0 m m [[⟨b1, 24, [.int .i64 p0_0, .int .i64 p0_1, .int .i64 p0_2, .slice a_p0_3 p0_3.length c_p0_3]⟩], [⟨b2, 24, [.int .i64 0, .int .i64 0, .int .i64 0, .slice none 0 0]⟩]]) (fun _ h => h) ?_
  refine WO_pure tbok 1 [(1, .int .i64 p1), (2, .int .i64 p2), (3, .int .i64 p3), (4, .pointer (some ⟨b1, 0, none⟩)), (8, .pointer (some ⟨b2, 0, none⟩)), (9, .int .i64 0)] rfl ⟨rfl, rfl, rfl, rfl, rfl, rfl, trivial⟩ ?_
  refine WO_end ?_
  refine WK_seq ?_
  refine WK_seq ?_
  refine WK_region ?_
  refine WO_loadB tbok 0 rfl rfl rfl rfl (fun _ h => h) rfl rfl ?_
  refine WO_pure tbok 2 [(1, .int .i64 p1), (2, .int .i64 p2), (3, .int .i64 p3), (4, .pointer (some ⟨b1, 0, none⟩)), (8, .pointer (some ⟨b2, 0, none⟩)), (9, .int .i64 0), (11, .agg #[.int .i64 p0_0, .int .i64 p0_1, .int .i64 p0_2, .slice a_p0_3 p0_3.length c_p0_3]), (12, .int .i64 p1), (13, .int .i64 p2)] rfl ⟨rfl, rfl, rfl, rfl, rfl, rfl, rfl, rfl, rfl, trivial⟩ ?_
  obtain ⟨y_1, hc3, hm⟩ := bind_some hm
  refine WO_call0 (.int .i64 y_1) rfl rfl trivial rfl rfl rfl rfl St_closed ⟨17, #[], #[], rfl, callable_17, fun w hw => ⟨_, hw.sat, aggregate_grid_walk h_p0_3 hc3⟩⟩ ?_
  refine WO_pure tbok 1 [(1, .int .i64 p1), (2, .int .i64 p2), (3, .int .i64 p3), (4, .pointer (some ⟨b1, 0, none⟩)), (8, .pointer (some ⟨b2, 0, none⟩)), (9, .int .i64 0), (10, .int .i64 y_1)] rfl ⟨rfl, rfl, rfl, rfl, rfl, rfl, rfl, trivial⟩ ?_
  refine WO_end ?_
  refine WK_seq ?_
  refine WK_region ?_
  refine WO_pure tbok 2 [(1, .int .i64 p1), (2, .int .i64 p2), (3, .int .i64 p3), (4, .pointer (some ⟨b1, 0, none⟩)), (8, .pointer (some ⟨b2, 0, none⟩)), (9, .int .i64 0), (10, .int .i64 y_1), (16, .bool (y_1 != 0))] rfl ⟨rfl, rfl, rfl, rfl, rfl, rfl, rfl, rfl, trivial⟩ ?_
  refine WO_end ?_
  refine WK_cond (b := y_1 != 0) rfl (fun hb4 => ?_) (fun hb4 => ?_)
  · have hm := ifT hb4 hm
    refine WK_seq ?_
    refine WK_region ?_
    refine WO_pure tbok 2 [(1, .int .i64 p1), (2, .int .i64 p2), (3, .int .i64 p3), (4, .pointer (some ⟨b1, 0, none⟩)), (8, .pointer (some ⟨b2, 0, none⟩)), (9, .int .i64 0), (17, .agg #[.int .i64 0, .int .i64 0, .int .i64 0, .slice none 0 0]), (18, .int .i64 y_1)] rfl ⟨rfl, rfl, rfl, rfl, rfl, rfl, rfl, rfl, trivial⟩ ?_
    refine WO_storeB tbok 1 [.int .i64 0, .int .i64 0, .int .i64 0, .slice none 0 0] rfl rfl rfl rfl rfl rfl rfl ?_
    refine WO.cls (C' := St w0 m m [[⟨b1, 24, [.int .i64 p0_0, .int .i64 p0_1, .int .i64 p0_2, .slice a_p0_3 p0_3.length c_p0_3]⟩], [⟨b2, 24, [.int .i64 0, .int .i64 0, .int .i64 0, .slice none 0 0]⟩]]) (fun _ h => h) ?_
    refine WO_pure tbok 1 [(1, .int .i64 p1), (2, .int .i64 p2), (3, .int .i64 p3), (4, .pointer (some ⟨b1, 0, none⟩)), (8, .pointer (some ⟨b2, 0, none⟩)), (9, .int .i64 y_1)] rfl ⟨rfl, rfl, rfl, rfl, rfl, rfl, trivial⟩ ?_
    refine WO_end ?_
    cases hm
    exact WK_ret (ret_out (L := []) (RLc_cell tbok 1 rfl rfl rfl (RLc_tmp rfl RLc_nil)) (List.nil_sublist _) ⟨none, 0, 0, rfl, (OwnE.nil none)⟩)
  · have hm := ifF hb4 hm
    refine WK_skip ?_
    refine WK_seq ?_
    refine WK_seq ?_
    obtain ⟨s_2, hx5, hm⟩ := bind_some hm
    refine WK_meet [(1, .int .i64 p1), (2, .int .i64 p2), (3, .int .i64 p3), (4, .pointer (some ⟨b1, 0, none⟩)), (8, .pointer (some ⟨b2, 0, none⟩)), (9, .int .i64 0), (24, .bool s_2)] (St w0 m m [[⟨b1, 24, [.int .i64 p0_0, .int .i64 p0_1, .int .i64 p0_2, .slice a_p0_3 p0_3.length c_p0_3]⟩], [⟨b2, 24, [.int .i64 0, .int .i64 0, .int .i64 0, .slice none 0 0]⟩]]) ?_ (fun hk6 => ?_)
    · refine WK_cond (b := s_2) rfl (fun hb7 => ?_) (fun hb7 => ?_)
      · have hm := ifT hb7 hm
        refine WK_seq ?_
        refine WK_region ?_
        refine WO_pure tbok 1 [(1, .int .i64 p1), (2, .int .i64 p2), (3, .int .i64 p3), (4, .pointer (some ⟨b1, 0, none⟩)), (8, .pointer (some ⟨b2, 0, none⟩)), (9, .int .i64 0), (25, .agg #[.int .i64 0, .int .i64 0, .int .i64 0, .slice none 0 0])] rfl ⟨rfl, rfl, rfl, rfl, rfl, rfl, rfl, trivial⟩ ?_
        refine WO_storeB tbok 1 [.int .i64 0, .int .i64 0, .int .i64 0, .slice none 0 0] rfl rfl rfl rfl rfl rfl rfl ?_
        refine WO.cls (C' := St w0 m m [[⟨b1, 24, [.int .i64 p0_0, .int .i64 p0_1, .int .i64 p0_2, .slice a_p0_3 p0_3.length c_p0_3]⟩], [⟨b2, 24, [.int .i64 0, .int .i64 0, .int .i64 0, .slice none 0 0]⟩]]) (fun _ h => h) ?_
        refine WO_pure tbok 1 [(1, .int .i64 p1), (2, .int .i64 p2), (3, .int .i64 p3), (4, .pointer (some ⟨b1, 0, none⟩)), (8, .pointer (some ⟨b2, 0, none⟩)), (9, .int .i64 1)] rfl ⟨rfl, rfl, rfl, rfl, rfl, rfl, trivial⟩ ?_
        refine WO_end ?_
        cases hm
        exact WK_ret (ret_out (L := []) (RLc_cell tbok 1 rfl rfl rfl (RLc_tmp rfl RLc_nil)) (List.nil_sublist _) ⟨none, 0, 0, rfl, (OwnE.nil none)⟩)
      · have hm := ifF hb7 hm
        refine WK_skip ?_
        refine WK_seq ?_
        refine WK_region ?_
        refine WO_loadB tbok 0 rfl rfl rfl rfl (fun _ h => h) rfl rfl ?_
        refine WO_pure tbok 3 [(8, .pointer (some ⟨b2, 0, none⟩)), (9, .int .i64 0), (26, .agg #[.int .i64 p0_0, .int .i64 p0_1, .int .i64 p0_2, .slice a_p0_3 p0_3.length c_p0_3]), (27, .int .i64 p1), (28, .int .i64 p2), (29, .int .i64 p3)] rfl ⟨rfl, rfl, rfl, rfl, rfl, rfl, trivial⟩ ?_
        obtain ⟨⟨y_3, y_4, y_5, y_6⟩, hc8, hm⟩ := bind_some hm
        refine WO_call1 (aggregate_path_Q (y_3, y_4, y_5, y_6)) rfl rfl trivial rfl rfl rfl rfl ⟨18, #[], #[], rfl, callable_18, fun w hw => ⟨_, hw.sat, aggregate_path_walk hg0 h_p0_3 hc8⟩⟩ (fun v12 L11 hq => ?_)
        obtain ⟨a9, qa9, c10, rfl, hL11⟩ := hq
        obtain rfl := OwnE.qlen hL11
        refine WO.cls (C' := St w0 m m [[⟨b1, 24, [.int .i64 p0_0, .int .i64 p0_1, .int .i64 p0_2, .slice a_p0_3 p0_3.length c_p0_3]⟩], [⟨b2, 24, [.int .i64 0, .int .i64 0, .int .i64 0, .slice none 0 0]⟩], L11]) (fun _ h => h) ?_
        refine WO_storeB tbok 1 [.int .i64 y_3, .int .i64 y_4, .int .i64 y_5, .slice a9 ((y_6).length) c10] rfl rfl rfl rfl rfl rfl rfl ?_
        refine WO.cls (C' := St w0 m m [[⟨b1, 24, [.int .i64 p0_0, .int .i64 p0_1, .int .i64 p0_2, .slice a_p0_3 p0_3.length c_p0_3]⟩], [⟨b2, 24, [.int .i64 y_3, .int .i64 y_4, .int .i64 y_5, .slice a9 ((y_6).length) c10]⟩], L11]) (fun _ h => h) ?_
        refine WO_pure tbok 1 [(8, .pointer (some ⟨b2, 0, none⟩)), (9, .int .i64 0)] rfl ⟨rfl, rfl, trivial⟩ ?_
        refine WO_end ?_
        cases hm
        exact WK_ret (ret_out (L := L11) (RLc_cell tbok 1 rfl rfl rfl (RLc_tmp rfl RLc_nil)) (seg_sub 2 rfl) ⟨a9, _, c10, rfl, hL11⟩)
    · refine WK_region ?_
      refine WO_pure tbok 3 [(1, .int .i64 p1), (2, .int .i64 p2), (3, .int .i64 p3), (4, .pointer (some ⟨b1, 0, none⟩)), (8, .pointer (some ⟨b2, 0, none⟩)), (9, .int .i64 0), (21, .bool (decide (p3 < 0)))] rfl ⟨rfl, rfl, rfl, rfl, rfl, rfl, rfl, trivial⟩ ?_
      refine WO_split (d := 21) (b := decide (p3 < 0)) rfl (fun hb13 => ?_) (fun hb13 => ?_)
      · have hx5 := ifT hb13 hx5
        refine WO_pure tbok 3 [(1, .int .i64 p1), (2, .int .i64 p2), (3, .int .i64 p3), (4, .pointer (some ⟨b1, 0, none⟩)), (8, .pointer (some ⟨b2, 0, none⟩)), (9, .int .i64 0), (24, .bool true)] rfl ⟨rfl, rfl, rfl, rfl, rfl, rfl, rfl, trivial⟩ ?_
        refine WO_end ?_
        cases hx5
        refine WK.sub ?_ (WK.cls (fun _ h => h) hk6)
        exact ⟨rfl, rfl, rfl, rfl, rfl, rfl, rfl, trivial⟩
      · have hx5 := ifF hb13 hx5
        refine WO_pure tbok 3 [(1, .int .i64 p1), (2, .int .i64 p2), (3, .int .i64 p3), (4, .pointer (some ⟨b1, 0, none⟩)), (8, .pointer (some ⟨b2, 0, none⟩)), (9, .int .i64 0), (24, .bool (decide (7 < p3)))] rfl ⟨rfl, rfl, rfl, rfl, rfl, rfl, rfl, trivial⟩ ?_
        refine WO_end ?_
        cases hx5
        refine WK.sub ?_ (WK.cls (fun _ h => h) hk6)
        exact ⟨rfl, rfl, rfl, rfl, rfl, rfl, rfl, trivial⟩
theorem fiduciallaw45_image_c1_walk {m : Mu} {p0 : Int}   {r : Bool} (hm : fiduciallaw45_image_c1 p0 = some r) :
    Go.E.Spec Tryd.prog 20 [.int .i64 p0] m (fun v _ _ => v = .bool r) := by
  refine Spec_enter Tryd.func20 rfl rfl rfl (fun w0 => ?_)
  refine WK.sub (e' := [(0, .int .i64 p0)]) ⟨rfl, trivial⟩ ?_
  refine WK.sub (e' := [(0, .int .i64 p0)]) ⟨rfl, trivial⟩ ?_
  unfold fiduciallaw45_image_c1 at hm
  refine WK_seq ?_
  refine WK_region ?_
  refine WO_pure tbok 1 [(0, .int .i64 p0), (2, .bool false)] rfl ⟨rfl, rfl, trivial⟩ ?_
  refine WO_end ?_
  refine WK_seq ?_
  refine WK_region ?_
  refine WO_pure tbok 3 [(0, .int .i64 p0), (2, .bool false), (5, .bool (decide (p0 < 0)))] rfl ⟨rfl, rfl, rfl, trivial⟩ ?_
  refine WO_split (d := 5) (b := decide (p0 < 0)) rfl (fun hb1 => ?_) (fun hb1 => ?_)
  · have hm := ifT hb1 hm
    refine WO_pure tbok 4 [(2, .bool true)] rfl ⟨rfl, trivial⟩ ?_
    refine WO_end ?_
    cases hm
    exact WK_ret (ret_out (L := []) (RLc_tmp rfl RLc_nil) (List.nil_sublist _) rfl)
  · have hm := ifF hb1 hm
    refine WO_pure tbok 4 [(2, .bool (decide (1048576 < p0)))] rfl ⟨rfl, trivial⟩ ?_
    refine WO_end ?_
    cases hm
    exact WK_ret (ret_out (L := []) (RLc_tmp rfl RLc_nil) (List.nil_sublist _) rfl)
theorem fiduciallaw45_penalties_walk {m : Mu} {p0 : Int} {p1 : Int}   {r : Bool} (hm : fiduciallaw45_penalties p0 p1 = some r) :
    Go.E.Spec Tryd.prog 21 [.int .i64 p0, .int .i64 p1] m (fun v _ _ => v = .bool r) := by
  refine Spec_enter Tryd.func21 rfl rfl rfl (fun w0 => ?_)
  refine WK.sub (e' := [(0, .int .i64 p0), (1, .int .i64 p1)]) ⟨rfl, rfl, trivial⟩ ?_
  refine WK.sub (e' := [(0, .int .i64 p0), (1, .int .i64 p1)]) ⟨rfl, rfl, trivial⟩ ?_
  unfold fiduciallaw45_penalties at hm
  refine WK_seq ?_
  refine WK_region ?_
  refine WO_pure tbok 1 [(0, .int .i64 p0), (1, .int .i64 p1), (4, .bool false)] rfl ⟨rfl, rfl, rfl, trivial⟩ ?_
  refine WO_end ?_
  refine WK_seq ?_
  refine WK_region ?_
  refine WO_pure tbok 3 [(0, .int .i64 p0), (1, .int .i64 p1), (4, .bool false), (7, .bool (decide (0 ≤ p0)))] rfl ⟨rfl, rfl, rfl, rfl, trivial⟩ ?_
  refine WO_split (d := 7) (b := decide (0 ≤ p0)) rfl (fun hb1 => ?_) (fun hb1 => ?_)
  · have hm := ifT hb1 hm
    refine WO_pure tbok 5 [(1, .int .i64 p1), (4, .bool false), (12, .bool (decide (p0 ≤ p1)))] rfl ⟨rfl, rfl, rfl, trivial⟩ ?_
    refine WO_split (d := 12) (b := decide (p0 ≤ p1)) rfl (fun hb2 => ?_) (fun hb2 => ?_)
    · have hm := ifT hb2 hm
      refine WO_pure tbok 4 [(4, .bool (decide (p1 ≤ 1048576)))] rfl ⟨rfl, trivial⟩ ?_
      refine WO_end ?_
      cases hm
      exact WK_ret (ret_out (L := []) (RLc_tmp rfl RLc_nil) (List.nil_sublist _) rfl)
    · have hm := ifF hb2 hm
      refine WO_pure tbok 4 [(4, .bool false)] rfl ⟨rfl, trivial⟩ ?_
      refine WO_end ?_
      cases hm
      exact WK_ret (ret_out (L := []) (RLc_tmp rfl RLc_nil) (List.nil_sublist _) rfl)
  · have hm := ifF hb1 hm
    refine WO_pure tbok 9 [(4, .bool false)] rfl ⟨rfl, trivial⟩ ?_
    refine WO_end ?_
    cases hm
    exact WK_ret (ret_out (L := []) (RLc_tmp rfl RLc_nil) (List.nil_sublist _) rfl)
theorem fiduciallaw45_image_walk {m : Mu} {p0_0 : Int} {p0_1 : Int} {p0_2 : Int} {p0_3 : List Int} {p1 : Int} {p2 : Int} {a_p0_3 : Option Addr} {q_p0_3 c_p0_3 : Nat} (h_p0_3 : SlR (FE (I1 .i64)) 1 m (.slice a_p0_3 q_p0_3 c_p0_3) p0_3) {r : Int} (hm : fiduciallaw45_image p0_0 p0_1 p0_2 p0_3 p1 p2 = some r) :
    Go.E.Spec Tryd.prog 8 [.agg #[.int .i64 p0_0, .int .i64 p0_1, .int .i64 p0_2, .slice a_p0_3 q_p0_3 c_p0_3], .int .i64 p1, .int .i64 p2] m (fun v _ _ => v = .int .i64 r) := by
  refine Spec_enter Tryd.func8 rfl rfl rfl (fun w0 => ?_)
  refine WK.sub (e' := [(0, .agg #[.int .i64 p0_0, .int .i64 p0_1, .int .i64 p0_2, .slice a_p0_3 q_p0_3 c_p0_3]), (1, .int .i64 p1), (2, .int .i64 p2)]) ⟨rfl, rfl, rfl, trivial⟩ ?_
  obtain rfl := SlR.qlen h_p0_3
  refine WK.sub (e' := [(0, .agg #[.int .i64 p0_0, .int .i64 p0_1, .int .i64 p0_2, .slice a_p0_3 p0_3.length c_p0_3]), (1, .int .i64 p1), (2, .int .i64 p2)]) ⟨rfl, rfl, rfl, trivial⟩ ?_
  unfold fiduciallaw45_image at hm
  refine WK_seq ?_
  refine WK_region ?_
  refine WO_box [.int .i64 p0_0, .int .i64 p0_1, .int .i64 p0_2, .slice a_p0_3 p0_3.length c_p0_3] rfl rfl trivial rfl rfl rfl (fun b1 => ?_)
  refine WO.cls (C' := St w0 m m [[⟨b1, 24, [.int .i64 p0_0, .int .i64 p0_1, .int .i64 p0_2, .slice a_p0_3 p0_3.length c_p0_3]⟩]]) (fun _ h => h) ?_
  refine WO_pure tbok 1 [(1, .int .i64 p1), (2, .int .i64 p2), (3, .pointer (some ⟨b1, 0, none⟩)), (6, .int .i64 0)] rfl ⟨rfl, rfl, rfl, rfl, trivial⟩ ?_
  refine WO_end ?_
  refine WK_seq ?_
  refine WK_seq ?_
  obtain ⟨s_1, hx2, hm⟩ := bind_some hm
  refine WK_meet [(1, .int .i64 p1), (2, .int .i64 p2), (3, .pointer (some ⟨b1, 0, none⟩)), (6, .int .i64 0), (48, .bool s_1)] (St w0 m m [[⟨b1, 24, [.int .i64 p0_0, .int .i64 p0_1, .int .i64 p0_2, .slice a_p0_3 p0_3.length c_p0_3]⟩]]) ?_ (fun hk3 => ?_)
  · refine WK_cond (b := s_1) rfl (fun hb4 => ?_) (fun hb4 => ?_)
    · have hm := ifT hb4 hm
      refine WK_seq ?_
      refine WK_region ?_
      refine WO_pure tbok 1 [(1, .int .i64 p1), (2, .int .i64 p2), (3, .pointer (some ⟨b1, 0, none⟩)), (6, .int .i64 1)] rfl ⟨rfl, rfl, rfl, rfl, trivial⟩ ?_
      refine WO_end ?_
      cases hm
      exact WK_ret (ret_out (L := []) (RLc_tmp rfl RLc_nil) (List.nil_sublist _) rfl)
    · have hm := ifF hb4 hm
      refine WK_skip ?_
      refine WK_seq ?_
      refine WK_seq ?_
      refine WK_region ?_
      refine WO_pure tbok 1 [(1, .int .i64 p1), (2, .int .i64 p2), (6, .int .i64 0), (49, .pointer (some ⟨b1, 3, none⟩))] rfl ⟨rfl, rfl, rfl, rfl, trivial⟩ ?_
      refine WO_loadB tbok 0 rfl rfl rfl rfl (fun _ h => h) rfl rfl ?_
      obtain ⟨y_3, hc5, hm⟩ := bind_some hm
      refine WO_call0 (.bool y_3) rfl rfl trivial rfl rfl rfl rfl St_closed ⟨19, #[], #[], rfl, callable_19, fun w hw => ⟨_, hw.sat, slices_ContainsFunc_sint_walk h_p0_3 (fun m1 hm1 z_2 _ h => specV_cap callable_20 (fiduciallaw45_image_c1_walk h)) hc5⟩⟩ ?_
      refine WO_end ?_
      refine WK_cond (b := y_3) rfl (fun hb6 => ?_) (fun hb6 => ?_)
      · have hm := ifT hb6 hm
        refine WK_seq ?_
        refine WK_region ?_
        refine WO_pure tbok 1 [(1, .int .i64 p1), (2, .int .i64 p2), (6, .int .i64 1)] rfl ⟨rfl, rfl, rfl, trivial⟩ ?_
        refine WO_end ?_
        cases hm
        exact WK_ret (ret_out (L := []) (RLc_tmp rfl RLc_nil) (List.nil_sublist _) rfl)
      · have hm := ifF hb6 hm
        refine WK_skip ?_
        refine WK_seq ?_
        refine WK_seq ?_
        refine WK_region ?_
        refine WO_pure tbok 2 [(6, .int .i64 0), (52, .int .i64 p1), (53, .int .i64 p2)] rfl ⟨rfl, rfl, rfl, trivial⟩ ?_
        obtain ⟨y_4, hc7, hm⟩ := bind_some hm
        refine WO_call0 (.bool y_4) rfl rfl trivial rfl rfl rfl rfl St_closed ⟨21, #[], #[], rfl, callable_21, fun w hw => ⟨_, hw.sat, fiduciallaw45_penalties_walk hc7⟩⟩ ?_
        refine WO_pure tbok 1 [(6, .int .i64 0), (55, .bool (!y_4))] rfl ⟨rfl, rfl, trivial⟩ ?_
        refine WO_end ?_
        refine WK_cond (b := !y_4) rfl (fun hb8 => ?_) (fun hb8 => ?_)
        · have hm := ifT hb8 hm
          refine WK_seq ?_
          refine WK_region ?_
          refine WO_pure tbok 1 [(6, .int .i64 2)] rfl ⟨rfl, trivial⟩ ?_
          refine WO_end ?_
          cases hm
          exact WK_ret (ret_out (L := []) (RLc_tmp rfl RLc_nil) (List.nil_sublist _) rfl)
        · have hm := ifF hb8 hm
          refine WK_skip ?_
          refine WK_seq ?_
          refine WK_region ?_
          refine WO_pure tbok 1 [(6, .int .i64 0)] rfl ⟨rfl, trivial⟩ ?_
          refine WO_end ?_
          cases hm
          exact WK_ret (ret_out (L := []) (RLc_tmp rfl RLc_nil) (List.nil_sublist _) rfl)
  · refine WK_region ?_
    refine WO_pure tbok 1 [(1, .int .i64 p1), (2, .int .i64 p2), (3, .pointer (some ⟨b1, 0, none⟩)), (6, .int .i64 0), (7, .pointer (some ⟨b1, 0, none⟩))] rfl ⟨rfl, rfl, rfl, rfl, rfl, trivial⟩ ?_
    refine WO_loadB tbok 0 rfl rfl rfl rfl (fun _ h => h) rfl rfl ?_
    refine WO_pure tbok 2 [(1, .int .i64 p1), (2, .int .i64 p2), (3, .pointer (some ⟨b1, 0, none⟩)), (6, .int .i64 0), (10, .bool (decide (p0_0 < 1)))] rfl ⟨rfl, rfl, rfl, rfl, rfl, trivial⟩ ?_
    refine WO_split (d := 10) (b := decide (p0_0 < 1)) rfl (fun hb9 => ?_) (fun hb9 => ?_)
    · have hx2 := ifT hb9 hx2
      refine WO_pure tbok 38 [(1, .int .i64 p1), (2, .int .i64 p2), (3, .pointer (some ⟨b1, 0, none⟩)), (6, .int .i64 0), (48, .bool true)] rfl ⟨rfl, rfl, rfl, rfl, rfl, trivial⟩ ?_
      refine WO_end ?_
      cases hx2
      refine WK.sub ?_ (WK.cls (fun _ h => h) hk3)
      exact ⟨rfl, rfl, rfl, rfl, rfl, trivial⟩
    · have hx2 := ifF hb9 hx2
      refine WO_pure tbok 1 [(1, .int .i64 p1), (2, .int .i64 p2), (3, .pointer (some ⟨b1, 0, none⟩)), (6, .int .i64 0), (10, .bool false), (11, .pointer (some ⟨b1, 0, none⟩))] rfl ⟨rfl, rfl, rfl, rfl, rfl, rfl, trivial⟩ ?_
      refine WO_loadB tbok 0 rfl rfl rfl rfl (fun _ h => h) rfl rfl ?_
      refine WO_pure tbok 3 [(1, .int .i64 p1), (2, .int .i64 p2), (3, .pointer (some ⟨b1, 0, none⟩)), (6, .int .i64 0), (15, .bool (decide (64 < p0_0)))] rfl ⟨rfl, rfl, rfl, rfl, rfl, trivial⟩ ?_
      refine WO_split (d := 15) (b := decide (64 < p0_0)) rfl (fun hb10 => ?_) (fun hb10 => ?_)
      · have hx2 := ifT hb10 hx2
        refine WO_pure tbok 33 [(1, .int .i64 p1), (2, .int .i64 p2), (3, .pointer (some ⟨b1, 0, none⟩)), (6, .int .i64 0), (48, .bool true)] rfl ⟨rfl, rfl, rfl, rfl, rfl, trivial⟩ ?_
        refine WO_end ?_
        cases hx2
        refine WK.sub ?_ (WK.cls (fun _ h => h) hk3)
        exact ⟨rfl, rfl, rfl, rfl, rfl, trivial⟩
      · have hx2 := ifF hb10 hx2
        refine WO_pure tbok 1 [(1, .int .i64 p1), (2, .int .i64 p2), (3, .pointer (some ⟨b1, 0, none⟩)), (6, .int .i64 0), (15, .bool false), (16, .pointer (some ⟨b1, 1, none⟩))] rfl ⟨rfl, rfl, rfl, rfl, rfl, rfl, trivial⟩ ?_
        refine WO_loadB tbok 0 rfl rfl rfl rfl (fun _ h => h) rfl rfl ?_
        refine WO_pure tbok 3 [(1, .int .i64 p1), (2, .int .i64 p2), (3, .pointer (some ⟨b1, 0, none⟩)), (6, .int .i64 0), (20, .bool (decide (p0_1 < 1)))] rfl ⟨rfl, rfl, rfl, rfl, rfl, trivial⟩ ?_
        refine WO_split (d := 20) (b := decide (p0_1 < 1)) rfl (fun hb11 => ?_) (fun hb11 => ?_)
        · have hx2 := ifT hb11 hx2
          refine WO_pure tbok 28 [(1, .int .i64 p1), (2, .int .i64 p2), (3, .pointer (some ⟨b1, 0, none⟩)), (6, .int .i64 0), (48, .bool true)] rfl ⟨rfl, rfl, rfl, rfl, rfl, trivial⟩ ?_
          refine WO_end ?_
          cases hx2
          refine WK.sub ?_ (WK.cls (fun _ h => h) hk3)
          exact ⟨rfl, rfl, rfl, rfl, rfl, trivial⟩
        · have hx2 := ifF hb11 hx2
          refine WO_pure tbok 1 [(1, .int .i64 p1), (2, .int .i64 p2), (3, .pointer (some ⟨b1, 0, none⟩)), (6, .int .i64 0), (20, .bool false), (21, .pointer (some ⟨b1, 1, none⟩))] rfl ⟨rfl, rfl, rfl, rfl, rfl, rfl, trivial⟩ ?_
          refine WO_loadB tbok 0 rfl rfl rfl rfl (fun _ h => h) rfl rfl ?_
          refine WO_pure tbok 3 [(1, .int .i64 p1), (2, .int .i64 p2), (3, .pointer (some ⟨b1, 0, none⟩)), (6, .int .i64 0), (25, .bool (decide (64 < p0_1)))] rfl ⟨rfl, rfl, rfl, rfl, rfl, trivial⟩ ?_
          refine WO_split (d := 25) (b := decide (64 < p0_1)) rfl (fun hb12 => ?_) (fun hb12 => ?_)
          · have hx2 := ifT hb12 hx2
            refine WO_pure tbok 23 [(1, .int .i64 p1), (2, .int .i64 p2), (3, .pointer (some ⟨b1, 0, none⟩)), (6, .int .i64 0), (48, .bool true)] rfl ⟨rfl, rfl, rfl, rfl, rfl, trivial⟩ ?_
            refine WO_end ?_
            cases hx2
            refine WK.sub ?_ (WK.cls (fun _ h => h) hk3)
            exact ⟨rfl, rfl, rfl, rfl, rfl, trivial⟩
          · have hx2 := ifF hb12 hx2
            refine WO_pure tbok 1 [(1, .int .i64 p1), (2, .int .i64 p2), (3, .pointer (some ⟨b1, 0, none⟩)), (6, .int .i64 0), (25, .bool false), (26, .pointer (some ⟨b1, 2, none⟩))] rfl ⟨rfl, rfl, rfl, rfl, rfl, rfl, trivial⟩ ?_
            refine WO_loadB tbok 0 rfl rfl rfl rfl (fun _ h => h) rfl rfl ?_
            refine WO_pure tbok 3 [(1, .int .i64 p1), (2, .int .i64 p2), (3, .pointer (some ⟨b1, 0, none⟩)), (6, .int .i64 0), (30, .bool (decide (p0_2 < 1)))] rfl ⟨rfl, rfl, rfl, rfl, rfl, trivial⟩ ?_
            refine WO_split (d := 30) (b := decide (p0_2 < 1)) rfl (fun hb13 => ?_) (fun hb13 => ?_)
            · have hx2 := ifT hb13 hx2
              refine WO_pure tbok 18 [(1, .int .i64 p1), (2, .int .i64 p2), (3, .pointer (some ⟨b1, 0, none⟩)), (6, .int .i64 0), (48, .bool true)] rfl ⟨rfl, rfl, rfl, rfl, rfl, trivial⟩ ?_
              refine WO_end ?_
              cases hx2
              refine WK.sub ?_ (WK.cls (fun _ h => h) hk3)
              exact ⟨rfl, rfl, rfl, rfl, rfl, trivial⟩
            · have hx2 := ifF hb13 hx2
              refine WO_pure tbok 1 [(1, .int .i64 p1), (2, .int .i64 p2), (3, .pointer (some ⟨b1, 0, none⟩)), (6, .int .i64 0), (30, .bool false), (31, .pointer (some ⟨b1, 2, none⟩))] rfl ⟨rfl, rfl, rfl, rfl, rfl, rfl, trivial⟩ ?_
              refine WO_loadB tbok 0 rfl rfl rfl rfl (fun _ h => h) rfl rfl ?_
              refine WO_pure tbok 3 [(1, .int .i64 p1), (2, .int .i64 p2), (3, .pointer (some ⟨b1, 0, none⟩)), (6, .int .i64 0), (35, .bool (decide (64 < p0_2)))] rfl ⟨rfl, rfl, rfl, rfl, rfl, trivial⟩ ?_
              refine WO_split (d := 35) (b := decide (64 < p0_2)) rfl (fun hb14 => ?_) (fun hb14 => ?_)
              · have hx2 := ifT hb14 hx2
                refine WO_pure tbok 13 [(1, .int .i64 p1), (2, .int .i64 p2), (3, .pointer (some ⟨b1, 0, none⟩)), (6, .int .i64 0), (48, .bool true)] rfl ⟨rfl, rfl, rfl, rfl, rfl, trivial⟩ ?_
                refine WO_end ?_
                cases hx2
                refine WK.sub ?_ (WK.cls (fun _ h => h) hk3)
                exact ⟨rfl, rfl, rfl, rfl, rfl, trivial⟩
              · have hx2 := ifF hb14 hx2
                refine WO_pure tbok 1 [(1, .int .i64 p1), (2, .int .i64 p2), (3, .pointer (some ⟨b1, 0, none⟩)), (6, .int .i64 0), (35, .bool false), (36, .pointer (some ⟨b1, 3, none⟩))] rfl ⟨rfl, rfl, rfl, rfl, rfl, rfl, trivial⟩ ?_
                refine WO_loadB tbok 0 rfl rfl rfl rfl (fun _ h => h) rfl rfl ?_
                refine WO_pure tbok 2 [(1, .int .i64 p1), (2, .int .i64 p2), (3, .pointer (some ⟨b1, 0, none⟩)), (6, .int .i64 0), (35, .bool false), (38, .int .i64 (p0_3.length : Int)), (39, .pointer (some ⟨b1, 0, none⟩))] rfl ⟨rfl, rfl, rfl, rfl, rfl, rfl, rfl, trivial⟩ ?_
                refine WO_loadB tbok 0 rfl rfl rfl rfl (fun _ h => h) rfl rfl ?_
                refine WO_pure tbok 1 [(1, .int .i64 p1), (2, .int .i64 p2), (3, .pointer (some ⟨b1, 0, none⟩)), (6, .int .i64 0), (35, .bool false), (38, .int .i64 (p0_3.length : Int)), (40, .int .i64 p0_0), (41, .pointer (some ⟨b1, 1, none⟩))] rfl ⟨rfl, rfl, rfl, rfl, rfl, rfl, rfl, rfl, trivial⟩ ?_
                refine WO_loadB tbok 0 rfl rfl rfl rfl (fun _ h => h) rfl rfl ?_
                refine WO_pure tbok 2 [(1, .int .i64 p1), (2, .int .i64 p2), (3, .pointer (some ⟨b1, 0, none⟩)), (6, .int .i64 0), (35, .bool false), (38, .int .i64 (p0_3.length : Int)), (43, .int .i64 (w64 (p0_0 * p0_1))), (44, .pointer (some ⟨b1, 2, none⟩))] rfl ⟨rfl, rfl, rfl, rfl, rfl, rfl, rfl, rfl, trivial⟩ ?_
                refine WO_loadB tbok 0 rfl rfl rfl rfl (fun _ h => h) rfl rfl ?_
                refine WO_pure tbok 3 [(1, .int .i64 p1), (2, .int .i64 p2), (3, .pointer (some ⟨b1, 0, none⟩)), (6, .int .i64 0), (48, .bool ((p0_3.length : Int) != (w64 ((w64 (p0_0 * p0_1)) * p0_2))))] rfl ⟨rfl, rfl, rfl, rfl, rfl, trivial⟩ ?_
                refine WO_end ?_
                cases hx2
                refine WK.sub ?_ (WK.cls (fun _ h => h) hk3)
                exact ⟨rfl, rfl, rfl, rfl, rfl, trivial⟩
theorem fiduciallaw45_empty_walk {m : Mu} {p0_0 : Int} {p0_1 : Int} {p0_2 : Int} {p0_3 : List Int} {a_p0_3 : Option Addr} {q_p0_3 c_p0_3 : Nat} (h_p0_3 : SlR (FE (I1 .i64)) 1 m (.slice a_p0_3 q_p0_3 c_p0_3) p0_3) {r : Bool} (hm : fiduciallaw45_empty p0_0 p0_1 p0_2 p0_3 = some r) :
    Go.E.Spec Tryd.prog 9 [.agg #[.int .i64 p0_0, .int .i64 p0_1, .int .i64 p0_2, .slice a_p0_3 q_p0_3 c_p0_3]] m (fun v _ _ => v = .bool r) := by
  refine Spec_enter Tryd.func9 rfl rfl rfl (fun w0 => ?_)
  refine WK.sub (e' := [(0, .agg #[.int .i64 p0_0, .int .i64 p0_1, .int .i64 p0_2, .slice a_p0_3 q_p0_3 c_p0_3])]) ⟨rfl, trivial⟩ ?_
  obtain rfl := SlR.qlen h_p0_3
  refine WK.sub (e' := [(0, .agg #[.int .i64 p0_0, .int .i64 p0_1, .int .i64 p0_2, .slice a_p0_3 p0_3.length c_p0_3])]) ⟨rfl, trivial⟩ ?_
  unfold fiduciallaw45_empty at hm
  refine WK_seq ?_
  refine WK_region ?_
  refine WO_box [.int .i64 p0_0, .int .i64 p0_1, .int .i64 p0_2, .slice a_p0_3 p0_3.length c_p0_3] rfl rfl trivial rfl rfl rfl (fun b1 => ?_)
  refine WO.cls (C' := St w0 m m [[⟨b1, 24, [.int .i64 p0_0, .int .i64 p0_1, .int .i64 p0_2, .slice a_p0_3 p0_3.length c_p0_3]⟩]]) (fun _ h => h) ?_
  refine WO_pure tbok 1 [(1, .pointer (some ⟨b1, 0, none⟩)), (2, .bool false)] rfl ⟨rfl, rfl, trivial⟩ ?_
  refine WO_end ?_
  refine WK_seq ?_
  refine WK_region ?_
  refine WO_pure tbok 1 [(1, .pointer (some ⟨b1, 0, none⟩)), (2, .bool false), (3, .pointer (some ⟨b1, 0, none⟩))] rfl ⟨rfl, rfl, rfl, trivial⟩ ?_
  refine WO_loadB tbok 0 rfl rfl rfl rfl (fun _ h => h) rfl rfl ?_
  refine WO_pure tbok 2 [(1, .pointer (some ⟨b1, 0, none⟩)), (2, .bool false), (6, .bool (p0_0 == 0))] rfl ⟨rfl, rfl, rfl, trivial⟩ ?_
  refine WO_split (d := 6) (b := p0_0 == 0) rfl (fun hb2 => ?_) (fun hb2 => ?_)
  · have hm := ifT hb2 hm
    refine WO_pure tbok 1 [(1, .pointer (some ⟨b1, 0, none⟩)), (2, .bool false), (6, .bool true), (7, .pointer (some ⟨b1, 1, none⟩))] rfl ⟨rfl, rfl, rfl, rfl, trivial⟩ ?_
    refine WO_loadB tbok 0 rfl rfl rfl rfl (fun _ h => h) rfl rfl ?_
    refine WO_pure tbok 3 [(1, .pointer (some ⟨b1, 0, none⟩)), (2, .bool false), (11, .bool (p0_1 == 0))] rfl ⟨rfl, rfl, rfl, trivial⟩ ?_
    refine WO_split (d := 11) (b := p0_1 == 0) rfl (fun hb3 => ?_) (fun hb3 => ?_)
    · have hm := ifT hb3 hm
      refine WO_pure tbok 1 [(1, .pointer (some ⟨b1, 0, none⟩)), (2, .bool false), (11, .bool true), (12, .pointer (some ⟨b1, 2, none⟩))] rfl ⟨rfl, rfl, rfl, rfl, trivial⟩ ?_
      refine WO_loadB tbok 0 rfl rfl rfl rfl (fun _ h => h) rfl rfl ?_
      refine WO_pure tbok 3 [(1, .pointer (some ⟨b1, 0, none⟩)), (2, .bool false), (16, .bool (p0_2 == 0))] rfl ⟨rfl, rfl, rfl, trivial⟩ ?_
      refine WO_split (d := 16) (b := p0_2 == 0) rfl (fun hb4 => ?_) (fun hb4 => ?_)
      · have hm := ifT hb4 hm
        refine WO_pure tbok 1 [(2, .bool false), (16, .bool true), (17, .pointer (some ⟨b1, 3, none⟩))] rfl ⟨rfl, rfl, rfl, trivial⟩ ?_
        refine WO_loadB tbok 0 rfl rfl rfl rfl (fun _ h => h) rfl rfl ?_
        refine WO_pure tbok 4 [(2, .bool ((p0_3.length : Int) == 0))] rfl ⟨rfl, trivial⟩ ?_
        refine WO_end ?_
        cases hm
        exact WK_ret (ret_out (L := []) (RLc_tmp rfl RLc_nil) (List.nil_sublist _) rfl)
      · have hm := ifF hb4 hm
        refine WO_pure tbok 6 [(2, .bool false)] rfl ⟨rfl, trivial⟩ ?_
        refine WO_end ?_
        cases hm
        exact WK_ret (ret_out (L := []) (RLc_tmp rfl RLc_nil) (List.nil_sublist _) rfl)
    · have hm := ifF hb3 hm
      refine WO_pure tbok 11 [(2, .bool false)] rfl ⟨rfl, trivial⟩ ?_
      refine WO_end ?_
      cases hm
      exact WK_ret (ret_out (L := []) (RLc_tmp rfl RLc_nil) (List.nil_sublist _) rfl)
  · have hm := ifF hb2 hm
    refine WO_pure tbok 16 [(2, .bool false)] rfl ⟨rfl, trivial⟩ ?_
    refine WO_end ?_
    cases hm
    exact WK_ret (ret_out (L := []) (RLc_tmp rfl RLc_nil) (List.nil_sublist _) rfl)
theorem fiduciallaw45_steps_walk {m : Mu} {p0 : Int}   {r : Int × Int} (hm : fiduciallaw45_steps p0 = some r) :
    Go.E.Spec Tryd.prog 22 [.int .i64 p0] m (fun v _ _ => v = .tuple #[.int .i64 r.1, .int .i64 r.2]) := by
  refine Spec_enter Tryd.func22 rfl rfl rfl (fun w0 => ?_)
  refine WK.sub (e' := [(0, .int .i64 p0)]) ⟨rfl, trivial⟩ ?_
  refine WK.sub (e' := [(0, .int .i64 p0)]) ⟨rfl, trivial⟩ ?_
  unfold fiduciallaw45_steps at hm
  refine WK_seq ?_
  refine WK_region ?_
  refine WO_pure tbok 2 [(0, .int .i64 p0), (2, .int .i64 0), (3, .int .i64 0)] rfl ⟨rfl, rfl, rfl, trivial⟩ ?_
  refine WO_end ?_
  refine WK_seq ?_
  refine WK_region ?_
  refine WO_pure tbok 8 [(0, .int .i64 p0), (2, .int .i64 0), (3, .int .i64 0), (5, .agg #[.int .i64 1, .int .i64 0]), (6, .agg #[.int .i64 (-1), .int .i64 0]), (7, .agg #[.int .i64 0, .int .i64 1]), (8, .agg #[.int .i64 0, .int .i64 (-1)]), (9, .agg #[.int .i64 1, .int .i64 1]), (10, .agg #[.int .i64 (-1), .int .i64 (-1)]), (11, .agg #[.int .i64 1, .int .i64 (-1)]), (12, .agg #[.int .i64 (-1), .int .i64 1])] rfl ⟨rfl, rfl, rfl, rfl, rfl, rfl, rfl, rfl, rfl, rfl, rfl, trivial⟩ ?_
  refine WO_bslice (E := T2) tbok (fun _ => rfl) (by decide) [.agg #[.int .i64 1, .int .i64 0], .agg #[.int .i64 (-1), .int .i64 0], .agg #[.int .i64 0, .int .i64 1], .agg #[.int .i64 0, .int .i64 (-1)], .agg #[.int .i64 1, .int .i64 1], .agg #[.int .i64 (-1), .int .i64 (-1)], .agg #[.int .i64 1, .int .i64 (-1)], .agg #[.int .i64 (-1), .int .i64 1]] ([(1, 0), ((-1), 0), (0, 1), (0, (-1)), (1, 1), ((-1), (-1)), (1, (-1)), ((-1), 1)] : List (Int × Int)) rfl rfl trivial rfl rfl rfl rfl rfl rfl rfl rfl rfl rfl rfl rfl (fun b1 hb1 => ?_)
  refine WO.cls (C' := St w0 m m [[⟨b1, 25, ([(1, 0), ((-1), 0), (0, 1), (0, (-1)), (1, 1), ((-1), (-1)), (1, (-1)), ((-1), 1)] : List (Int × Int)).flatMap T2⟩]]) (fun _ h => h) ?_
  refine WO_pure tbok 1 [(0, .int .i64 p0), (2, .int .i64 0), (3, .int .i64 0), (4, .slice (some ⟨b1, 0, none⟩) 8 8)] rfl ⟨rfl, rfl, rfl, rfl, trivial⟩ ?_
  refine WO_end ?_
  refine WK_seq ?_
  refine WK_draw 12 [0, 1, 2, 3, 4, 5, 6, 7, 8, 9, 10, 11] follows_ok (by kernel_rfl) St_closed ?_
  refine WO_pure tbok 2 [(0, .int .i64 p0), (2, .int .i64 0), (3, .int .i64 0), (4, .slice (some ⟨b1, 0, none⟩) 8 8), (14, .slice (some ⟨b1, 0, none⟩) 8 8), (15, .int .i64 p0)] rfl ⟨rfl, rfl, rfl, rfl, rfl, rfl, trivial⟩ ?_
  obtain ⟨hc2, hm⟩ := chk_some hm
  refine WO_index tbok rfl rfl rfl rfl rfl rfl rfl rfl (OwnE.addr hb1) (by simpa using hc2) ?_
  refine WO_pure tbok 1 [(0, .int .i64 p0), (2, .int .i64 0), (3, .int .i64 0), (4, .slice (some ⟨b1, 0, none⟩) 8 8), (17, .pointer (some ((eAddr (.slice (some ⟨b1, 0, none⟩) 8 8) 2 p0.toNat).add 0)))] rfl ⟨rfl, rfl, rfl, rfl, rfl, trivial⟩ ?_
  refine WO_loadOI (E := T2) tbok (fun _ => rfl) 0 0 rfl rfl rfl rfl (fun _ h => h) hb1 rfl (getD_some (0, 0) (by simpa using idx_lt hc2)) rfl ?_
  refine WO_pure tbok 2 [(2, .int .i64 0), (3, .int .i64 0), (18, .int .i64 ((([(1, 0), ((-1), 0), (0, 1), (0, (-1)), (1, 1), ((-1), (-1)), (1, (-1)), ((-1), 1)] : List (Int × Int)).getD p0.toNat (0, 0)).1)), (19, .slice (some ⟨b1, 0, none⟩) 8 8), (20, .int .i64 p0)] rfl ⟨rfl, rfl, rfl, rfl, rfl, trivial⟩ ?_
  obtain ⟨hc3, hm⟩ := chk_some hm
  refine WO_index tbok rfl rfl rfl rfl rfl rfl rfl rfl (OwnE.addr hb1) (by simpa using hc3) ?_
  refine WO_pure tbok 1 [(2, .int .i64 0), (3, .int .i64 0), (18, .int .i64 ((([(1, 0), ((-1), 0), (0, 1), (0, (-1)), (1, 1), ((-1), (-1)), (1, (-1)), ((-1), 1)] : List (Int × Int)).getD p0.toNat (0, 0)).1)), (22, .pointer (some ((eAddr (.slice (some ⟨b1, 0, none⟩) 8 8) 2 p0.toNat).add 1)))] rfl ⟨rfl, rfl, rfl, rfl, trivial⟩ ?_
  refine WO_loadOI (E := T2) tbok (fun _ => rfl) 0 1 rfl rfl rfl rfl (fun _ h => h) hb1 rfl (getD_some (0, 0) (by simpa using idx_lt hc3)) rfl ?_
  refine WO_pure tbok 2 [(2, .int .i64 ((([(1, 0), ((-1), 0), (0, 1), (0, (-1)), (1, 1), ((-1), (-1)), (1, (-1)), ((-1), 1)] : List (Int × Int)).getD p0.toNat (0, 0)).1)), (3, .int .i64 ((([(1, 0), ((-1), 0), (0, 1), (0, (-1)), (1, 1), ((-1), (-1)), (1, (-1)), ((-1), 1)] : List (Int × Int)).getD p0.toNat (0, 0)).2))] rfl ⟨rfl, rfl, trivial⟩ ?_
  refine WO_tail ?_
  refine WO_end ?_
  cases hm
  exact WK_ret (ret_out (L := []) (RLc_tmp rfl (RLc_tmp rfl RLc_nil)) (List.nil_sublist _) rfl)
def fiduciallaw45_at_Q (r : List Int) : Value → Mu → List Ent → Prop := fun v m L => ∃ (a0 : Option Addr) (q0 c0 : Nat), v = .slice a0 q0 c0 ∧ SlR (FE (I1 .i64)) 1 m (.slice a0 q0 c0) r
theorem fiduciallaw45_at_walk {m : Mu} {p0_0 : Int} {p0_1 : Int} {p0_2 : Int} {p0_3 : List Int} {p1 : Int} {p2 : Int} {a_p0_3 : Option Addr} {q_p0_3 c_p0_3 : Nat} (h_p0_3 : SlR (FE (I1 .i64)) 1 m (.slice a_p0_3 q_p0_3 c_p0_3) p0_3) {r : List Int} (hm : fiduciallaw45_at p0_0 p0_1 p0_2 p0_3 p1 p2 = some r) :
    Go.E.Spec Tryd.prog 24 [.agg #[.int .i64 p0_0, .int .i64 p0_1, .int .i64 p0_2, .slice a_p0_3 q_p0_3 c_p0_3], .int .i64 p1, .int .i64 p2] m (fiduciallaw45_at_Q r) := by
  refine Spec_enter Tryd.func24 rfl rfl rfl (fun w0 => ?_)
  refine WK.sub (e' := [(0, .agg #[.int .i64 p0_0, .int .i64 p0_1, .int .i64 p0_2, .slice a_p0_3 q_p0_3 c_p0_3]), (1, .int .i64 p1), (2, .int .i64 p2)]) ⟨rfl, rfl, rfl, trivial⟩ ?_
  obtain rfl := SlR.qlen h_p0_3
  refine WK.sub (e' := [(0, .agg #[.int .i64 p0_0, .int .i64 p0_1, .int .i64 p0_2, .slice a_p0_3 p0_3.length c_p0_3]), (1, .int .i64 p1), (2, .int .i64 p2)]) ⟨rfl, rfl, rfl, trivial⟩ ?_
  unfold fiduciallaw45_at at hm
  refine WK_seq ?_
  refine WK_region ?_
  refine WO_box [.int .i64 p0_0, .int .i64 p0_1, .int .i64 p0_2, .slice a_p0_3 p0_3.length c_p0_3] rfl rfl trivial rfl rfl rfl (fun b1 => ?_)
  refine WO.cls (C' := St w0 m m [[⟨b1, 24, [.int .i64 p0_0, .int .i64 p0_1, .int .i64 p0_2, .slice a_p0_3 p0_3.length c_p0_3]⟩]]) (fun _ h => h) ?_
  refine WO_pure tbok 1 [(1, .int .i64 p1), (2, .int .i64 p2), (3, .pointer (some ⟨b1, 0, none⟩)), (6, .slice none 0 0)] rfl ⟨rfl, rfl, rfl, rfl, trivial⟩ ?_
  refine WO_end ?_
  refine WK_seq ?_
  refine WK_region ?_
  refine WO_pure tbok 2 [(1, .int .i64 p1), (3, .pointer (some ⟨b1, 0, none⟩)), (6, .slice none 0 0), (8, .int .i64 p2), (9, .pointer (some ⟨b1, 0, none⟩))] rfl ⟨rfl, rfl, rfl, rfl, rfl, trivial⟩ ?_
  refine WO_loadB tbok 0 rfl rfl rfl rfl (fun _ h => h) rfl rfl ?_
  refine WO_pure tbok 4 [(3, .pointer (some ⟨b1, 0, none⟩)), (6, .slice none 0 0), (13, .int .i64 (w64 ((w64 (p2 * p0_0)) + p1))), (14, .pointer (some ⟨b1, 2, none⟩))] rfl ⟨rfl, rfl, rfl, rfl, trivial⟩ ?_
  refine WO_loadB tbok 0 rfl rfl rfl rfl (fun _ h => h) rfl rfl ?_
  refine WO_pure tbok 2 [(3, .pointer (some ⟨b1, 0, none⟩)), (6, .slice none 0 0), (7, .int .i64 (w64 ((w64 ((w64 (p2 * p0_0)) + p1)) * p0_2)))] rfl ⟨rfl, rfl, rfl, trivial⟩ ?_
  refine WO_end ?_
  refine WK_seq ?_
  refine WK_region ?_
  refine WO_pure tbok 1 [(3, .pointer (some ⟨b1, 0, none⟩)), (6, .slice none 0 0), (7, .int .i64 (w64 ((w64 ((w64 (p2 * p0_0)) + p1)) * p0_2))), (17, .pointer (some ⟨b1, 3, none⟩))] rfl ⟨rfl, rfl, rfl, rfl, trivial⟩ ?_
  refine WO_loadB tbok 0 rfl rfl rfl rfl (fun _ h => h) rfl rfl ?_
  refine WO_pure tbok 3 [(6, .slice none 0 0), (18, .slice a_p0_3 p0_3.length c_p0_3), (19, .int .i64 (w64 ((w64 ((w64 (p2 * p0_0)) + p1)) * p0_2))), (20, .int .i64 (w64 ((w64 ((w64 (p2 * p0_0)) + p1)) * p0_2))), (21, .pointer (some ⟨b1, 2, none⟩))] rfl ⟨rfl, rfl, rfl, rfl, rfl, trivial⟩ ?_
  refine WO_loadB tbok 0 rfl rfl rfl rfl (fun _ h => h) rfl rfl ?_
  refine WO_pure tbok 1 [(6, .slice none 0 0), (18, .slice a_p0_3 p0_3.length c_p0_3), (19, .int .i64 (w64 ((w64 ((w64 (p2 * p0_0)) + p1)) * p0_2))), (23, .int .i64 (w64 ((w64 ((w64 ((w64 (p2 * p0_0)) + p1)) * p0_2)) + p0_2)))] rfl ⟨rfl, rfl, rfl, rfl, trivial⟩ ?_
  obtain ⟨hc2, hm⟩ := chk_some hm
  have hc2 : 0 ≤ (w64 ((w64 ((w64 (p2 * p0_0)) + p1)) * p0_2) : Int) ∧ (w64 ((w64 ((w64 (p2 * p0_0)) + p1)) * p0_2) : Int) ≤ (w64 ((w64 ((w64 ((w64 (p2 * p0_0)) + p1)) * p0_2)) + p0_2) : Int) ∧ (w64 ((w64 ((w64 ((w64 (p2 * p0_0)) + p1)) * p0_2)) + p0_2) : Int) ≤ (p0_3.length : Int) := hc2
  have hz6 : SlR (FE (I1 .i64)) 1 m (.slice a_p0_3 p0_3.length c_p0_3) p0_3 := h_p0_3
  refine WO_slice tbok (some (w64 ((w64 ((w64 (p2 * p0_0)) + p1)) * p0_2) : Int)) (some (w64 ((w64 ((w64 ((w64 (p2 * p0_0)) + p1)) * p0_2)) + p0_2) : Int)) none (w64 ((w64 ((w64 (p2 * p0_0)) + p1)) * p0_2) : Int).toNat (w64 ((w64 ((w64 ((w64 (p2 * p0_0)) + p1)) * p0_2)) + p0_2) : Int).toNat rfl rfl rfl rfl rfl rfl rfl rfl rfl rfl rfl hz6 (by simp only [Option.getD_some] <;> omega) (by simp only [Option.getD_some] <;> omega) (fun q hq => by cases hq) (by omega) (by omega) (fun hh => by cases hh) (fun a3 c4 h5 => ?_)
  refine WO_pure tbok 1 [(6, .slice a3 (((p0_3.take (w64 ((w64 ((w64 ((w64 (p2 * p0_0)) + p1)) * p0_2)) + p0_2) : Int).toNat).drop (w64 ((w64 ((w64 (p2 * p0_0)) + p1)) * p0_2) : Int).toNat).length) c4)] rfl ⟨rfl, trivial⟩ ?_
  refine WO_end ?_
  cases hm
  exact WK_ret (ret_out (L := []) (RLc_tmp rfl RLc_nil) (List.nil_sublist _) ⟨a3, (((p0_3.take (w64 ((w64 ((w64 ((w64 (p2 * p0_0)) + p1)) * p0_2)) + p0_2) : Int).toNat).drop (w64 ((w64 ((w64 (p2 * p0_0)) + p1)) * p0_2) : Int).toNat).length), c4, rfl, h5⟩)
theorem fiduciallaw45_jump_walk {m : Mu} {p0 : Int} {p1 : Int} {p2 : Int}   {r : Int} (hm : fiduciallaw45_jump p0 p1 p2 = some r) :
    Go.E.Spec Tryd.prog 25 [.int .i64 p0, .int .i64 p1, .int .i64 p2] m (fun v _ _ => v = .int .i64 r) := by
  refine Spec_enter Tryd.func25 rfl rfl rfl (fun w0 => ?_)
  refine WK.sub (e' := [(0, .int .i64 p0), (1, .int .i64 p1), (2, .int .i64 p2)]) ⟨rfl, rfl, rfl, trivial⟩ ?_
  refine WK.sub (e' := [(0, .int .i64 p0), (1, .int .i64 p1), (2, .int .i64 p2)]) ⟨rfl, rfl, rfl, trivial⟩ ?_
  unfold fiduciallaw45_jump at hm
  refine WK_seq ?_
  refine WK_region ?_
  refine WO_pure tbok 1 [(0, .int .i64 p0), (1, .int .i64 p1), (2, .int .i64 p2), (6, .int .i64 0)] rfl ⟨rfl, rfl, rfl, rfl, trivial⟩ ?_
  refine WO_end ?_
  refine WK_seq ?_
  refine WK_seq ?_
  refine WK_region ?_
  refine WO_pure tbok 1 [(1, .int .i64 p1), (2, .int .i64 p2), (6, .int .i64 0), (7, .int .i64 p0)] rfl ⟨rfl, rfl, rfl, rfl, trivial⟩ ?_
  refine WO_end ?_
  refine WK_block ?_
  refine WK_seq ?_
  refine WK_region ?_
  refine WO_pure tbok 2 [(1, .int .i64 p1), (2, .int .i64 p2), (6, .int .i64 0), (7, .int .i64 p0), (8, .bool (p0 == 0))] rfl ⟨rfl, rfl, rfl, rfl, rfl, trivial⟩ ?_
  refine WO_end ?_
  refine WK_cond (b := p0 == 0) rfl (fun hb1 => ?_) (fun hb1 => ?_)
  · have hm := ifT hb1 hm
    refine WK_seq ?_
    refine WK_region ?_
    refine WO_pure tbok 1 [(2, .int .i64 p2), (6, .int .i64 0)] rfl ⟨rfl, rfl, trivial⟩ ?_
    refine WO_end ?_
    cases hm
    exact WK_ret (ret_out (L := []) (RLc_tmp rfl RLc_nil) (List.nil_sublist _) rfl)
  · have hm := ifF hb1 hm
    refine WK_seq ?_
    refine WK_seq ?_
    refine WK_region ?_
    refine WO_pure tbok 2 [(1, .int .i64 p1), (2, .int .i64 p2), (6, .int .i64 0), (7, .int .i64 p0), (10, .bool (p0 == 1))] rfl ⟨rfl, rfl, rfl, rfl, rfl, trivial⟩ ?_
    refine WO_end ?_
    obtain ⟨s_1, hx2, hm⟩ := bind_some hm
    refine WK_meet [(1, .int .i64 p1), (2, .int .i64 p2), (6, .int .i64 0), (10, .bool s_1)] (St w0 m m []) ?_ (fun hk3 => ?_)
    · refine WK_cond (b := s_1) rfl (fun hb4 => ?_) (fun hb4 => ?_)
      · have hm := ifT hb4 hm
        refine WK_seq ?_
        refine WK_region ?_
        refine WO_pure tbok 2 [(2, .int .i64 p2), (6, .int .i64 p1)] rfl ⟨rfl, rfl, trivial⟩ ?_
        refine WO_end ?_
        cases hm
        exact WK_ret (ret_out (L := []) (RLc_tmp rfl RLc_nil) (List.nil_sublist _) rfl)
      · have hm := ifF hb4 hm
        refine WK_skip ?_
        refine WK_blk ?_
        refine WK_seq ?_
        refine WK_region ?_
        refine WO_pure tbok 2 [(6, .int .i64 p2)] rfl ⟨rfl, trivial⟩ ?_
        refine WO_end ?_
        cases hm
        exact WK_ret (ret_out (L := []) (RLc_tmp rfl RLc_nil) (List.nil_sublist _) rfl)
    · refine WK_cond (b := p0 == 1) rfl (fun hb5 => ?_) (fun hb5 => ?_)
      · have hx2 := ifT hb5 hx2
        refine WK_skip ?_
        cases hx2
        refine WK.sub ?_ (WK.cls (fun _ h => h) hk3)
        exact ⟨rfl, rfl, rfl, rfl, trivial⟩
      · have hx2 := ifF hb5 hx2
        refine WK_region ?_
        refine WO_pure tbok 2 [(1, .int .i64 p1), (2, .int .i64 p2), (6, .int .i64 0), (10, .bool (p0 == (-1)))] rfl ⟨rfl, rfl, rfl, rfl, trivial⟩ ?_
        refine WO_end ?_
        cases hx2
        refine WK.sub ?_ (WK.cls (fun _ h => h) hk3)
        exact ⟨rfl, rfl, rfl, rfl, trivial⟩
theorem fiduciallaw45_path_c1_walk : ∀ (N : Nat) {w0 : World} {m mc : Mu} {b_0 : Nat} {b_1 : Nat} {b_2 : Nat} {b_3 : Nat} {b_4 : Nat} {z0 : List Int} {a_z0 : Option Addr} {n_z0 c_z0 : Nat} {L_z0 : List Ent} {b_6 : Nat} {b_7 : Nat} {z1 : List Bool} {a_z1 : Option Addr} {n_z1 c_z1 : Nat} {L_z1 : List Ent} {b_9 : Nat} {b_10 : Nat} {q_0_0 : Int} {q_0_1 : Int} {q_0_2 : Int} {z2 : List Int} {a_z2 : Option Addr} {n_z2 c_z2 : Nat} {q_1_0 : Int} {q_2_0 : Int} {q_4_0 : Int} {q_4_1 : Int} {q_4_2 : Int} {q_6_0 : Int} {q_7_0 : Int} {p0 : Int} {p1 : Int} {r : List Int × List Bool} (hle0 : Le m mc) (h_z0 : OwnE 3 1 (I1 .i64) (.slice a_z0 n_z0 c_z0) z0 L_z0) (h_z1 : OwnE 4 1 B1 (.slice a_z1 n_z1 c_z1) z1 L_z1) (h_z2 : SlR (FE (I1 .i64)) 1 mc (.slice a_z2 n_z2 c_z2) z2) (hm : fiduciallaw45_path_c1 N q_0_0 q_0_1 q_0_2 q_1_0 q_2_0 q_4_0 q_4_1 q_4_2 q_6_0 q_7_0 z2 p0 p1 z0 z1 = some r),
    SpecS Tryd.prog 23 [.int .i64 p0, .int .i64 p1, .pointer (some ⟨b_9, 0, none⟩), .pointer (some ⟨b_0, 0, none⟩), .pointer (some ⟨b_4, 0, none⟩), .pointer (some ⟨b_6, 0, none⟩), .pointer (some ⟨b_7, 0, none⟩), .pointer (some ⟨b_10, 0, none⟩), .pointer (some ⟨b_1, 0, none⟩), .pointer (some ⟨b_2, 0, none⟩)] (St w0 m mc [[⟨b_0, 24, [.int .i64 q_0_0, .int .i64 q_0_1, .int .i64 q_0_2, .slice a_z2 n_z2 c_z2]⟩], [⟨b_1, 3, [.int .i64 q_1_0]⟩], [⟨b_2, 3, [.int .i64 q_2_0]⟩], [⟨b_3, 24, [.int .i64 0, .int .i64 0, .int .i64 0, .slice none 0 0]⟩], [⟨b_4, 24, [.int .i64 q_4_0, .int .i64 q_4_1, .int .i64 q_4_2, .slice a_z0 n_z0 c_z0]⟩], L_z0, [⟨b_6, 3, [.int .i64 q_6_0]⟩], [⟨b_7, 3, [.int .i64 q_7_0]⟩], L_z1, [⟨b_9, 48, [.slice a_z1 n_z1 c_z1]⟩], [⟨b_10, 49, [.func (.func 23) #[] #[.pointer (some ⟨b_9, 0, none⟩), .pointer (some ⟨b_0, 0, none⟩), .pointer (some ⟨b_4, 0, none⟩), .pointer (some ⟨b_6, 0, none⟩), .pointer (some ⟨b_7, 0, none⟩), .pointer (some ⟨b_10, 0, none⟩), .pointer (some ⟨b_1, 0, none⟩), .pointer (some ⟨b_2, 0, none⟩)]]⟩]]) (fun v w => ∃ g : List Ent × List Ent, v = .tuple #[] ∧ (OwnE 3 1 (I1 .i64) (.slice a_z0 n_z0 c_z0) r.1 g.1 ∧ OwnE 4 1 B1 (.slice a_z1 n_z1 c_z1) r.2 g.2) ∧ St w0 m mc [[⟨b_0, 24, [.int .i64 q_0_0, .int .i64 q_0_1, .int .i64 q_0_2, .slice a_z2 n_z2 c_z2]⟩], [⟨b_1, 3, [.int .i64 q_1_0]⟩], [⟨b_2, 3, [.int .i64 q_2_0]⟩], [⟨b_3, 24, [.int .i64 0, .int .i64 0, .int .i64 0, .slice none 0 0]⟩], [⟨b_4, 24, [.int .i64 q_4_0, .int .i64 q_4_1, .int .i64 q_4_2, .slice a_z0 n_z0 c_z0]⟩], g.1, [⟨b_6, 3, [.int .i64 q_6_0]⟩], [⟨b_7, 3, [.int .i64 q_7_0]⟩], g.2, [⟨b_9, 48, [.slice a_z1 n_z1 c_z1]⟩], [⟨b_10, 49, [.func (.func 23) #[] #[.pointer (some ⟨b_9, 0, none⟩), .pointer (some ⟨b_0, 0, none⟩), .pointer (some ⟨b_4, 0, none⟩), .pointer (some ⟨b_6, 0, none⟩), .pointer (some ⟨b_7, 0, none⟩), .pointer (some ⟨b_10, 0, none⟩), .pointer (some ⟨b_1, 0, none⟩), .pointer (some ⟨b_2, 0, none⟩)]]⟩]] w) := by
  intro N
  induction N with
  | zero =>
    intros
    rename_i hm
    unfold fiduciallaw45_path_c1 at hm
    cases hm
  | succ N ih =>
    intro w0 m mc b_0 b_1 b_2 b_3 b_4 z0 a_z0 n_z0 c_z0 L_z0 b_6 b_7 z1 a_z1 n_z1 c_z1 L_z1 b_9 b_10 q_0_0 q_0_1 q_0_2 z2 a_z2 n_z2 c_z2 q_1_0 q_2_0 q_4_0 q_4_1 q_4_2 q_6_0 q_7_0 p0 p1 r hle0 h_z0 h_z1 h_z2 hm
    refine SpecS_enter Tryd.func23 rfl rfl rfl ?_
    refine WK.sub (e' := [(0, .int .i64 p0), (1, .int .i64 p1), (2, .pointer (some ⟨b_9, 0, none⟩)), (3, .pointer (some ⟨b_0, 0, none⟩)), (4, .pointer (some ⟨b_4, 0, none⟩)), (5, .pointer (some ⟨b_6, 0, none⟩)), (6, .pointer (some ⟨b_7, 0, none⟩)), (7, .pointer (some ⟨b_10, 0, none⟩)), (8, .pointer (some ⟨b_1, 0, none⟩)), (9, .pointer (some ⟨b_2, 0, none⟩))]) ⟨rfl, rfl, rfl, rfl, rfl, rfl, rfl, rfl, rfl, rfl, trivial⟩ ?_
    obtain rfl := OwnE.qlen h_z0
    obtain rfl := OwnE.qlen h_z1
    obtain rfl := SlR.qlen h_z2
    refine WK.sub (e' := [(0, .int .i64 p0), (1, .int .i64 p1), (2, .pointer (some ⟨b_9, 0, none⟩)), (3, .pointer (some ⟨b_0, 0, none⟩)), (4, .pointer (some ⟨b_4, 0, none⟩)), (5, .pointer (some ⟨b_6, 0, none⟩)), (6, .pointer (some ⟨b_7, 0, none⟩)), (7, .pointer (some ⟨b_10, 0, none⟩)), (8, .pointer (some ⟨b_1, 0, none⟩)), (9, .pointer (some ⟨b_2, 0, none⟩))]) ⟨rfl, rfl, rfl, rfl, rfl, rfl, rfl, rfl, rfl, rfl, trivial⟩ (WK.cls (C' := St w0 m mc [[⟨b_0, 24, [.int .i64 q_0_0, .int .i64 q_0_1, .int .i64 q_0_2, .slice a_z2 z2.length c_z2]⟩], [⟨b_1, 3, [.int .i64 q_1_0]⟩], [⟨b_2, 3, [.int .i64 q_2_0]⟩], [⟨b_3, 24, [.int .i64 0, .int .i64 0, .int .i64 0, .slice none 0 0]⟩], [⟨b_4, 24, [.int .i64 q_4_0, .int .i64 q_4_1, .int .i64 q_4_2, .slice a_z0 z0.length c_z0]⟩], L_z0, [⟨b_6, 3, [.int .i64 q_6_0]⟩], [⟨b_7, 3, [.int .i64 q_7_0]⟩], L_z1, [⟨b_9, 48, [.slice a_z1 z1.length c_z1]⟩], [⟨b_10, 49, [.func (.func 23) #[] #[.pointer (some ⟨b_9, 0, none⟩), .pointer (some ⟨b_0, 0, none⟩), .pointer (some ⟨b_4, 0, none⟩), .pointer (some ⟨b_6, 0, none⟩), .pointer (some ⟨b_7, 0, none⟩), .pointer (some ⟨b_10, 0, none⟩), .pointer (some ⟨b_1, 0, none⟩), .pointer (some ⟨b_2, 0, none⟩)]]⟩]]) (fun _ h => h) ?_)
    unfold fiduciallaw45_path_c1 at hm
    refine WK_seq ?_
    refine WK_seq ?_
    refine WK_region ?_
    refine WO_loadB tbok 9 rfl rfl rfl rfl (fun _ h => h) rfl rfl ?_
    refine WO_pure tbok 2 [(0, .int .i64 p0), (1, .int .i64 p1), (2, .pointer (some ⟨b_9, 0, none⟩)), (3, .pointer (some ⟨b_0, 0, none⟩)), (4, .pointer (some ⟨b_4, 0, none⟩)), (5, .pointer (some ⟨b_6, 0, none⟩)), (6, .pointer (some ⟨b_7, 0, none⟩)), (7, .pointer (some ⟨b_10, 0, none⟩)), (8, .pointer (some ⟨b_1, 0, none⟩)), (9, .pointer (some ⟨b_2, 0, none⟩)), (20, .slice a_z1 z1.length c_z1), (21, .int .i64 p1), (22, .pointer (some ⟨b_0, 0, none⟩))] rfl ⟨rfl, rfl, rfl, rfl, rfl, rfl, rfl, rfl, rfl, rfl, rfl, rfl, rfl, trivial⟩ ?_
    refine WO_loadB tbok 0 rfl rfl rfl rfl (fun _ h => h) rfl rfl ?_
    refine WO_pure tbok 3 [(0, .int .i64 p0), (1, .int .i64 p1), (2, .pointer (some ⟨b_9, 0, none⟩)), (3, .pointer (some ⟨b_0, 0, none⟩)), (4, .pointer (some ⟨b_4, 0, none⟩)), (5, .pointer (some ⟨b_6, 0, none⟩)), (6, .pointer (some ⟨b_7, 0, none⟩)), (7, .pointer (some ⟨b_10, 0, none⟩)), (8, .pointer (some ⟨b_1, 0, none⟩)), (9, .pointer (some ⟨b_2, 0, none⟩)), (20, .slice a_z1 z1.length c_z1), (26, .int .i64 (w64 ((w64 (p1 * q_0_0)) + p0)))] rfl ⟨rfl, rfl, rfl, rfl, rfl, rfl, rfl, rfl, rfl, rfl, rfl, rfl, trivial⟩ ?_
    obtain ⟨v_1, hy1, hm⟩ := bind_some hm
    obtain ⟨hc2, hy1⟩ := ix_some hy1
    refine WO_index tbok rfl rfl rfl rfl rfl rfl rfl rfl (OwnE.addr h_z1) (by simpa using hc2) ?_
    refine WO_loadO (E := B1) tbok (fun _ => rfl) 8 rfl rfl rfl rfl (fun _ h => h) h_z1 rfl hy1 rfl ?_
    refine WO_end ?_
    refine WK_cond (b := v_1) rfl (fun hb3 => ?_) (fun hb3 => ?_)
    · have hm := ifT hb3 hm
      cases hm
      exact WK_retS RLc_nil (fun _ h => ⟨⟨L_z0, L_z1⟩, rfl, ⟨h_z0, h_z1⟩, h⟩)
    · have hm := ifF hb3 hm
      refine WK_skip ?_
      refine WK_seq ?_
      refine WK_region ?_
      refine WO_loadB tbok 9 rfl rfl rfl rfl (fun _ h => h) rfl rfl ?_
      refine WO_pure tbok 2 [(0, .int .i64 p0), (1, .int .i64 p1), (3, .pointer (some ⟨b_0, 0, none⟩)), (4, .pointer (some ⟨b_4, 0, none⟩)), (5, .pointer (some ⟨b_6, 0, none⟩)), (6, .pointer (some ⟨b_7, 0, none⟩)), (7, .pointer (some ⟨b_10, 0, none⟩)), (8, .pointer (some ⟨b_1, 0, none⟩)), (9, .pointer (some ⟨b_2, 0, none⟩)), (29, .slice a_z1 z1.length c_z1), (30, .int .i64 p1), (31, .pointer (some ⟨b_0, 0, none⟩))] rfl ⟨rfl, rfl, rfl, rfl, rfl, rfl, rfl, rfl, rfl, rfl, rfl, rfl, trivial⟩ ?_
      refine WO_loadB tbok 0 rfl rfl rfl rfl (fun _ h => h) rfl rfl ?_
      refine WO_pure tbok 3 [(0, .int .i64 p0), (1, .int .i64 p1), (3, .pointer (some ⟨b_0, 0, none⟩)), (4, .pointer (some ⟨b_4, 0, none⟩)), (5, .pointer (some ⟨b_6, 0, none⟩)), (6, .pointer (some ⟨b_7, 0, none⟩)), (7, .pointer (some ⟨b_10, 0, none⟩)), (8, .pointer (some ⟨b_1, 0, none⟩)), (9, .pointer (some ⟨b_2, 0, none⟩)), (29, .slice a_z1 z1.length c_z1), (35, .int .i64 (w64 ((w64 (p1 * q_0_0)) + p0)))] rfl ⟨rfl, rfl, rfl, rfl, rfl, rfl, rfl, rfl, rfl, rfl, rfl, trivial⟩ ?_
      obtain ⟨hc4, hm⟩ := chk_some hm
      refine WO_index tbok rfl rfl rfl rfl rfl rfl rfl rfl (OwnE.addr h_z1) (by simpa using hc4) ?_
      refine WO_storeO (E := B1) tbok (fun _ => rfl) 8 true rfl rfl rfl rfl rfl h_z1 rfl (by simpa using idx_lt hc4) rfl rfl rfl rfl (fun L5 hL5 => ?_)
      refine WO.cls (C' := St w0 m mc [[⟨b_0, 24, [.int .i64 q_0_0, .int .i64 q_0_1, .int .i64 q_0_2, .slice a_z2 z2.length c_z2]⟩], [⟨b_1, 3, [.int .i64 q_1_0]⟩], [⟨b_2, 3, [.int .i64 q_2_0]⟩], [⟨b_3, 24, [.int .i64 0, .int .i64 0, .int .i64 0, .slice none 0 0]⟩], [⟨b_4, 24, [.int .i64 q_4_0, .int .i64 q_4_1, .int .i64 q_4_2, .slice a_z0 z0.length c_z0]⟩], L_z0, [⟨b_6, 3, [.int .i64 q_6_0]⟩], [⟨b_7, 3, [.int .i64 q_7_0]⟩], L5, [⟨b_9, 48, [.slice a_z1 z1.length c_z1]⟩], [⟨b_10, 49, [.func (.func 23) #[] #[.pointer (some ⟨b_9, 0, none⟩), .pointer (some ⟨b_0, 0, none⟩), .pointer (some ⟨b_4, 0, none⟩), .pointer (some ⟨b_6, 0, none⟩), .pointer (some ⟨b_7, 0, none⟩), .pointer (some ⟨b_10, 0, none⟩), .pointer (some ⟨b_1, 0, none⟩), .pointer (some ⟨b_2, 0, none⟩)]]⟩]]) (fun _ h => h) ?_
      refine WO_end ?_
      refine WK_seq ?_
      refine WK_region ?_
      refine WO_loadB tbok 4 rfl rfl rfl rfl (fun _ h => h) rfl rfl ?_
      refine WO_pure tbok 2 [(0, .int .i64 p0), (1, .int .i64 p1), (3, .pointer (some ⟨b_0, 0, none⟩)), (4, .pointer (some ⟨b_4, 0, none⟩)), (5, .pointer (some ⟨b_6, 0, none⟩)), (6, .pointer (some ⟨b_7, 0, none⟩)), (7, .pointer (some ⟨b_10, 0, none⟩)), (8, .pointer (some ⟨b_1, 0, none⟩)), (9, .pointer (some ⟨b_2, 0, none⟩)), (37, .agg #[.int .i64 q_4_0, .int .i64 q_4_1, .int .i64 q_4_2, .slice a_z0 z0.length c_z0]), (38, .int .i64 p0), (39, .int .i64 p1)] rfl ⟨rfl, rfl, rfl, rfl, rfl, rfl, rfl, rfl, rfl, rfl, rfl, rfl, trivial⟩ ?_
      refine WO_inline rfl rfl rfl rfl rfl rfl callable_24 Tryd.func24 rfl rfl rfl ?_
      refine WK.sub (e' := [(0, .agg #[.int .i64 q_4_0, .int .i64 q_4_1, .int .i64 q_4_2, .slice a_z0 z0.length c_z0]), (1, .int .i64 p0), (2, .int .i64 p1)]) ⟨rfl, rfl, rfl, trivial⟩ ?_
      refine WK_seq ?_
      refine WK_region ?_
      refine WO_box [.int .i64 q_4_0, .int .i64 q_4_1, .int .i64 q_4_2, .slice a_z0 z0.length c_z0] rfl rfl trivial rfl rfl rfl (fun b6 => ?_)
      refine WO.cls (C' := St w0 m mc [[⟨b_0, 24, [.int .i64 q_0_0, .int .i64 q_0_1, .int .i64 q_0_2, .slice a_z2 z2.length c_z2]⟩], [⟨b_1, 3, [.int .i64 q_1_0]⟩], [⟨b_2, 3, [.int .i64 q_2_0]⟩], [⟨b_3, 24, [.int .i64 0, .int .i64 0, .int .i64 0, .slice none 0 0]⟩], [⟨b_4, 24, [.int .i64 q_4_0, .int .i64 q_4_1, .int .i64 q_4_2, .slice a_z0 z0.length c_z0]⟩], L_z0, [⟨b_6, 3, [.int .i64 q_6_0]⟩], [⟨b_7, 3, [.int .i64 q_7_0]⟩], L5, [⟨b_9, 48, [.slice a_z1 z1.length c_z1]⟩], [⟨b_10, 49, [.func (.func 23) #[] #[.pointer (some ⟨b_9, 0, none⟩), .pointer (some ⟨b_0, 0, none⟩), .pointer (some ⟨b_4, 0, none⟩), .pointer (some ⟨b_6, 0, none⟩), .pointer (some ⟨b_7, 0, none⟩), .pointer (some ⟨b_10, 0, none⟩), .pointer (some ⟨b_1, 0, none⟩), .pointer (some ⟨b_2, 0, none⟩)]]⟩], [⟨b6, 24, [.int .i64 q_4_0, .int .i64 q_4_1, .int .i64 q_4_2, .slice a_z0 z0.length c_z0]⟩]]) (fun _ h => h) ?_
      refine WO_pure tbok 1 [(1, .int .i64 p0), (2, .int .i64 p1), (3, .pointer (some ⟨b6, 0, none⟩)), (6, .slice none 0 0)] rfl ⟨rfl, rfl, rfl, rfl, trivial⟩ ?_
      refine WO_end ?_
      refine WK_seq ?_
      refine WK_region ?_
      refine WO_pure tbok 2 [(1, .int .i64 p0), (3, .pointer (some ⟨b6, 0, none⟩)), (6, .slice none 0 0), (8, .int .i64 p1), (9, .pointer (some ⟨b6, 0, none⟩))] rfl ⟨rfl, rfl, rfl, rfl, rfl, trivial⟩ ?_
      refine WO_loadB tbok 11 rfl rfl rfl rfl (fun _ h => h) rfl rfl ?_
      refine WO_pure tbok 4 [(3, .pointer (some ⟨b6, 0, none⟩)), (6, .slice none 0 0), (13, .int .i64 (w64 ((w64 (p1 * q_4_0)) + p0))), (14, .pointer (some ⟨b6, 2, none⟩))] rfl ⟨rfl, rfl, rfl, rfl, trivial⟩ ?_
      refine WO_loadB tbok 11 rfl rfl rfl rfl (fun _ h => h) rfl rfl ?_
      refine WO_pure tbok 2 [(3, .pointer (some ⟨b6, 0, none⟩)), (6, .slice none 0 0), (7, .int .i64 (w64 ((w64 ((w64 (p1 * q_4_0)) + p0)) * q_4_2)))] rfl ⟨rfl, rfl, rfl, trivial⟩ ?_
      refine WO_end ?_
      refine WK_seq ?_
      refine WK_region ?_
      refine WO_pure tbok 1 [(3, .pointer (some ⟨b6, 0, none⟩)), (6, .slice none 0 0), (7, .int .i64 (w64 ((w64 ((w64 (p1 * q_4_0)) + p0)) * q_4_2))), (17, .pointer (some ⟨b6, 3, none⟩))] rfl ⟨rfl, rfl, rfl, rfl, trivial⟩ ?_
      refine WO_loadB tbok 11 rfl rfl rfl rfl (fun _ h => h) rfl rfl ?_
      refine WO_pure tbok 3 [(6, .slice none 0 0), (18, .slice a_z0 z0.length c_z0), (19, .int .i64 (w64 ((w64 ((w64 (p1 * q_4_0)) + p0)) * q_4_2))), (20, .int .i64 (w64 ((w64 ((w64 (p1 * q_4_0)) + p0)) * q_4_2))), (21, .pointer (some ⟨b6, 2, none⟩))] rfl ⟨rfl, rfl, rfl, rfl, rfl, trivial⟩ ?_
      refine WO_loadB tbok 11 rfl rfl rfl rfl (fun _ h => h) rfl rfl ?_
      refine WO_pure tbok 1 [(6, .slice none 0 0), (18, .slice a_z0 z0.length c_z0), (19, .int .i64 (w64 ((w64 ((w64 (p1 * q_4_0)) + p0)) * q_4_2))), (23, .int .i64 (w64 ((w64 ((w64 ((w64 (p1 * q_4_0)) + p0)) * q_4_2)) + q_4_2)))] rfl ⟨rfl, rfl, rfl, rfl, trivial⟩ ?_
      obtain ⟨k_2, hk7, hm⟩ := bind_some hm
      have hk7 := natOf_some hk7
      obtain ⟨k_3, hk8, hm⟩ := bind_some hm
      have hk8 := natOf_some hk8
      obtain ⟨hc9, hm⟩ := chk_some hm
      have hc9 : 0 < k_3 ∧ (w64 ((w64 ((w64 ((w64 (p1 * q_4_0)) + p0)) * q_4_2)) + q_4_2) : Int) ≤ (z0.length : Int) := hc9
      have hz13 : OwnE 3 1 (I1 .i64) (.slice a_z0 z0.length c_z0) z0 L_z0 := h_z0
      refine WO_sliceW tbok (some (w64 ((w64 ((w64 (p1 * q_4_0)) + p0)) * q_4_2) : Int)) (some (w64 ((w64 ((w64 ((w64 (p1 * q_4_0)) + p0)) * q_4_2)) + q_4_2) : Int)) none k_2 k_3 rfl rfl rfl rfl rfl rfl rfl rfl rfl rfl rfl hz13 (by simp only [Option.getD_some] <;> omega) (by simp only [Option.getD_some] <;> omega) (fun q hq => by cases hq) (by omega) (by omega) (fun hh => by cases hh) (fun a10 c11 h12 => ?_)
      refine WO_pure tbok 1 [(6, .slice a10 k_3 c11)] rfl ⟨rfl, trivial⟩ ?_
      refine WO_end ?_
      refine WK_retI (RLc_tmp rfl RLc_nil) (fun _ _ => trivial) ?_
      refine WO.cls (C' := St w0 m mc [[⟨b_0, 24, [.int .i64 q_0_0, .int .i64 q_0_1, .int .i64 q_0_2, .slice a_z2 z2.length c_z2]⟩], [⟨b_1, 3, [.int .i64 q_1_0]⟩], [⟨b_2, 3, [.int .i64 q_2_0]⟩], [⟨b_3, 24, [.int .i64 0, .int .i64 0, .int .i64 0, .slice none 0 0]⟩], [⟨b_4, 24, [.int .i64 q_4_0, .int .i64 q_4_1, .int .i64 q_4_2, .slice a_z0 z0.length c_z0]⟩], L_z0, [⟨b_6, 3, [.int .i64 q_6_0]⟩], [⟨b_7, 3, [.int .i64 q_7_0]⟩], L5, [⟨b_9, 48, [.slice a_z1 z1.length c_z1]⟩], [⟨b_10, 49, [.func (.func 23) #[] #[.pointer (some ⟨b_9, 0, none⟩), .pointer (some ⟨b_0, 0, none⟩), .pointer (some ⟨b_4, 0, none⟩), .pointer (some ⟨b_6, 0, none⟩), .pointer (some ⟨b_7, 0, none⟩), .pointer (some ⟨b_10, 0, none⟩), .pointer (some ⟨b_1, 0, none⟩), .pointer (some ⟨b_2, 0, none⟩)]]⟩]]) (fun _ h => St.take 11 h) ?_
      refine WO_pure tbok 1 [(0, .int .i64 p0), (1, .int .i64 p1), (3, .pointer (some ⟨b_0, 0, none⟩)), (4, .pointer (some ⟨b_4, 0, none⟩)), (5, .pointer (some ⟨b_6, 0, none⟩)), (6, .pointer (some ⟨b_7, 0, none⟩)), (7, .pointer (some ⟨b_10, 0, none⟩)), (8, .pointer (some ⟨b_1, 0, none⟩)), (9, .pointer (some ⟨b_2, 0, none⟩)), (12, .slice a10 k_3 c11)] rfl ⟨rfl, rfl, rfl, rfl, rfl, rfl, rfl, rfl, rfl, rfl, trivial⟩ ?_
      refine WO_end ?_
      refine WK_seq ?_
      refine WK_region ?_
      refine WO_pure tbok 1 [(0, .int .i64 p0), (1, .int .i64 p1), (3, .pointer (some ⟨b_0, 0, none⟩)), (4, .pointer (some ⟨b_4, 0, none⟩)), (5, .pointer (some ⟨b_6, 0, none⟩)), (6, .pointer (some ⟨b_7, 0, none⟩)), (7, .pointer (some ⟨b_10, 0, none⟩)), (8, .pointer (some ⟨b_1, 0, none⟩)), (9, .pointer (some ⟨b_2, 0, none⟩)), (12, .slice a10 k_3 c11), (41, .slice a10 k_3 c11)] rfl ⟨rfl, rfl, rfl, rfl, rfl, rfl, rfl, rfl, rfl, rfl, rfl, trivial⟩ ?_
      refine WO_loadB tbok 0 rfl rfl rfl rfl (fun _ h => h) rfl rfl ?_
      refine WO_pure tbok 2 [(0, .int .i64 p0), (1, .int .i64 p1), (3, .pointer (some ⟨b_0, 0, none⟩)), (4, .pointer (some ⟨b_4, 0, none⟩)), (5, .pointer (some ⟨b_6, 0, none⟩)), (6, .pointer (some ⟨b_7, 0, none⟩)), (7, .pointer (some ⟨b_10, 0, none⟩)), (8, .pointer (some ⟨b_1, 0, none⟩)), (9, .pointer (some ⟨b_2, 0, none⟩)), (12, .slice a10 k_3 c11), (41, .slice a10 k_3 c11), (42, .agg #[.int .i64 q_0_0, .int .i64 q_0_1, .int .i64 q_0_2, .slice a_z2 z2.length c_z2]), (43, .int .i64 p0), (44, .int .i64 p1)] rfl ⟨rfl, rfl, rfl, rfl, rfl, rfl, rfl, rfl, rfl, rfl, rfl, rfl, rfl, rfl, trivial⟩ ?_
      obtain ⟨y_4, hc14, hm⟩ := bind_some hm
      refine WO_call2 (fiduciallaw45_at_Q y_4) rfl rfl trivial rfl rfl rfl rfl ⟨24, #[], #[], rfl, callable_24, fiduciallaw45_at_walk h_z2 hc14⟩ (fun v18 m19 L17 hle20 hq => ?_)
      obtain ⟨a15, qa15, c16, rfl, h21⟩ := hq
      obtain rfl := SlR.qlen h21
      refine WO.cls (C' := St w0 m m19 [[⟨b_0, 24, [.int .i64 q_0_0, .int .i64 q_0_1, .int .i64 q_0_2, .slice a_z2 z2.length c_z2]⟩], [⟨b_1, 3, [.int .i64 q_1_0]⟩], [⟨b_2, 3, [.int .i64 q_2_0]⟩], [⟨b_3, 24, [.int .i64 0, .int .i64 0, .int .i64 0, .slice none 0 0]⟩], [⟨b_4, 24, [.int .i64 q_4_0, .int .i64 q_4_1, .int .i64 q_4_2, .slice a_z0 z0.length c_z0]⟩], L_z0, [⟨b_6, 3, [.int .i64 q_6_0]⟩], [⟨b_7, 3, [.int .i64 q_7_0]⟩], L5, [⟨b_9, 48, [.slice a_z1 z1.length c_z1]⟩], [⟨b_10, 49, [.func (.func 23) #[] #[.pointer (some ⟨b_9, 0, none⟩), .pointer (some ⟨b_0, 0, none⟩), .pointer (some ⟨b_4, 0, none⟩), .pointer (some ⟨b_6, 0, none⟩), .pointer (some ⟨b_7, 0, none⟩), .pointer (some ⟨b_10, 0, none⟩), .pointer (some ⟨b_1, 0, none⟩), .pointer (some ⟨b_2, 0, none⟩)]]⟩], L17]) (fun _ h => h.sub (by simp)) ?_
      obtain ⟨hc22, hm⟩ := chk_some hm
      have hc22 : k_2 + k_3 ≤ z0.length := hc22
      have hz24 : OwnE 3 1 (I1 .i64) (.slice a_z0 z0.length c_z0) z0 L_z0 := h_z0
      refine WO_copy (E := (I1 .i64)) tbok (fun _ => rfl) (fun _ => rfl) 5 (k_2) y_4 (k_3) rfl rfl rfl rfl rfl rfl rfl rfl rfl rfl hz24 rfl rfl hc22 (Vw.dst h12) (fun w hw => ⟨_, hw.sat, h21⟩) (fun L23 hL23 => ?_)
      refine WO.cls (C' := St w0 m m19 [[⟨b_0, 24, [.int .i64 q_0_0, .int .i64 q_0_1, .int .i64 q_0_2, .slice a_z2 z2.length c_z2]⟩], [⟨b_1, 3, [.int .i64 q_1_0]⟩], [⟨b_2, 3, [.int .i64 q_2_0]⟩], [⟨b_3, 24, [.int .i64 0, .int .i64 0, .int .i64 0, .slice none 0 0]⟩], [⟨b_4, 24, [.int .i64 q_4_0, .int .i64 q_4_1, .int .i64 q_4_2, .slice a_z0 z0.length c_z0]⟩], L23, [⟨b_6, 3, [.int .i64 q_6_0]⟩], [⟨b_7, 3, [.int .i64 q_7_0]⟩], L5, [⟨b_9, 48, [.slice a_z1 z1.length c_z1]⟩], [⟨b_10, 49, [.func (.func 23) #[] #[.pointer (some ⟨b_9, 0, none⟩), .pointer (some ⟨b_0, 0, none⟩), .pointer (some ⟨b_4, 0, none⟩), .pointer (some ⟨b_6, 0, none⟩), .pointer (some ⟨b_7, 0, none⟩), .pointer (some ⟨b_10, 0, none⟩), .pointer (some ⟨b_1, 0, none⟩), .pointer (some ⟨b_2, 0, none⟩)]]⟩], L17]) (fun _ h => h) ?_
      refine WO_end ?_
      refine WK_seq ?_
      refine WK_draw 8 [0, 1, 2, 3, 4, 5, 6, 7] follows_ok (by kernel_rfl) St_closed ?_
      refine WO_pure tbok 1 [(1, .int .i64 p1), (3, .pointer (some ⟨b_0, 0, none⟩)), (4, .pointer (some ⟨b_4, 0, none⟩)), (5, .pointer (some ⟨b_6, 0, none⟩)), (6, .pointer (some ⟨b_7, 0, none⟩)), (7, .pointer (some ⟨b_10, 0, none⟩)), (8, .pointer (some ⟨b_1, 0, none⟩)), (9, .pointer (some ⟨b_2, 0, none⟩)), (12, .slice a10 k_3 c11), (47, .int .i64 p0)] rfl ⟨rfl, rfl, rfl, rfl, rfl, rfl, rfl, rfl, rfl, rfl, trivial⟩ ?_
      refine WO_loadB tbok 6 rfl rfl rfl rfl (fun _ h => h) rfl rfl ?_
      refine WO_pure tbok 2 [(3, .pointer (some ⟨b_0, 0, none⟩)), (4, .pointer (some ⟨b_4, 0, none⟩)), (6, .pointer (some ⟨b_7, 0, none⟩)), (7, .pointer (some ⟨b_10, 0, none⟩)), (8, .pointer (some ⟨b_1, 0, none⟩)), (9, .pointer (some ⟨b_2, 0, none⟩)), (12, .slice a10 k_3 c11), (49, .int .i64 (w64 (p0 - q_6_0))), (50, .int .i64 p1)] rfl ⟨rfl, rfl, rfl, rfl, rfl, rfl, rfl, rfl, rfl, trivial⟩ ?_
      refine WO_loadB tbok 7 rfl rfl rfl rfl (fun _ h => h) rfl rfl ?_
      refine WO_pure tbok 3 [(3, .pointer (some ⟨b_0, 0, none⟩)), (4, .pointer (some ⟨b_4, 0, none⟩)), (7, .pointer (some ⟨b_10, 0, none⟩)), (8, .pointer (some ⟨b_1, 0, none⟩)), (9, .pointer (some ⟨b_2, 0, none⟩)), (12, .slice a10 k_3 c11), (13, .int .i64 (w64 (p0 - q_6_0))), (14, .int .i64 (w64 (p1 - q_7_0)))] rfl ⟨rfl, rfl, rfl, rfl, rfl, rfl, rfl, rfl, trivial⟩ ?_
      refine WO_tail ?_
      refine WO_end ?_
      refine WK_seq ?_
      refine WK_seq ?_
      obtain ⟨s_5, hx25, hm⟩ := bind_some hm
      refine WK_meet [(4, .pointer (some ⟨b_4, 0, none⟩)), (7, .pointer (some ⟨b_10, 0, none⟩)), (8, .pointer (some ⟨b_1, 0, none⟩)), (9, .pointer (some ⟨b_2, 0, none⟩)), (12, .slice a10 k_3 c11), (13, .int .i64 (w64 (p0 - q_6_0))), (14, .int .i64 (w64 (p1 - q_7_0))), (70, .bool s_5)] (St w0 m m19 [[⟨b_0, 24, [.int .i64 q_0_0, .int .i64 q_0_1, .int .i64 q_0_2, .slice a_z2 z2.length c_z2]⟩], [⟨b_1, 3, [.int .i64 q_1_0]⟩], [⟨b_2, 3, [.int .i64 q_2_0]⟩], [⟨b_3, 24, [.int .i64 0, .int .i64 0, .int .i64 0, .slice none 0 0]⟩], [⟨b_4, 24, [.int .i64 q_4_0, .int .i64 q_4_1, .int .i64 q_4_2, .slice a_z0 z0.length c_z0]⟩], L23, [⟨b_6, 3, [.int .i64 q_6_0]⟩], [⟨b_7, 3, [.int .i64 q_7_0]⟩], L5, [⟨b_9, 48, [.slice a_z1 z1.length c_z1]⟩], [⟨b_10, 49, [.func (.func 23) #[] #[.pointer (some ⟨b_9, 0, none⟩), .pointer (some ⟨b_0, 0, none⟩), .pointer (some ⟨b_4, 0, none⟩), .pointer (some ⟨b_6, 0, none⟩), .pointer (some ⟨b_7, 0, none⟩), .pointer (some ⟨b_10, 0, none⟩), .pointer (some ⟨b_1, 0, none⟩), .pointer (some ⟨b_2, 0, none⟩)]]⟩], L17]) ?_ (fun hk26 => ?_)
      · refine WK_cond (b := s_5) rfl (fun hb27 => ?_) (fun hb27 => ?_)
        · have hm := ifT hb27 hm
          cases hm
          exact WK_retS RLc_nil (fun _ h => ⟨⟨L23, L5⟩, rfl, ⟨hL23, hL5⟩, St.back (Ls := [[⟨b_0, 24, [.int .i64 q_0_0, .int .i64 q_0_1, .int .i64 q_0_2, .slice a_z2 z2.length c_z2]⟩], [⟨b_1, 3, [.int .i64 q_1_0]⟩], [⟨b_2, 3, [.int .i64 q_2_0]⟩], [⟨b_3, 24, [.int .i64 0, .int .i64 0, .int .i64 0, .slice none 0 0]⟩], [⟨b_4, 24, [.int .i64 q_4_0, .int .i64 q_4_1, .int .i64 q_4_2, .slice a_z0 z0.length c_z0]⟩], L23, [⟨b_6, 3, [.int .i64 q_6_0]⟩], [⟨b_7, 3, [.int .i64 q_7_0]⟩], L5, [⟨b_9, 48, [.slice a_z1 z1.length c_z1]⟩], [⟨b_10, 49, [.func (.func 23) #[] #[.pointer (some ⟨b_9, 0, none⟩), .pointer (some ⟨b_0, 0, none⟩), .pointer (some ⟨b_4, 0, none⟩), .pointer (some ⟨b_6, 0, none⟩), .pointer (some ⟨b_7, 0, none⟩), .pointer (some ⟨b_10, 0, none⟩), .pointer (some ⟨b_1, 0, none⟩), .pointer (some ⟨b_2, 0, none⟩)]]⟩]]) (X := [L17]) h hle20 hle0⟩)
        · have hm := ifF hb27 hm
          refine WK_skip ?_
          refine WK_seq ?_
          refine WK_region ?_
          refine WO_loadB tbok 10 rfl rfl rfl rfl (fun _ h => h) rfl rfl ?_
          refine WO_pure tbok 2 [(4, .pointer (some ⟨b_4, 0, none⟩)), (8, .pointer (some ⟨b_1, 0, none⟩)), (9, .pointer (some ⟨b_2, 0, none⟩)), (12, .slice a10 k_3 c11), (13, .int .i64 (w64 (p0 - q_6_0))), (14, .int .i64 (w64 (p1 - q_7_0))), (71, .func (.func 23) #[] #[.pointer (some ⟨b_9, 0, none⟩), .pointer (some ⟨b_0, 0, none⟩), .pointer (some ⟨b_4, 0, none⟩), .pointer (some ⟨b_6, 0, none⟩), .pointer (some ⟨b_7, 0, none⟩), .pointer (some ⟨b_10, 0, none⟩), .pointer (some ⟨b_1, 0, none⟩), .pointer (some ⟨b_2, 0, none⟩)]), (72, .int .i64 (w64 (p0 - q_6_0))), (73, .int .i64 (w64 (p1 - q_7_0)))] rfl ⟨rfl, rfl, rfl, rfl, rfl, rfl, rfl, rfl, rfl, trivial⟩ ?_
          refine WO.cls (C' := St w0 m m19 [[⟨b_0, 24, [.int .i64 q_0_0, .int .i64 q_0_1, .int .i64 q_0_2, .slice a_z2 z2.length c_z2]⟩], [⟨b_1, 3, [.int .i64 q_1_0]⟩], [⟨b_2, 3, [.int .i64 q_2_0]⟩], [⟨b_3, 24, [.int .i64 0, .int .i64 0, .int .i64 0, .slice none 0 0]⟩], [⟨b_4, 24, [.int .i64 q_4_0, .int .i64 q_4_1, .int .i64 q_4_2, .slice a_z0 z0.length c_z0]⟩], L23, [⟨b_6, 3, [.int .i64 q_6_0]⟩], [⟨b_7, 3, [.int .i64 q_7_0]⟩], L5, [⟨b_9, 48, [.slice a_z1 z1.length c_z1]⟩], [⟨b_10, 49, [.func (.func 23) #[] #[.pointer (some ⟨b_9, 0, none⟩), .pointer (some ⟨b_0, 0, none⟩), .pointer (some ⟨b_4, 0, none⟩), .pointer (some ⟨b_6, 0, none⟩), .pointer (some ⟨b_7, 0, none⟩), .pointer (some ⟨b_10, 0, none⟩), .pointer (some ⟨b_1, 0, none⟩), .pointer (some ⟨b_2, 0, none⟩)]]⟩]]) (fun _ h => St.take 11 h) ?_
          obtain ⟨⟨y_6, y_7⟩, hc28, hm⟩ := bind_some hm
          refine WO_callS (G := List Ent × List Ent) (fun _ => .tuple #[]) (fun g => OwnE 3 1 (I1 .i64) (.slice a_z0 z0.length c_z0) y_6 g.1 ∧ OwnE 4 1 B1 (.slice a_z1 z1.length c_z1) y_7 g.2) (fun g => St w0 m m19 [[⟨b_0, 24, [.int .i64 q_0_0, .int .i64 q_0_1, .int .i64 q_0_2, .slice a_z2 z2.length c_z2]⟩], [⟨b_1, 3, [.int .i64 q_1_0]⟩], [⟨b_2, 3, [.int .i64 q_2_0]⟩], [⟨b_3, 24, [.int .i64 0, .int .i64 0, .int .i64 0, .slice none 0 0]⟩], [⟨b_4, 24, [.int .i64 q_4_0, .int .i64 q_4_1, .int .i64 q_4_2, .slice a_z0 z0.length c_z0]⟩], g.1, [⟨b_6, 3, [.int .i64 q_6_0]⟩], [⟨b_7, 3, [.int .i64 q_7_0]⟩], g.2, [⟨b_9, 48, [.slice a_z1 z1.length c_z1]⟩], [⟨b_10, 49, [.func (.func 23) #[] #[.pointer (some ⟨b_9, 0, none⟩), .pointer (some ⟨b_0, 0, none⟩), .pointer (some ⟨b_4, 0, none⟩), .pointer (some ⟨b_6, 0, none⟩), .pointer (some ⟨b_7, 0, none⟩), .pointer (some ⟨b_10, 0, none⟩), .pointer (some ⟨b_1, 0, none⟩), .pointer (some ⟨b_2, 0, none⟩)]]⟩]]) rfl rfl rfl rfl rfl rfl callable_23 (ih (hle0.trans hle20) hL23 hL5 (h_z2.mono (mono_FE _) hle20) hc28) ?_
          rintro ⟨L29, L30⟩ ⟨hL29, hL30⟩
          refine WO.cls (C' := St w0 m m19 [[⟨b_0, 24, [.int .i64 q_0_0, .int .i64 q_0_1, .int .i64 q_0_2, .slice a_z2 z2.length c_z2]⟩], [⟨b_1, 3, [.int .i64 q_1_0]⟩], [⟨b_2, 3, [.int .i64 q_2_0]⟩], [⟨b_3, 24, [.int .i64 0, .int .i64 0, .int .i64 0, .slice none 0 0]⟩], [⟨b_4, 24, [.int .i64 q_4_0, .int .i64 q_4_1, .int .i64 q_4_2, .slice a_z0 z0.length c_z0]⟩], L29, [⟨b_6, 3, [.int .i64 q_6_0]⟩], [⟨b_7, 3, [.int .i64 q_7_0]⟩], L30, [⟨b_9, 48, [.slice a_z1 z1.length c_z1]⟩], [⟨b_10, 49, [.func (.func 23) #[] #[.pointer (some ⟨b_9, 0, none⟩), .pointer (some ⟨b_0, 0, none⟩), .pointer (some ⟨b_4, 0, none⟩), .pointer (some ⟨b_6, 0, none⟩), .pointer (some ⟨b_7, 0, none⟩), .pointer (some ⟨b_10, 0, none⟩), .pointer (some ⟨b_1, 0, none⟩), .pointer (some ⟨b_2, 0, none⟩)]]⟩]]) (fun _ h => h) ?_
          refine WO_end ?_
          refine WK_seq ?_
          refine WK_region ?_
          refine WO_loadB tbok 4 rfl rfl rfl rfl (fun _ h => h) rfl rfl ?_
          refine WO_pure tbok 2 [(8, .pointer (some ⟨b_1, 0, none⟩)), (9, .pointer (some ⟨b_2, 0, none⟩)), (12, .slice a10 k_3 c11), (75, .agg #[.int .i64 q_4_0, .int .i64 q_4_1, .int .i64 q_4_2, .slice a_z0 z0.length c_z0]), (76, .int .i64 (w64 (p0 - q_6_0))), (77, .int .i64 (w64 (p1 - q_7_0)))] rfl ⟨rfl, rfl, rfl, rfl, rfl, rfl, trivial⟩ ?_
          refine WO_inline rfl rfl rfl rfl rfl rfl callable_24 Tryd.func24 rfl rfl rfl ?_
          refine WK.sub (e' := [(0, .agg #[.int .i64 q_4_0, .int .i64 q_4_1, .int .i64 q_4_2, .slice a_z0 z0.length c_z0]), (1, .int .i64 (w64 (p0 - q_6_0))), (2, .int .i64 (w64 (p1 - q_7_0)))]) ⟨rfl, rfl, rfl, trivial⟩ ?_
          refine WK_seq ?_
          refine WK_region ?_
          refine WO_box [.int .i64 q_4_0, .int .i64 q_4_1, .int .i64 q_4_2, .slice a_z0 z0.length c_z0] rfl rfl trivial rfl rfl rfl (fun b31 => ?_)
          refine WO.cls (C' := St w0 m m19 [[⟨b_0, 24, [.int .i64 q_0_0, .int .i64 q_0_1, .int .i64 q_0_2, .slice a_z2 z2.length c_z2]⟩], [⟨b_1, 3, [.int .i64 q_1_0]⟩], [⟨b_2, 3, [.int .i64 q_2_0]⟩], [⟨b_3, 24, [.int .i64 0, .int .i64 0, .int .i64 0, .slice none 0 0]⟩], [⟨b_4, 24, [.int .i64 q_4_0, .int .i64 q_4_1, .int .i64 q_4_2, .slice a_z0 z0.length c_z0]⟩], L29, [⟨b_6, 3, [.int .i64 q_6_0]⟩], [⟨b_7, 3, [.int .i64 q_7_0]⟩], L30, [⟨b_9, 48, [.slice a_z1 z1.length c_z1]⟩], [⟨b_10, 49, [.func (.func 23) #[] #[.pointer (some ⟨b_9, 0, none⟩), .pointer (some ⟨b_0, 0, none⟩), .pointer (some ⟨b_4, 0, none⟩), .pointer (some ⟨b_6, 0, none⟩), .pointer (some ⟨b_7, 0, none⟩), .pointer (some ⟨b_10, 0, none⟩), .pointer (some ⟨b_1, 0, none⟩), .pointer (some ⟨b_2, 0, none⟩)]]⟩], [⟨b31, 24, [.int .i64 q_4_0, .int .i64 q_4_1, .int .i64 q_4_2, .slice a_z0 z0.length c_z0]⟩]]) (fun _ h => h) ?_
          refine WO_pure tbok 1 [(1, .int .i64 (w64 (p0 - q_6_0))), (2, .int .i64 (w64 (p1 - q_7_0))), (3, .pointer (some ⟨b31, 0, none⟩)), (6, .slice none 0 0)] rfl ⟨rfl, rfl, rfl, rfl, trivial⟩ ?_
          refine WO_end ?_
          refine WK_seq ?_
          refine WK_region ?_
          refine WO_pure tbok 2 [(1, .int .i64 (w64 (p0 - q_6_0))), (3, .pointer (some ⟨b31, 0, none⟩)), (6, .slice none 0 0), (8, .int .i64 (w64 (p1 - q_7_0))), (9, .pointer (some ⟨b31, 0, none⟩))] rfl ⟨rfl, rfl, rfl, rfl, rfl, trivial⟩ ?_
          refine WO_loadB tbok 11 rfl rfl rfl rfl (fun _ h => h) rfl rfl ?_
          refine WO_pure tbok 4 [(3, .pointer (some ⟨b31, 0, none⟩)), (6, .slice none 0 0), (13, .int .i64 (w64 ((w64 ((w64 (p1 - q_7_0)) * q_4_0)) + (w64 (p0 - q_6_0))))), (14, .pointer (some ⟨b31, 2, none⟩))] rfl ⟨rfl, rfl, rfl, rfl, trivial⟩ ?_
          refine WO_loadB tbok 11 rfl rfl rfl rfl (fun _ h => h) rfl rfl ?_
          refine WO_pure tbok 2 [(3, .pointer (some ⟨b31, 0, none⟩)), (6, .slice none 0 0), (7, .int .i64 (w64 ((w64 ((w64 ((w64 (p1 - q_7_0)) * q_4_0)) + (w64 (p0 - q_6_0)))) * q_4_2)))] rfl ⟨rfl, rfl, rfl, trivial⟩ ?_
          refine WO_end ?_
          refine WK_seq ?_
          refine WK_region ?_
          refine WO_pure tbok 1 [(3, .pointer (some ⟨b31, 0, none⟩)), (6, .slice none 0 0), (7, .int .i64 (w64 ((w64 ((w64 ((w64 (p1 - q_7_0)) * q_4_0)) + (w64 (p0 - q_6_0)))) * q_4_2))), (17, .pointer (some ⟨b31, 3, none⟩))] rfl ⟨rfl, rfl, rfl, rfl, trivial⟩ ?_
          refine WO_loadB tbok 11 rfl rfl rfl rfl (fun _ h => h) rfl rfl ?_
          refine WO_pure tbok 3 [(6, .slice none 0 0), (18, .slice a_z0 z0.length c_z0), (19, .int .i64 (w64 ((w64 ((w64 ((w64 (p1 - q_7_0)) * q_4_0)) + (w64 (p0 - q_6_0)))) * q_4_2))), (20, .int .i64 (w64 ((w64 ((w64 ((w64 (p1 - q_7_0)) * q_4_0)) + (w64 (p0 - q_6_0)))) * q_4_2))), (21, .pointer (some ⟨b31, 2, none⟩))] rfl ⟨rfl, rfl, rfl, rfl, rfl, trivial⟩ ?_
          refine WO_loadB tbok 11 rfl rfl rfl rfl (fun _ h => h) rfl rfl ?_
          refine WO_pure tbok 1 [(6, .slice none 0 0), (18, .slice a_z0 z0.length c_z0), (19, .int .i64 (w64 ((w64 ((w64 ((w64 (p1 - q_7_0)) * q_4_0)) + (w64 (p0 - q_6_0)))) * q_4_2))), (23, .int .i64 (w64 ((w64 ((w64 ((w64 ((w64 (p1 - q_7_0)) * q_4_0)) + (w64 (p0 - q_6_0)))) * q_4_2)) + q_4_2)))] rfl ⟨rfl, rfl, rfl, rfl, trivial⟩ ?_
          obtain ⟨k_8, hk32, hm⟩ := bind_some hm
          have hk32 := natOf_some hk32
          obtain ⟨k_9, hk33, hm⟩ := bind_some hm
          have hk33 := natOf_some hk33
          obtain ⟨hc34, hm⟩ := chk_some hm
          have hc34 : 0 < k_9 ∧ (w64 ((w64 ((w64 ((w64 ((w64 (p1 - q_7_0)) * q_4_0)) + (w64 (p0 - q_6_0)))) * q_4_2)) + q_4_2) : Int) ≤ (y_6.length : Int) := hc34
          have hz38 : OwnE 3 1 (I1 .i64) (.slice a_z0 z0.length c_z0) y_6 L29 := hL29
          refine WO_sliceW tbok (some (w64 ((w64 ((w64 ((w64 (p1 - q_7_0)) * q_4_0)) + (w64 (p0 - q_6_0)))) * q_4_2) : Int)) (some (w64 ((w64 ((w64 ((w64 ((w64 (p1 - q_7_0)) * q_4_0)) + (w64 (p0 - q_6_0)))) * q_4_2)) + q_4_2) : Int)) none k_8 k_9 rfl rfl rfl rfl rfl rfl rfl rfl rfl rfl rfl hz38 (by simp only [Option.getD_some] <;> omega) (by simp only [Option.getD_some] <;> omega) (fun q hq => by cases hq) (by omega) (by omega) (fun hh => by cases hh) (fun a35 c36 h37 => ?_)
          refine WO_pure tbok 1 [(6, .slice a35 k_9 c36)] rfl ⟨rfl, trivial⟩ ?_
          refine WO_end ?_
          refine WK_retI (RLc_tmp rfl RLc_nil) (fun _ _ => trivial) ?_
          refine WO.cls (C' := St w0 m m19 [[⟨b_0, 24, [.int .i64 q_0_0, .int .i64 q_0_1, .int .i64 q_0_2, .slice a_z2 z2.length c_z2]⟩], [⟨b_1, 3, [.int .i64 q_1_0]⟩], [⟨b_2, 3, [.int .i64 q_2_0]⟩], [⟨b_3, 24, [.int .i64 0, .int .i64 0, .int .i64 0, .slice none 0 0]⟩], [⟨b_4, 24, [.int .i64 q_4_0, .int .i64 q_4_1, .int .i64 q_4_2, .slice a_z0 z0.length c_z0]⟩], L29, [⟨b_6, 3, [.int .i64 q_6_0]⟩], [⟨b_7, 3, [.int .i64 q_7_0]⟩], L30, [⟨b_9, 48, [.slice a_z1 z1.length c_z1]⟩], [⟨b_10, 49, [.func (.func 23) #[] #[.pointer (some ⟨b_9, 0, none⟩), .pointer (some ⟨b_0, 0, none⟩), .pointer (some ⟨b_4, 0, none⟩), .pointer (some ⟨b_6, 0, none⟩), .pointer (some ⟨b_7, 0, none⟩), .pointer (some ⟨b_10, 0, none⟩), .pointer (some ⟨b_1, 0, none⟩), .pointer (some ⟨b_2, 0, none⟩)]]⟩]]) (fun _ h => St.take 11 h) ?_
          refine WO_pure tbok 1 [(8, .pointer (some ⟨b_1, 0, none⟩)), (9, .pointer (some ⟨b_2, 0, none⟩)), (12, .slice a10 k_3 c11), (15, .slice a35 k_9 c36)] rfl ⟨rfl, rfl, rfl, rfl, trivial⟩ ?_
          refine WO_end ?_
          refine WK_seq ?_
          refine WK_region ?_
          refine WO_pure tbok 3 [(8, .pointer (some ⟨b_1, 0, none⟩)), (9, .pointer (some ⟨b_2, 0, none⟩)), (12, .slice a10 k_3 c11), (15, .slice a35 k_9 c36), (80, .int .i64 ((k_3 : Nat) : Int)), (81, .int .i64 0)] rfl ⟨rfl, rfl, rfl, rfl, rfl, rfl, trivial⟩ ?_
          refine WO_end ?_
          obtain ⟨x41, hx42, hm⟩ := bind_some hm
          refine WK_join (β := (List Int) × (List Ent)) (fun p => p.1 = x41 ∧ OwnE 3 1 (I1 .i64) (.slice a_z0 z0.length c_z0) p.1 p.2) (fun p => []) (fun p => St w0 m m19 [[⟨b_0, 24, [.int .i64 q_0_0, .int .i64 q_0_1, .int .i64 q_0_2, .slice a_z2 z2.length c_z2]⟩], [⟨b_1, 3, [.int .i64 q_1_0]⟩], [⟨b_2, 3, [.int .i64 q_2_0]⟩], [⟨b_3, 24, [.int .i64 0, .int .i64 0, .int .i64 0, .slice none 0 0]⟩], [⟨b_4, 24, [.int .i64 q_4_0, .int .i64 q_4_1, .int .i64 q_4_2, .slice a_z0 z0.length c_z0]⟩], p.2, [⟨b_6, 3, [.int .i64 q_6_0]⟩], [⟨b_7, 3, [.int .i64 q_7_0]⟩], L30, [⟨b_9, 48, [.slice a_z1 z1.length c_z1]⟩], [⟨b_10, 49, [.func (.func 23) #[] #[.pointer (some ⟨b_9, 0, none⟩), .pointer (some ⟨b_0, 0, none⟩), .pointer (some ⟨b_4, 0, none⟩), .pointer (some ⟨b_6, 0, none⟩), .pointer (some ⟨b_7, 0, none⟩), .pointer (some ⟨b_10, 0, none⟩), .pointer (some ⟨b_1, 0, none⟩), .pointer (some ⟨b_2, 0, none⟩)]]⟩]]) ?_ (fun hk43 => ?_)
          · rintro ⟨l_12, L40⟩ ⟨hq49, hL40⟩
            subst hq49
            refine WK.sub (e' := []) trivial (WK.cls (C' := St w0 m m19 [[⟨b_0, 24, [.int .i64 q_0_0, .int .i64 q_0_1, .int .i64 q_0_2, .slice a_z2 z2.length c_z2]⟩], [⟨b_1, 3, [.int .i64 q_1_0]⟩], [⟨b_2, 3, [.int .i64 q_2_0]⟩], [⟨b_3, 24, [.int .i64 0, .int .i64 0, .int .i64 0, .slice none 0 0]⟩], [⟨b_4, 24, [.int .i64 q_4_0, .int .i64 q_4_1, .int .i64 q_4_2, .slice a_z0 z0.length c_z0]⟩], L40, [⟨b_6, 3, [.int .i64 q_6_0]⟩], [⟨b_7, 3, [.int .i64 q_7_0]⟩], L30, [⟨b_9, 48, [.slice a_z1 z1.length c_z1]⟩], [⟨b_10, 49, [.func (.func 23) #[] #[.pointer (some ⟨b_9, 0, none⟩), .pointer (some ⟨b_0, 0, none⟩), .pointer (some ⟨b_4, 0, none⟩), .pointer (some ⟨b_6, 0, none⟩), .pointer (some ⟨b_7, 0, none⟩), .pointer (some ⟨b_10, 0, none⟩), .pointer (some ⟨b_1, 0, none⟩), .pointer (some ⟨b_2, 0, none⟩)]]⟩]]) (fun _ h => h) ?_)
            cases hm
            exact WK_nilS RLc_nil (fun _ h => ⟨⟨L40, L30⟩, rfl, ⟨hL40, hL30⟩, St.back (Ls := [[⟨b_0, 24, [.int .i64 q_0_0, .int .i64 q_0_1, .int .i64 q_0_2, .slice a_z2 z2.length c_z2]⟩], [⟨b_1, 3, [.int .i64 q_1_0]⟩], [⟨b_2, 3, [.int .i64 q_2_0]⟩], [⟨b_3, 24, [.int .i64 0, .int .i64 0, .int .i64 0, .slice none 0 0]⟩], [⟨b_4, 24, [.int .i64 q_4_0, .int .i64 q_4_1, .int .i64 q_4_2, .slice a_z0 z0.length c_z0]⟩], L40, [⟨b_6, 3, [.int .i64 q_6_0]⟩], [⟨b_7, 3, [.int .i64 q_7_0]⟩], L30, [⟨b_9, 48, [.slice a_z1 z1.length c_z1]⟩], [⟨b_10, 49, [.func (.func 23) #[] #[.pointer (some ⟨b_9, 0, none⟩), .pointer (some ⟨b_0, 0, none⟩), .pointer (some ⟨b_4, 0, none⟩), .pointer (some ⟨b_6, 0, none⟩), .pointer (some ⟨b_7, 0, none⟩), .pointer (some ⟨b_10, 0, none⟩), .pointer (some ⟨b_1, 0, none⟩), .pointer (some ⟨b_2, 0, none⟩)]]⟩]]) (X := []) h hle20 hle0⟩)
          · refine WK_block ?_
            refine WK_loop (S := List Int × Int) (G := List Ent) (fun s => fiduciallaw45_path_c1_s1 q_1_0 q_2_0 k_2 k_3 k_8 k_9 s.1 s.2) (fun s g => [(8, .pointer (some ⟨b_1, 0, none⟩)), (9, .pointer (some ⟨b_2, 0, none⟩)), (12, .slice a10 k_3 c11), (15, .slice a35 k_9 c36), (80, .int .i64 ((k_3 : Nat) : Int)), (81, .int .i64 s.2)]) (fun s g => St w0 m m19 [[⟨b_0, 24, [.int .i64 q_0_0, .int .i64 q_0_1, .int .i64 q_0_2, .slice a_z2 z2.length c_z2]⟩], [⟨b_1, 3, [.int .i64 q_1_0]⟩], [⟨b_2, 3, [.int .i64 q_2_0]⟩], [⟨b_3, 24, [.int .i64 0, .int .i64 0, .int .i64 0, .slice none 0 0]⟩], [⟨b_4, 24, [.int .i64 q_4_0, .int .i64 q_4_1, .int .i64 q_4_2, .slice a_z0 z0.length c_z0]⟩], g, [⟨b_6, 3, [.int .i64 q_6_0]⟩], [⟨b_7, 3, [.int .i64 q_7_0]⟩], L30, [⟨b_9, 48, [.slice a_z1 z1.length c_z1]⟩], [⟨b_10, 49, [.func (.func 23) #[] #[.pointer (some ⟨b_9, 0, none⟩), .pointer (some ⟨b_0, 0, none⟩), .pointer (some ⟨b_4, 0, none⟩), .pointer (some ⟨b_6, 0, none⟩), .pointer (some ⟨b_7, 0, none⟩), .pointer (some ⟨b_10, 0, none⟩), .pointer (some ⟨b_1, 0, none⟩), .pointer (some ⟨b_2, 0, none⟩)]]⟩]]) (fun s g => OwnE 3 1 (I1 .i64) (.slice a_z0 z0.length c_z0) s.1 g) FUEL (y_6, 0) L29 x41 hx42 hL29 ⟨rfl, rfl, rfl, rfl, rfl, rfl, trivial⟩ (fun _ h => h) ?_
            rintro ⟨l_10, s_11⟩ L39 o45 fl46 hm44 hL39 hn47 hd48
            have hm44 : fiduciallaw45_path_c1_s1 q_1_0 q_2_0 k_2 k_3 k_8 k_9 l_10 s_11 = some o45 := hm44
            unfold fiduciallaw45_path_c1_s1 at hm44
            refine WK.sub (e' := [(8, .pointer (some ⟨b_1, 0, none⟩)), (9, .pointer (some ⟨b_2, 0, none⟩)), (12, .slice a10 k_3 c11), (15, .slice a35 k_9 c36), (80, .int .i64 ((k_3 : Nat) : Int)), (81, .int .i64 s_11)]) ⟨rfl, rfl, rfl, rfl, rfl, rfl, trivial⟩ (WK.cls (C' := St w0 m m19 [[⟨b_0, 24, [.int .i64 q_0_0, .int .i64 q_0_1, .int .i64 q_0_2, .slice a_z2 z2.length c_z2]⟩], [⟨b_1, 3, [.int .i64 q_1_0]⟩], [⟨b_2, 3, [.int .i64 q_2_0]⟩], [⟨b_3, 24, [.int .i64 0, .int .i64 0, .int .i64 0, .slice none 0 0]⟩], [⟨b_4, 24, [.int .i64 q_4_0, .int .i64 q_4_1, .int .i64 q_4_2, .slice a_z0 z0.length c_z0]⟩], L39, [⟨b_6, 3, [.int .i64 q_6_0]⟩], [⟨b_7, 3, [.int .i64 q_7_0]⟩], L30, [⟨b_9, 48, [.slice a_z1 z1.length c_z1]⟩], [⟨b_10, 49, [.func (.func 23) #[] #[.pointer (some ⟨b_9, 0, none⟩), .pointer (some ⟨b_0, 0, none⟩), .pointer (some ⟨b_4, 0, none⟩), .pointer (some ⟨b_6, 0, none⟩), .pointer (some ⟨b_7, 0, none⟩), .pointer (some ⟨b_10, 0, none⟩), .pointer (some ⟨b_1, 0, none⟩), .pointer (some ⟨b_2, 0, none⟩)]]⟩]]) (fun _ h => h) ?_)
            refine WK_seq ?_
            refine WK_region ?_
            refine WO_pure tbok 1 [(8, .pointer (some ⟨b_1, 0, none⟩)), (9, .pointer (some ⟨b_2, 0, none⟩)), (12, .slice a10 k_3 c11), (15, .slice a35 k_9 c36), (80, .int .i64 ((k_3 : Nat) : Int)), (81, .int .i64 s_11), (82, .bool (decide (s_11 < ((k_3 : Nat) : Int))))] rfl ⟨rfl, rfl, rfl, rfl, rfl, rfl, rfl, trivial⟩ ?_
            refine WO_end ?_
            refine WK_seq ?_
            refine WK_cond (b := decide (s_11 < ((k_3 : Nat) : Int))) rfl (fun hb50 => ?_) (fun hb50 => ?_)
            · have hm44 := ifT hb50 hm44
              refine WK_skip ?_
              refine WK_seq ?_
              refine WK_block ?_
              refine WK_seq ?_
              refine WK_region ?_
              refine WO_pure tbok 2 [(8, .pointer (some ⟨b_1, 0, none⟩)), (9, .pointer (some ⟨b_2, 0, none⟩)), (12, .slice a10 k_3 c11), (15, .slice a35 k_9 c36), (16, .int .i64 s_11), (80, .int .i64 ((k_3 : Nat) : Int)), (81, .int .i64 s_11)] rfl ⟨rfl, rfl, rfl, rfl, rfl, rfl, rfl, trivial⟩ ?_
              refine WO_end ?_
              refine WK_seq ?_
              refine WK_draw 9 [0, 1, 2, 3, 4, 5, 6, 7, 8] follows_ok (by kernel_rfl) St_closed ?_
              refine WO_pure tbok 1 [(8, .pointer (some ⟨b_1, 0, none⟩)), (9, .pointer (some ⟨b_2, 0, none⟩)), (12, .slice a10 k_3 c11), (15, .slice a35 k_9 c36), (16, .int .i64 s_11), (80, .int .i64 ((k_3 : Nat) : Int)), (81, .int .i64 s_11), (84, .slice a35 k_9 c36)] rfl ⟨rfl, rfl, rfl, rfl, rfl, rfl, rfl, rfl, trivial⟩ ?_
              obtain ⟨hc51, hm44⟩ := chk_some hm44
              have hc51 : 0 ≤ (0 : Int) ∧ (0 : Int) < ((k_9 : Nat) : Int) ∧ k_8 + k_9 ≤ l_10.length := hc51
              refine WO_index tbok rfl rfl rfl rfl rfl rfl rfl rfl (Vw.addr h37 hL39) ⟨hc51.1, hc51.2.1⟩ ?_
              refine WO_loadW (E := (I1 .i64)) tbok (fun _ => rfl) 5 rfl rfl rfl rfl (fun _ h => h) hL39 h37 rfl (getD_some (0 : Int) (show k_8 + (0 : Int).toNat < l_10.length by have := hc51; omega)) rfl ?_
              refine WO_pure tbok 1 [(8, .pointer (some ⟨b_1, 0, none⟩)), (9, .pointer (some ⟨b_2, 0, none⟩)), (12, .slice a10 k_3 c11), (15, .slice a35 k_9 c36), (16, .int .i64 s_11), (80, .int .i64 ((k_3 : Nat) : Int)), (81, .int .i64 s_11), (86, .int .i64 (l_10.getD (k_8 + (0 : Int).toNat) (0 : Int))), (87, .int .i64 s_11)] rfl ⟨rfl, rfl, rfl, rfl, rfl, rfl, rfl, rfl, rfl, trivial⟩ ?_
              refine WO_loadB tbok 1 rfl rfl rfl rfl (fun _ h => h) rfl rfl ?_
              refine WO_loadB tbok 2 rfl rfl rfl rfl (fun _ h => h) rfl rfl ?_
              obtain ⟨y_13, hc52, hm44⟩ := bind_some hm44
              refine WO_call0 (.int .i64 y_13) rfl rfl St_closed rfl rfl rfl rfl St_closed ⟨25, #[], #[], rfl, callable_25, fun w hw => ⟨_, hw.sat, fiduciallaw45_jump_walk hc52⟩⟩ ?_
              refine WO_pure tbok 2 [(8, .pointer (some ⟨b_1, 0, none⟩)), (9, .pointer (some ⟨b_2, 0, none⟩)), (12, .slice a10 k_3 c11), (15, .slice a35 k_9 c36), (16, .int .i64 s_11), (17, .int .i64 (w64 ((l_10.getD (k_8 + (0 : Int).toNat) (0 : Int)) + y_13))), (80, .int .i64 ((k_3 : Nat) : Int)), (81, .int .i64 s_11)] rfl ⟨rfl, rfl, rfl, rfl, rfl, rfl, rfl, rfl, trivial⟩ ?_
              refine WO_tail ?_
              refine WO_end ?_
              refine WK_seq ?_
              refine WK_seq ?_
              refine WK_region ?_
              refine WO_pure tbok 3 [(8, .pointer (some ⟨b_1, 0, none⟩)), (9, .pointer (some ⟨b_2, 0, none⟩)), (12, .slice a10 k_3 c11), (15, .slice a35 k_9 c36), (16, .int .i64 s_11), (17, .int .i64 (w64 ((l_10.getD (k_8 + (0 : Int).toNat) (0 : Int)) + y_13))), (80, .int .i64 ((k_3 : Nat) : Int)), (81, .int .i64 s_11), (92, .slice a35 k_9 c36), (93, .int .i64 ((k_9 : Nat) : Int)), (94, .int .i64 0)] rfl ⟨rfl, rfl, rfl, rfl, rfl, rfl, rfl, rfl, rfl, rfl, rfl, trivial⟩ ?_
              refine WO_end ?_
              obtain ⟨x53, hx54, hm44⟩ := bind_some hm44
              refine WK_join (β := Int × Unit) (fun p => p.1 = x53) (fun p => [(8, .pointer (some ⟨b_1, 0, none⟩)), (9, .pointer (some ⟨b_2, 0, none⟩)), (12, .slice a10 k_3 c11), (15, .slice a35 k_9 c36), (16, .int .i64 s_11), (17, .int .i64 p.1), (80, .int .i64 ((k_3 : Nat) : Int)), (81, .int .i64 s_11)]) (fun p => St w0 m m19 [[⟨b_0, 24, [.int .i64 q_0_0, .int .i64 q_0_1, .int .i64 q_0_2, .slice a_z2 z2.length c_z2]⟩], [⟨b_1, 3, [.int .i64 q_1_0]⟩], [⟨b_2, 3, [.int .i64 q_2_0]⟩], [⟨b_3, 24, [.int .i64 0, .int .i64 0, .int .i64 0, .slice none 0 0]⟩], [⟨b_4, 24, [.int .i64 q_4_0, .int .i64 q_4_1, .int .i64 q_4_2, .slice a_z0 z0.length c_z0]⟩], L39, [⟨b_6, 3, [.int .i64 q_6_0]⟩], [⟨b_7, 3, [.int .i64 q_7_0]⟩], L30, [⟨b_9, 48, [.slice a_z1 z1.length c_z1]⟩], [⟨b_10, 49, [.func (.func 23) #[] #[.pointer (some ⟨b_9, 0, none⟩), .pointer (some ⟨b_0, 0, none⟩), .pointer (some ⟨b_4, 0, none⟩), .pointer (some ⟨b_6, 0, none⟩), .pointer (some ⟨b_7, 0, none⟩), .pointer (some ⟨b_10, 0, none⟩), .pointer (some ⟨b_1, 0, none⟩), .pointer (some ⟨b_2, 0, none⟩)]]⟩]]) ?_ (fun hk55 => ?_)
              · rintro ⟨s_16, ⟨⟩⟩ hq61
                subst hq61
                refine WK.sub (e' := [(8, .pointer (some ⟨b_1, 0, none⟩)), (9, .pointer (some ⟨b_2, 0, none⟩)), (12, .slice a10 k_3 c11), (15, .slice a35 k_9 c36), (16, .int .i64 s_11), (17, .int .i64 s_16), (80, .int .i64 ((k_3 : Nat) : Int)), (81, .int .i64 s_11)]) ⟨rfl, rfl, rfl, rfl, rfl, rfl, rfl, rfl, trivial⟩ (WK.cls (C' := St w0 m m19 [[⟨b_0, 24, [.int .i64 q_0_0, .int .i64 q_0_1, .int .i64 q_0_2, .slice a_z2 z2.length c_z2]⟩], [⟨b_1, 3, [.int .i64 q_1_0]⟩], [⟨b_2, 3, [.int .i64 q_2_0]⟩], [⟨b_3, 24, [.int .i64 0, .int .i64 0, .int .i64 0, .slice none 0 0]⟩], [⟨b_4, 24, [.int .i64 q_4_0, .int .i64 q_4_1, .int .i64 q_4_2, .slice a_z0 z0.length c_z0]⟩], L39, [⟨b_6, 3, [.int .i64 q_6_0]⟩], [⟨b_7, 3, [.int .i64 q_7_0]⟩], L30, [⟨b_9, 48, [.slice a_z1 z1.length c_z1]⟩], [⟨b_10, 49, [.func (.func 23) #[] #[.pointer (some ⟨b_9, 0, none⟩), .pointer (some ⟨b_0, 0, none⟩), .pointer (some ⟨b_4, 0, none⟩), .pointer (some ⟨b_6, 0, none⟩), .pointer (some ⟨b_7, 0, none⟩), .pointer (some ⟨b_10, 0, none⟩), .pointer (some ⟨b_1, 0, none⟩), .pointer (some ⟨b_2, 0, none⟩)]]⟩]]) (fun _ h => h) ?_)
                refine WK_draw 10 [0, 1, 2, 3, 4, 5, 6, 7, 8, 9] follows_ok (by kernel_rfl) St_closed ?_
                refine WO_pure tbok 2 [(8, .pointer (some ⟨b_1, 0, none⟩)), (9, .pointer (some ⟨b_2, 0, none⟩)), (12, .slice a10 k_3 c11), (15, .slice a35 k_9 c36), (17, .int .i64 s_16), (80, .int .i64 ((k_3 : Nat) : Int)), (81, .int .i64 s_11), (110, .slice a10 k_3 c11), (111, .int .i64 s_11)] rfl ⟨rfl, rfl, rfl, rfl, rfl, rfl, rfl, rfl, rfl, trivial⟩ ?_
                obtain ⟨hc62, hm44⟩ := chk_some hm44
                have hc62 : 0 ≤ s_11 ∧ s_11 < ((k_3 : Nat) : Int) ∧ k_2 + k_3 ≤ l_10.length := hc62
                refine WO_index tbok rfl rfl rfl rfl rfl rfl rfl rfl (Vw.addr h12 hL39) ⟨hc62.1, hc62.2.1⟩ ?_
                refine WO_loadW (E := (I1 .i64)) tbok (fun _ => rfl) 5 rfl rfl rfl rfl (fun _ h => h) hL39 h12 rfl (getD_some (0 : Int) (show k_2 + s_11.toNat < l_10.length by have := hc62; omega)) rfl ?_
                refine WO_pure tbok 2 [(8, .pointer (some ⟨b_1, 0, none⟩)), (9, .pointer (some ⟨b_2, 0, none⟩)), (12, .slice a10 k_3 c11), (15, .slice a35 k_9 c36), (80, .int .i64 ((k_3 : Nat) : Int)), (81, .int .i64 s_11), (110, .slice a10 k_3 c11), (111, .int .i64 s_11), (113, .int .i64 (l_10.getD (k_2 + s_11.toNat) (0 : Int))), (114, .int .i64 s_16), (115, .slice a35 k_9 c36)] rfl ⟨rfl, rfl, rfl, rfl, rfl, rfl, rfl, rfl, rfl, rfl, rfl, trivial⟩ ?_
                obtain ⟨hc63, hm44⟩ := chk_some hm44
                have hc63 : k_8 + k_9 ≤ l_10.length := hc63
                obtain ⟨y_17, hc64, hm44⟩ := bind_some hm44
                refine WO_call0 (.int .i64 y_17) rfl rfl St_closed rfl rfl rfl rfl St_closed ⟨26, #[], #[], rfl, callable_26, fun w hw => ⟨_, hw.satV, slices_Min_sint_walk (Vw.rd (E := (I1 .i64)) (k := 1) (fun _ => rfl) h37 hL39 (fun _ hx => hw.memV (i := 5) rfl hx) hc63) hc64⟩⟩ ?_
                refine WO_pure tbok 2 [(8, .pointer (some ⟨b_1, 0, none⟩)), (9, .pointer (some ⟨b_2, 0, none⟩)), (12, .slice a10 k_3 c11), (15, .slice a35 k_9 c36), (80, .int .i64 ((k_3 : Nat) : Int)), (81, .int .i64 s_11), (110, .slice a10 k_3 c11), (111, .int .i64 s_11), (118, .int .i64 (w64 ((l_10.getD (k_2 + s_11.toNat) (0 : Int)) + (w64 (s_16 - y_17)))))] rfl ⟨rfl, rfl, rfl, rfl, rfl, rfl, rfl, rfl, rfl, trivial⟩ ?_
                obtain ⟨hc65, hm44⟩ := chk_some hm44
                have hc65 : 0 ≤ s_11 ∧ s_11 < ((k_3 : Nat) : Int) ∧ k_2 + k_3 ≤ l_10.length := hc65
                refine WO_index tbok rfl rfl rfl rfl rfl rfl rfl rfl (Vw.addr h12 hL39) ⟨hc65.1, hc65.2.1⟩ ?_
                refine WO_tail ?_
                refine WO_storeW (E := (I1 .i64)) tbok (fun _ => rfl) 5 (w64 ((l_10.getD (k_2 + s_11.toNat) (0 : Int)) + (w64 (s_16 - y_17)))) rfl rfl rfl rfl rfl hL39 h12 rfl (show k_2 + s_11.toNat < l_10.length by have := hc65; omega) rfl rfl rfl rfl (fun L66 hL66 => ?_)
                refine WO.cls (C' := St w0 m m19 [[⟨b_0, 24, [.int .i64 q_0_0, .int .i64 q_0_1, .int .i64 q_0_2, .slice a_z2 z2.length c_z2]⟩], [⟨b_1, 3, [.int .i64 q_1_0]⟩], [⟨b_2, 3, [.int .i64 q_2_0]⟩], [⟨b_3, 24, [.int .i64 0, .int .i64 0, .int .i64 0, .slice none 0 0]⟩], [⟨b_4, 24, [.int .i64 q_4_0, .int .i64 q_4_1, .int .i64 q_4_2, .slice a_z0 z0.length c_z0]⟩], L66, [⟨b_6, 3, [.int .i64 q_6_0]⟩], [⟨b_7, 3, [.int .i64 q_7_0]⟩], L30, [⟨b_9, 48, [.slice a_z1 z1.length c_z1]⟩], [⟨b_10, 49, [.func (.func 23) #[] #[.pointer (some ⟨b_9, 0, none⟩), .pointer (some ⟨b_0, 0, none⟩), .pointer (some ⟨b_4, 0, none⟩), .pointer (some ⟨b_6, 0, none⟩), .pointer (some ⟨b_7, 0, none⟩), .pointer (some ⟨b_10, 0, none⟩), .pointer (some ⟨b_1, 0, none⟩), .pointer (some ⟨b_2, 0, none⟩)]]⟩]]) (fun _ h => h) ?_
                refine WO_end ?_
                refine WK_blk ?_
                refine WK_region ?_
                refine WO_pure tbok 2 [(8, .pointer (some ⟨b_1, 0, none⟩)), (9, .pointer (some ⟨b_2, 0, none⟩)), (12, .slice a10 k_3 c11), (15, .slice a35 k_9 c36), (80, .int .i64 ((k_3 : Nat) : Int)), (81, .int .i64 (w64 (s_11 + 1)))] rfl ⟨rfl, rfl, rfl, rfl, rfl, rfl, trivial⟩ ?_
                refine WO_end ?_
                cases hm44
                refine WK.sub ?_ (WK.cls (fun _ h => h) (hn47 _ L66 rfl hL66))
                exact ⟨rfl, rfl, rfl, rfl, rfl, rfl, trivial⟩
              · refine WK_block ?_
                refine WK_loop (S := Int × Int) (G := Unit) (fun s => fiduciallaw45_path_c1_s2 q_1_0 q_2_0 k_8 k_9 l_10 s_11 s.1 s.2) (fun s g => [(8, .pointer (some ⟨b_1, 0, none⟩)), (9, .pointer (some ⟨b_2, 0, none⟩)), (12, .slice a10 k_3 c11), (15, .slice a35 k_9 c36), (16, .int .i64 s_11), (17, .int .i64 s.1), (80, .int .i64 ((k_3 : Nat) : Int)), (81, .int .i64 s_11), (92, .slice a35 k_9 c36), (93, .int .i64 ((k_9 : Nat) : Int)), (94, .int .i64 s.2)]) (fun s g => St w0 m m19 [[⟨b_0, 24, [.int .i64 q_0_0, .int .i64 q_0_1, .int .i64 q_0_2, .slice a_z2 z2.length c_z2]⟩], [⟨b_1, 3, [.int .i64 q_1_0]⟩], [⟨b_2, 3, [.int .i64 q_2_0]⟩], [⟨b_3, 24, [.int .i64 0, .int .i64 0, .int .i64 0, .slice none 0 0]⟩], [⟨b_4, 24, [.int .i64 q_4_0, .int .i64 q_4_1, .int .i64 q_4_2, .slice a_z0 z0.length c_z0]⟩], L39, [⟨b_6, 3, [.int .i64 q_6_0]⟩], [⟨b_7, 3, [.int .i64 q_7_0]⟩], L30, [⟨b_9, 48, [.slice a_z1 z1.length c_z1]⟩], [⟨b_10, 49, [.func (.func 23) #[] #[.pointer (some ⟨b_9, 0, none⟩), .pointer (some ⟨b_0, 0, none⟩), .pointer (some ⟨b_4, 0, none⟩), .pointer (some ⟨b_6, 0, none⟩), .pointer (some ⟨b_7, 0, none⟩), .pointer (some ⟨b_10, 0, none⟩), .pointer (some ⟨b_1, 0, none⟩), .pointer (some ⟨b_2, 0, none⟩)]]⟩]]) (fun s g => True) FUEL (w64 ((l_10.getD (k_8 + (0 : Int).toNat) (0 : Int)) + y_13), 0) () x53 hx54 trivial ⟨rfl, rfl, rfl, rfl, rfl, rfl, rfl, rfl, rfl, rfl, rfl, trivial⟩ (fun _ h => h) ?_
                rintro ⟨s_14, s_15⟩ ⟨⟩ o57 fl58 hm56 - hn59 hd60
                have hm56 : fiduciallaw45_path_c1_s2 q_1_0 q_2_0 k_8 k_9 l_10 s_11 s_14 s_15 = some o57 := hm56
                unfold fiduciallaw45_path_c1_s2 at hm56
                refine WK.sub (e' := [(8, .pointer (some ⟨b_1, 0, none⟩)), (9, .pointer (some ⟨b_2, 0, none⟩)), (12, .slice a10 k_3 c11), (15, .slice a35 k_9 c36), (16, .int .i64 s_11), (17, .int .i64 s_14), (80, .int .i64 ((k_3 : Nat) : Int)), (81, .int .i64 s_11), (92, .slice a35 k_9 c36), (93, .int .i64 ((k_9 : Nat) : Int)), (94, .int .i64 s_15)]) ⟨rfl, rfl, rfl, rfl, rfl, rfl, rfl, rfl, rfl, rfl, rfl, trivial⟩ (WK.cls (C' := St w0 m m19 [[⟨b_0, 24, [.int .i64 q_0_0, .int .i64 q_0_1, .int .i64 q_0_2, .slice a_z2 z2.length c_z2]⟩], [⟨b_1, 3, [.int .i64 q_1_0]⟩], [⟨b_2, 3, [.int .i64 q_2_0]⟩], [⟨b_3, 24, [.int .i64 0, .int .i64 0, .int .i64 0, .slice none 0 0]⟩], [⟨b_4, 24, [.int .i64 q_4_0, .int .i64 q_4_1, .int .i64 q_4_2, .slice a_z0 z0.length c_z0]⟩], L39, [⟨b_6, 3, [.int .i64 q_6_0]⟩], [⟨b_7, 3, [.int .i64 q_7_0]⟩], L30, [⟨b_9, 48, [.slice a_z1 z1.length c_z1]⟩], [⟨b_10, 49, [.func (.func 23) #[] #[.pointer (some ⟨b_9, 0, none⟩), .pointer (some ⟨b_0, 0, none⟩), .pointer (some ⟨b_4, 0, none⟩), .pointer (some ⟨b_6, 0, none⟩), .pointer (some ⟨b_7, 0, none⟩), .pointer (some ⟨b_10, 0, none⟩), .pointer (some ⟨b_1, 0, none⟩), .pointer (some ⟨b_2, 0, none⟩)]]⟩]]) (fun _ h => h) ?_)
                refine WK_seq ?_
                refine WK_region ?_
                refine WO_pure tbok 1 [(8, .pointer (some ⟨b_1, 0, none⟩)), (9, .pointer (some ⟨b_2, 0, none⟩)), (12, .slice a10 k_3 c11), (15, .slice a35 k_9 c36), (16, .int .i64 s_11), (17, .int .i64 s_14), (80, .int .i64 ((k_3 : Nat) : Int)), (81, .int .i64 s_11), (92, .slice a35 k_9 c36), (93, .int .i64 ((k_9 : Nat) : Int)), (94, .int .i64 s_15), (95, .bool (decide (s_15 < ((k_9 : Nat) : Int))))] rfl ⟨rfl, rfl, rfl, rfl, rfl, rfl, rfl, rfl, rfl, rfl, rfl, rfl, trivial⟩ ?_
                refine WO_end ?_
                refine WK_seq ?_
                refine WK_cond (b := decide (s_15 < ((k_9 : Nat) : Int))) rfl (fun hb67 => ?_) (fun hb67 => ?_)
                · have hm56 := ifT hb67 hm56
                  refine WK_skip ?_
                  refine WK_seq ?_
                  refine WK_block ?_
                  refine WK_seq ?_
                  refine WK_region ?_
                  refine WO_pure tbok 1 [(8, .pointer (some ⟨b_1, 0, none⟩)), (9, .pointer (some ⟨b_2, 0, none⟩)), (12, .slice a10 k_3 c11), (15, .slice a35 k_9 c36), (16, .int .i64 s_11), (17, .int .i64 s_14), (80, .int .i64 ((k_3 : Nat) : Int)), (81, .int .i64 s_11), (92, .slice a35 k_9 c36), (93, .int .i64 ((k_9 : Nat) : Int)), (94, .int .i64 s_15), (96, .int .i64 s_15)] rfl ⟨rfl, rfl, rfl, rfl, rfl, rfl, rfl, rfl, rfl, rfl, rfl, rfl, trivial⟩ ?_
                  obtain ⟨hc68, hm56⟩ := chk_some hm56
                  have hc68 : 0 ≤ s_15 ∧ s_15 < ((k_9 : Nat) : Int) ∧ k_8 + k_9 ≤ l_10.length := hc68
                  refine WO_index tbok rfl rfl rfl rfl rfl rfl rfl rfl (Vw.addr h37 hL39) ⟨hc68.1, hc68.2.1⟩ ?_
                  refine WO_loadW (E := (I1 .i64)) tbok (fun _ => rfl) 5 rfl rfl rfl rfl (fun _ h => h) hL39 h37 rfl (getD_some (0 : Int) (show k_8 + s_15.toNat < l_10.length by have := hc68; omega)) rfl ?_
                  refine WO_pure tbok 2 [(8, .pointer (some ⟨b_1, 0, none⟩)), (9, .pointer (some ⟨b_2, 0, none⟩)), (12, .slice a10 k_3 c11), (15, .slice a35 k_9 c36), (16, .int .i64 s_11), (17, .int .i64 s_14), (18, .int .i64 s_15), (19, .int .i64 (l_10.getD (k_8 + s_15.toNat) (0 : Int))), (80, .int .i64 ((k_3 : Nat) : Int)), (81, .int .i64 s_11), (92, .slice a35 k_9 c36), (93, .int .i64 ((k_9 : Nat) : Int)), (94, .int .i64 s_15)] rfl ⟨rfl, rfl, rfl, rfl, rfl, rfl, rfl, rfl, rfl, rfl, rfl, rfl, rfl, trivial⟩ ?_
                  refine WO_end ?_
                  refine WK_region ?_
                  refine WO_pure tbok 5 [(8, .pointer (some ⟨b_1, 0, none⟩)), (9, .pointer (some ⟨b_2, 0, none⟩)), (12, .slice a10 k_3 c11), (15, .slice a35 k_9 c36), (16, .int .i64 s_11), (17, .int .i64 s_14), (80, .int .i64 ((k_3 : Nat) : Int)), (81, .int .i64 s_11), (92, .slice a35 k_9 c36), (93, .int .i64 ((k_9 : Nat) : Int)), (94, .int .i64 s_15), (99, .int .i64 s_14), (100, .int .i64 (l_10.getD (k_8 + s_15.toNat) (0 : Int))), (103, .int .i64 (w64 (s_11 - s_15)))] rfl ⟨rfl, rfl, rfl, rfl, rfl, rfl, rfl, rfl, rfl, rfl, rfl, rfl, rfl, rfl, trivial⟩ ?_
                  refine WO_loadB tbok 1 rfl rfl rfl rfl (fun _ h => h) rfl rfl ?_
                  refine WO_loadB tbok 2 rfl rfl rfl rfl (fun _ h => h) rfl rfl ?_
                  obtain ⟨y_18, hc69, hm56⟩ := bind_some hm56
                  refine WO_call0 (.int .i64 y_18) rfl rfl trivial rfl rfl rfl rfl St_closed ⟨25, #[], #[], rfl, callable_25, fun w hw => ⟨_, hw.sat, fiduciallaw45_jump_walk hc69⟩⟩ ?_
                  refine WO_pure tbok 3 [(8, .pointer (some ⟨b_1, 0, none⟩)), (9, .pointer (some ⟨b_2, 0, none⟩)), (12, .slice a10 k_3 c11), (15, .slice a35 k_9 c36), (16, .int .i64 s_11), (17, .int .i64 (if (w64 ((l_10.getD (k_8 + s_15.toNat) (0 : Int)) + y_18)) < s_14 then (w64 ((l_10.getD (k_8 + s_15.toNat) (0 : Int)) + y_18)) else s_14)), (80, .int .i64 ((k_3 : Nat) : Int)), (81, .int .i64 s_11), (92, .slice a35 k_9 c36), (93, .int .i64 ((k_9 : Nat) : Int)), (94, .int .i64 s_15)] rfl ⟨rfl, rfl, rfl, rfl, rfl, rfl, rfl, rfl, rfl, rfl, rfl, trivial⟩ ?_
                  refine WO_end ?_
                  refine WK_blk ?_
                  refine WK_region ?_
                  refine WO_pure tbok 2 [(8, .pointer (some ⟨b_1, 0, none⟩)), (9, .pointer (some ⟨b_2, 0, none⟩)), (12, .slice a10 k_3 c11), (15, .slice a35 k_9 c36), (16, .int .i64 s_11), (17, .int .i64 (if (w64 ((l_10.getD (k_8 + s_15.toNat) (0 : Int)) + y_18)) < s_14 then (w64 ((l_10.getD (k_8 + s_15.toNat) (0 : Int)) + y_18)) else s_14)), (80, .int .i64 ((k_3 : Nat) : Int)), (81, .int .i64 s_11), (92, .slice a35 k_9 c36), (93, .int .i64 ((k_9 : Nat) : Int)), (94, .int .i64 (w64 (s_15 + 1)))] rfl ⟨rfl, rfl, rfl, rfl, rfl, rfl, rfl, rfl, rfl, rfl, rfl, trivial⟩ ?_
                  refine WO_end ?_
                  cases hm56
                  refine WK.sub ?_ (WK.cls (fun _ h => h) (hn59 _ () rfl trivial))
                  exact ⟨rfl, rfl, rfl, rfl, rfl, rfl, rfl, rfl, rfl, rfl, rfl, trivial⟩
                · have hm56 := ifF hb67 hm56
                  refine WK_exit rfl ?_
                  cases hm56
                  refine WK.sub ?_ (WK.cls (fun _ h => h) (hk55 (s_14, ()) (hd60 _ rfl)))
                  exact ⟨rfl, rfl, rfl, rfl, rfl, rfl, rfl, rfl, trivial⟩
            · have hm44 := ifF hb50 hm44
              refine WK_exit rfl ?_
              cases hm44
              refine WK.sub ?_ (WK.cls (fun _ h => h) (hk43 (l_10, L39) ⟨(hd48 _ rfl), hL39⟩))
              exact trivial
      · refine WK_region ?_
        refine WO_pure tbok 3 [(3, .pointer (some ⟨b_0, 0, none⟩)), (4, .pointer (some ⟨b_4, 0, none⟩)), (7, .pointer (some ⟨b_10, 0, none⟩)), (8, .pointer (some ⟨b_1, 0, none⟩)), (9, .pointer (some ⟨b_2, 0, none⟩)), (12, .slice a10 k_3 c11), (13, .int .i64 (w64 (p0 - q_6_0))), (14, .int .i64 (w64 (p1 - q_7_0))), (55, .bool (decide ((w64 (p0 - q_6_0)) < 0)))] rfl ⟨rfl, rfl, rfl, rfl, rfl, rfl, rfl, rfl, rfl, trivial⟩ ?_
        refine WO_split (d := 55) (b := decide ((w64 (p0 - q_6_0)) < 0)) rfl (fun hb70 => ?_) (fun hb70 => ?_)
        · have hx25 := ifT hb70 hx25
          refine WO_pure tbok 15 [(4, .pointer (some ⟨b_4, 0, none⟩)), (7, .pointer (some ⟨b_10, 0, none⟩)), (8, .pointer (some ⟨b_1, 0, none⟩)), (9, .pointer (some ⟨b_2, 0, none⟩)), (12, .slice a10 k_3 c11), (13, .int .i64 (w64 (p0 - q_6_0))), (14, .int .i64 (w64 (p1 - q_7_0))), (70, .bool true)] rfl ⟨rfl, rfl, rfl, rfl, rfl, rfl, rfl, rfl, trivial⟩ ?_
          refine WO_end ?_
          cases hx25
          refine WK.sub ?_ (WK.cls (fun _ h => h) hk26)
          exact ⟨rfl, rfl, rfl, rfl, rfl, rfl, rfl, rfl, trivial⟩
        · have hx25 := ifF hb70 hx25
          refine WO_pure tbok 4 [(3, .pointer (some ⟨b_0, 0, none⟩)), (4, .pointer (some ⟨b_4, 0, none⟩)), (7, .pointer (some ⟨b_10, 0, none⟩)), (8, .pointer (some ⟨b_1, 0, none⟩)), (9, .pointer (some ⟨b_2, 0, none⟩)), (12, .slice a10 k_3 c11), (13, .int .i64 (w64 (p0 - q_6_0))), (14, .int .i64 (w64 (p1 - q_7_0))), (59, .bool (decide ((w64 (p1 - q_7_0)) < 0)))] rfl ⟨rfl, rfl, rfl, rfl, rfl, rfl, rfl, rfl, rfl, trivial⟩ ?_
          refine WO_split (d := 59) (b := decide ((w64 (p1 - q_7_0)) < 0)) rfl (fun hb71 => ?_) (fun hb71 => ?_)
          · have hx25 := ifT hb71 hx25
            refine WO_pure tbok 11 [(4, .pointer (some ⟨b_4, 0, none⟩)), (7, .pointer (some ⟨b_10, 0, none⟩)), (8, .pointer (some ⟨b_1, 0, none⟩)), (9, .pointer (some ⟨b_2, 0, none⟩)), (12, .slice a10 k_3 c11), (13, .int .i64 (w64 (p0 - q_6_0))), (14, .int .i64 (w64 (p1 - q_7_0))), (70, .bool true)] rfl ⟨rfl, rfl, rfl, rfl, rfl, rfl, rfl, rfl, trivial⟩ ?_
            refine WO_end ?_
            cases hx25
            refine WK.sub ?_ (WK.cls (fun _ h => h) hk26)
            exact ⟨rfl, rfl, rfl, rfl, rfl, rfl, rfl, rfl, trivial⟩
          · have hx25 := ifF hb71 hx25
            refine WO_pure tbok 2 [(3, .pointer (some ⟨b_0, 0, none⟩)), (4, .pointer (some ⟨b_4, 0, none⟩)), (7, .pointer (some ⟨b_10, 0, none⟩)), (8, .pointer (some ⟨b_1, 0, none⟩)), (9, .pointer (some ⟨b_2, 0, none⟩)), (12, .slice a10 k_3 c11), (13, .int .i64 (w64 (p0 - q_6_0))), (14, .int .i64 (w64 (p1 - q_7_0))), (59, .bool false), (60, .int .i64 (w64 (p0 - q_6_0))), (61, .pointer (some ⟨b_0, 0, none⟩))] rfl ⟨rfl, rfl, rfl, rfl, rfl, rfl, rfl, rfl, rfl, rfl, rfl, trivial⟩ ?_
            refine WO_loadB tbok 0 rfl rfl rfl rfl (fun _ h => h) rfl rfl ?_
            refine WO_pure tbok 3 [(3, .pointer (some ⟨b_0, 0, none⟩)), (4, .pointer (some ⟨b_4, 0, none⟩)), (7, .pointer (some ⟨b_10, 0, none⟩)), (8, .pointer (some ⟨b_1, 0, none⟩)), (9, .pointer (some ⟨b_2, 0, none⟩)), (12, .slice a10 k_3 c11), (13, .int .i64 (w64 (p0 - q_6_0))), (14, .int .i64 (w64 (p1 - q_7_0))), (65, .bool (decide (q_0_0 ≤ (w64 (p0 - q_6_0)))))] rfl ⟨rfl, rfl, rfl, rfl, rfl, rfl, rfl, rfl, rfl, trivial⟩ ?_
            refine WO_split (d := 65) (b := decide (q_0_0 ≤ (w64 (p0 - q_6_0)))) rfl (fun hb72 => ?_) (fun hb72 => ?_)
            · have hx25 := ifT hb72 hx25
              refine WO_pure tbok 5 [(4, .pointer (some ⟨b_4, 0, none⟩)), (7, .pointer (some ⟨b_10, 0, none⟩)), (8, .pointer (some ⟨b_1, 0, none⟩)), (9, .pointer (some ⟨b_2, 0, none⟩)), (12, .slice a10 k_3 c11), (13, .int .i64 (w64 (p0 - q_6_0))), (14, .int .i64 (w64 (p1 - q_7_0))), (70, .bool true)] rfl ⟨rfl, rfl, rfl, rfl, rfl, rfl, rfl, rfl, trivial⟩ ?_
              refine WO_end ?_
              cases hx25
              refine WK.sub ?_ (WK.cls (fun _ h => h) hk26)
              exact ⟨rfl, rfl, rfl, rfl, rfl, rfl, rfl, rfl, trivial⟩
            · have hx25 := ifF hb72 hx25
              refine WO_pure tbok 2 [(4, .pointer (some ⟨b_4, 0, none⟩)), (7, .pointer (some ⟨b_10, 0, none⟩)), (8, .pointer (some ⟨b_1, 0, none⟩)), (9, .pointer (some ⟨b_2, 0, none⟩)), (12, .slice a10 k_3 c11), (13, .int .i64 (w64 (p0 - q_6_0))), (14, .int .i64 (w64 (p1 - q_7_0))), (65, .bool false), (66, .int .i64 (w64 (p1 - q_7_0))), (67, .pointer (some ⟨b_0, 1, none⟩))] rfl ⟨rfl, rfl, rfl, rfl, rfl, rfl, rfl, rfl, rfl, rfl, trivial⟩ ?_
              refine WO_loadB tbok 0 rfl rfl rfl rfl (fun _ h => h) rfl rfl ?_
              refine WO_pure tbok 2 [(4, .pointer (some ⟨b_4, 0, none⟩)), (7, .pointer (some ⟨b_10, 0, none⟩)), (8, .pointer (some ⟨b_1, 0, none⟩)), (9, .pointer (some ⟨b_2, 0, none⟩)), (12, .slice a10 k_3 c11), (13, .int .i64 (w64 (p0 - q_6_0))), (14, .int .i64 (w64 (p1 - q_7_0))), (70, .bool (decide (q_0_1 ≤ (w64 (p1 - q_7_0)))))] rfl ⟨rfl, rfl, rfl, rfl, rfl, rfl, rfl, rfl, trivial⟩ ?_
              refine WO_end ?_
              cases hx25
              refine WK.sub ?_ (WK.cls (fun _ h => h) hk26)
              exact ⟨rfl, rfl, rfl, rfl, rfl, rfl, rfl, rfl, trivial⟩
def fiduciallaw45_path_Q (r : Int × Int × Int × List Int) : Value → List Ent → Prop := fun v L => ∃ (a0 : Option Addr) (q0 c0 : Nat), v = .agg #[.int .i64 r.1, .int .i64 r.2.1, .int .i64 r.2.2.1, .slice a0 q0 c0] ∧ OwnE 3 1 (I1 .i64) (.slice a0 q0 c0) r.2.2.2 L
theorem fiduciallaw45_path_walk {m : Mu} {p0_0 : Int} {p0_1 : Int} {p0_2 : Int} {p0_3 : List Int} {p1 : Int} {p2 : Int} {p3 : Int} {a_p0_3 : Option Addr} {q_p0_3 c_p0_3 : Nat} (h_p0_3 : SlR (FE (I1 .i64)) 1 m (.slice a_p0_3 q_p0_3 c_p0_3) p0_3) {r : Int × Int × Int × List Int} (hm : fiduciallaw45_path p0_0 p0_1 p0_2 p0_3 p1 p2 p3 = some r) :
    Go.E.Spec Tryd.prog 11 [.agg #[.int .i64 p0_0, .int .i64 p0_1, .int .i64 p0_2, .slice a_p0_3 q_p0_3 c_p0_3], .int .i64 p1, .int .i64 p2, .int .i64 p3] m (fun v _ L => fiduciallaw45_path_Q r v L) := by
  refine Spec_enter Tryd.func11 rfl rfl rfl (fun w0 => ?_)
  refine WK.sub (e' := [(0, .agg #[.int .i64 p0_0, .int .i64 p0_1, .int .i64 p0_2, .slice a_p0_3 q_p0_3 c_p0_3]), (1, .int .i64 p1), (2, .int .i64 p2), (3, .int .i64 p3)]) ⟨rfl, rfl, rfl, rfl, trivial⟩ ?_
  obtain rfl := SlR.qlen h_p0_3
  refine WK.sub (e' := [(0, .agg #[.int .i64 p0_0, .int .i64 p0_1, .int .i64 p0_2, .slice a_p0_3 p0_3.length c_p0_3]), (1, .int .i64 p1), (2, .int .i64 p2), (3, .int .i64 p3)]) ⟨rfl, rfl, rfl, rfl, trivial⟩ ?_
  unfold fiduciallaw45_path at hm
  refine WK_seq ?_
  refine WK_region ?_
  refine WO_box [.int .i64 p0_0, .int .i64 p0_1, .int .i64 p0_2, .slice a_p0_3 p0_3.length c_p0_3] rfl rfl trivial rfl rfl rfl (fun b1 => ?_)
  refine WO.cls (C' := St w0 m m [[⟨b1, 24, [.int .i64 p0_0, .int .i64 p0_1, .int .i64 p0_2, .slice a_p0_3 p0_3.length c_p0_3]⟩]]) (fun _ h => h) ?_
  refine WO_box [.int .i64 p1] rfl rfl trivial rfl rfl rfl (fun b2 => ?_)
  refine WO.cls (C' := St w0 m m [[⟨b1, 24, [.int .i64 p0_0, .int .i64 p0_1, .int .i64 p0_2, .slice a_p0_3 p0_3.length c_p0_3]⟩], [⟨b2, 3, [.int .i64 p1]⟩]]) (fun _ h => h) ?_
  refine WO_box [.int .i64 p2] rfl rfl trivial rfl rfl rfl (fun b3 => ?_)
  refine WO.cls (C' := St w0 m m [[⟨b1, 24, [.int .i64 p0_0, .int .i64 p0_1, .int .i64 p0_2, .slice a_p0_3 p0_3.length c_p0_3]⟩], [⟨b2, 3, [.int .i64 p1]⟩], [⟨b3, 3, [.int .i64 p2]⟩]]) (fun _ h => h) ?_
  refine WO_alloc tbok [.int .i64 0, .int .i64 0, .int .i64 0, .slice none 0 0] rfl rfl trivial rfl rfl rfl rfl (fun b4 => ?_)
  refine WO.cls (C' := St w0 m m [[⟨b1, 24, [.int .i64 p0_0, .int .i64 p0_1, .int .i64 p0_2, .slice a_p0_3 p0_3.length c_p0_3]⟩], [⟨b2, 3, [.int .i64 p1]⟩], [⟨b3, 3, [.int .i64 p2]⟩], [⟨b4, 24, [.int .i64 0, .int .i64 0, .int .i64 0, .slice none 0 0]⟩]]) (fun _ h => h) ?_
  refine WO_end ?_
  refine WK_seq ?_
  obtain ⟨⟨l_1, s_2, s_3, s_4⟩, hx9, hm⟩ := bind_some hm
  refine WK_join (β := Option Addr × Nat × List Ent × Nat) (fun p => OwnE 3 1 (I1 .i64) (.slice p.1 ((l_1).length) p.2.1) l_1 p.2.2.1) (fun p => [(3, .int .i64 p3), (4, .pointer (some ⟨b1, 0, none⟩)), (5, .pointer (some ⟨b2, 0, none⟩)), (6, .pointer (some ⟨b3, 0, none⟩)), (8, .pointer (some ⟨b4, 0, none⟩)), (9, .pointer (some ⟨p.2.2.2, 0, none⟩))]) (fun p => St w0 m m [[⟨b1, 24, [.int .i64 p0_0, .int .i64 p0_1, .int .i64 p0_2, .slice a_p0_3 p0_3.length c_p0_3]⟩], [⟨b2, 3, [.int .i64 p1]⟩], [⟨b3, 3, [.int .i64 p2]⟩], [⟨b4, 24, [.int .i64 0, .int .i64 0, .int .i64 0, .slice none 0 0]⟩], [⟨p.2.2.2, 24, [.int .i64 s_2, .int .i64 s_3, .int .i64 s_4, .slice p.1 ((l_1).length) p.2.1]⟩], p.2.2.1]) ?_ (fun hk10 => ?_)
  · rintro ⟨a5, c6, L7, b8⟩ hL7
    refine WK.sub (e' := [(3, .int .i64 p3), (4, .pointer (some ⟨b1, 0, none⟩)), (5, .pointer (some ⟨b2, 0, none⟩)), (6, .pointer (some ⟨b3, 0, none⟩)), (8, .pointer (some ⟨b4, 0, none⟩)), (9, .pointer (some ⟨b8, 0, none⟩))]) ⟨rfl, rfl, rfl, rfl, rfl, rfl, trivial⟩ (WK.cls (C' := St w0 m m [[⟨b1, 24, [.int .i64 p0_0, .int .i64 p0_1, .int .i64 p0_2, .slice a_p0_3 p0_3.length c_p0_3]⟩], [⟨b2, 3, [.int .i64 p1]⟩], [⟨b3, 3, [.int .i64 p2]⟩], [⟨b4, 24, [.int .i64 0, .int .i64 0, .int .i64 0, .slice none 0 0]⟩], [⟨b8, 24, [.int .i64 s_2, .int .i64 s_3, .int .i64 s_4, .slice a5 ((l_1).length) c6]⟩], L7]) (fun _ h => h) ?_)
    refine WK_seq ?_
    refine WK_region ?_
    refine WO_pure tbok 1 [(4, .pointer (some ⟨b1, 0, none⟩)), (5, .pointer (some ⟨b2, 0, none⟩)), (6, .pointer (some ⟨b3, 0, none⟩)), (8, .pointer (some ⟨b4, 0, none⟩)), (9, .pointer (some ⟨b8, 0, none⟩)), (28, .int .i64 p3)] rfl ⟨rfl, rfl, rfl, rfl, rfl, rfl, trivial⟩ ?_
    obtain ⟨⟨y_5, y_6⟩, hc11, hm⟩ := bind_some hm
    refine WO_call0 (.tuple #[.int .i64 y_5, .int .i64 y_6]) rfl rfl trivial rfl rfl rfl rfl St_closed ⟨22, #[], #[], rfl, callable_22, fun w hw => ⟨_, hw.sat, fiduciallaw45_steps_walk hc11⟩⟩ ?_
    refine WO_pure tbok 3 [(4, .pointer (some ⟨b1, 0, none⟩)), (5, .pointer (some ⟨b2, 0, none⟩)), (6, .pointer (some ⟨b3, 0, none⟩)), (8, .pointer (some ⟨b4, 0, none⟩)), (9, .pointer (some ⟨b8, 0, none⟩)), (30, .int .i64 y_5), (31, .int .i64 y_6)] rfl ⟨rfl, rfl, rfl, rfl, rfl, rfl, rfl, trivial⟩ ?_
    refine WO_alloc tbok [.int .i64 0] rfl rfl trivial rfl rfl rfl rfl (fun b12 => ?_)
    refine WO.cls (C' := St w0 m m [[⟨b1, 24, [.int .i64 p0_0, .int .i64 p0_1, .int .i64 p0_2, .slice a_p0_3 p0_3.length c_p0_3]⟩], [⟨b2, 3, [.int .i64 p1]⟩], [⟨b3, 3, [.int .i64 p2]⟩], [⟨b4, 24, [.int .i64 0, .int .i64 0, .int .i64 0, .slice none 0 0]⟩], [⟨b8, 24, [.int .i64 s_2, .int .i64 s_3, .int .i64 s_4, .slice a5 ((l_1).length) c6]⟩], L7, [⟨b12, 3, [.int .i64 0]⟩]]) (fun _ h => h) ?_
    refine WO_alloc tbok [.int .i64 0] rfl rfl trivial rfl rfl rfl rfl (fun b13 => ?_)
    refine WO.cls (C' := St w0 m m [[⟨b1, 24, [.int .i64 p0_0, .int .i64 p0_1, .int .i64 p0_2, .slice a_p0_3 p0_3.length c_p0_3]⟩], [⟨b2, 3, [.int .i64 p1]⟩], [⟨b3, 3, [.int .i64 p2]⟩], [⟨b4, 24, [.int .i64 0, .int .i64 0, .int .i64 0, .slice none 0 0]⟩], [⟨b8, 24, [.int .i64 s_2, .int .i64 s_3, .int .i64 s_4, .slice a5 ((l_1).length) c6]⟩], L7, [⟨b12, 3, [.int .i64 0]⟩], [⟨b13, 3, [.int .i64 0]⟩]]) (fun _ h => h) ?_
    refine WO_storeB tbok 6 [.int .i64 y_5] rfl rfl rfl rfl rfl rfl rfl ?_
    refine WO.cls (C' := St w0 m m [[⟨b1, 24, [.int .i64 p0_0, .int .i64 p0_1, .int .i64 p0_2, .slice a_p0_3 p0_3.length c_p0_3]⟩], [⟨b2, 3, [.int .i64 p1]⟩], [⟨b3, 3, [.int .i64 p2]⟩], [⟨b4, 24, [.int .i64 0, .int .i64 0, .int .i64 0, .slice none 0 0]⟩], [⟨b8, 24, [.int .i64 s_2, .int .i64 s_3, .int .i64 s_4, .slice a5 ((l_1).length) c6]⟩], L7, [⟨b12, 3, [.int .i64 y_5]⟩], [⟨b13, 3, [.int .i64 0]⟩]]) (fun _ h => h) ?_
    refine WO_storeB tbok 7 [.int .i64 y_6] rfl rfl rfl rfl rfl rfl rfl ?_
    refine WO.cls (C' := St w0 m m [[⟨b1, 24, [.int .i64 p0_0, .int .i64 p0_1, .int .i64 p0_2, .slice a_p0_3 p0_3.length c_p0_3]⟩], [⟨b2, 3, [.int .i64 p1]⟩], [⟨b3, 3, [.int .i64 p2]⟩], [⟨b4, 24, [.int .i64 0, .int .i64 0, .int .i64 0, .slice none 0 0]⟩], [⟨b8, 24, [.int .i64 s_2, .int .i64 s_3, .int .i64 s_4, .slice a5 ((l_1).length) c6]⟩], L7, [⟨b12, 3, [.int .i64 y_5]⟩], [⟨b13, 3, [.int .i64 y_6]⟩]]) (fun _ h => h) ?_
    refine WO_end ?_
    refine WK_seq ?_
    refine WK_region ?_
    refine WO_pure tbok 1 [(4, .pointer (some ⟨b1, 0, none⟩)), (5, .pointer (some ⟨b2, 0, none⟩)), (6, .pointer (some ⟨b3, 0, none⟩)), (8, .pointer (some ⟨b4, 0, none⟩)), (9, .pointer (some ⟨b8, 0, none⟩)), (10, .pointer (some ⟨b12, 0, none⟩)), (11, .pointer (some ⟨b13, 0, none⟩)), (32, .pointer (some ⟨b1, 0, none⟩))] rfl ⟨rfl, rfl, rfl, rfl, rfl, rfl, rfl, rfl, trivial⟩ ?_
    refine WO_loadB tbok 0 rfl rfl rfl rfl (fun _ h => h) rfl rfl ?_
    refine WO_pure tbok 1 [(4, .pointer (some ⟨b1, 0, none⟩)), (5, .pointer (some ⟨b2, 0, none⟩)), (6, .pointer (some ⟨b3, 0, none⟩)), (8, .pointer (some ⟨b4, 0, none⟩)), (9, .pointer (some ⟨b8, 0, none⟩)), (10, .pointer (some ⟨b12, 0, none⟩)), (11, .pointer (some ⟨b13, 0, none⟩)), (33, .int .i64 p0_0), (34, .pointer (some ⟨b1, 1, none⟩))] rfl ⟨rfl, rfl, rfl, rfl, rfl, rfl, rfl, rfl, rfl, trivial⟩ ?_
    refine WO_loadB tbok 0 rfl rfl rfl rfl (fun _ h => h) rfl rfl ?_
    refine WO_pure tbok 1 [(4, .pointer (some ⟨b1, 0, none⟩)), (5, .pointer (some ⟨b2, 0, none⟩)), (6, .pointer (some ⟨b3, 0, none⟩)), (8, .pointer (some ⟨b4, 0, none⟩)), (9, .pointer (some ⟨b8, 0, none⟩)), (10, .pointer (some ⟨b12, 0, none⟩)), (11, .pointer (some ⟨b13, 0, none⟩)), (36, .int .i64 (w64 (p0_0 * p0_1)))] rfl ⟨rfl, rfl, rfl, rfl, rfl, rfl, rfl, rfl, trivial⟩ ?_
    obtain ⟨hc14, hm⟩ := chk_some hm
    refine WO_make (E := B1) tbok (fun _ => rfl) (by decide) false rfl rfl trivial rfl rfl rfl rfl rfl rfl rfl rfl rfl (mk_ok (by decide) hc14) (fun b15 c16 L17 hL17 => ?_)
    refine WO.cls (C' := St w0 m m [[⟨b1, 24, [.int .i64 p0_0, .int .i64 p0_1, .int .i64 p0_2, .slice a_p0_3 p0_3.length c_p0_3]⟩], [⟨b2, 3, [.int .i64 p1]⟩], [⟨b3, 3, [.int .i64 p2]⟩], [⟨b4, 24, [.int .i64 0, .int .i64 0, .int .i64 0, .slice none 0 0]⟩], [⟨b8, 24, [.int .i64 s_2, .int .i64 s_3, .int .i64 s_4, .slice a5 ((l_1).length) c6]⟩], L7, [⟨b12, 3, [.int .i64 y_5]⟩], [⟨b13, 3, [.int .i64 y_6]⟩], L17]) (fun _ h => h) ?_
    refine WO_alloc tbok [.slice none 0 0] rfl rfl trivial rfl rfl rfl rfl (fun b18 => ?_)
    refine WO.cls (C' := St w0 m m [[⟨b1, 24, [.int .i64 p0_0, .int .i64 p0_1, .int .i64 p0_2, .slice a_p0_3 p0_3.length c_p0_3]⟩], [⟨b2, 3, [.int .i64 p1]⟩], [⟨b3, 3, [.int .i64 p2]⟩], [⟨b4, 24, [.int .i64 0, .int .i64 0, .int .i64 0, .slice none 0 0]⟩], [⟨b8, 24, [.int .i64 s_2, .int .i64 s_3, .int .i64 s_4, .slice a5 ((l_1).length) c6]⟩], L7, [⟨b12, 3, [.int .i64 y_5]⟩], [⟨b13, 3, [.int .i64 y_6]⟩], L17, [⟨b18, 48, [.slice none 0 0]⟩]]) (fun _ h => h) ?_
    refine WO_storeB tbok 9 [.slice (some ⟨b15, 0, none⟩) ((List.replicate (w64 (p0_0 * p0_1)).toNat false).length) c16] rfl rfl rfl rfl rfl rfl rfl ?_
    refine WO.cls (C' := St w0 m m [[⟨b1, 24, [.int .i64 p0_0, .int .i64 p0_1, .int .i64 p0_2, .slice a_p0_3 p0_3.length c_p0_3]⟩], [⟨b2, 3, [.int .i64 p1]⟩], [⟨b3, 3, [.int .i64 p2]⟩], [⟨b4, 24, [.int .i64 0, .int .i64 0, .int .i64 0, .slice none 0 0]⟩], [⟨b8, 24, [.int .i64 s_2, .int .i64 s_3, .int .i64 s_4, .slice a5 ((l_1).length) c6]⟩], L7, [⟨b12, 3, [.int .i64 y_5]⟩], [⟨b13, 3, [.int .i64 y_6]⟩], L17, [⟨b18, 48, [.slice (some ⟨b15, 0, none⟩) ((List.replicate (w64 (p0_0 * p0_1)).toNat false).length) c16]⟩]]) (fun _ h => h) ?_
    refine WO_end ?_
    refine WK_seq ?_
    refine WK_region ?_
    refine WO_alloc tbok [.nilFunc] rfl rfl trivial rfl rfl rfl rfl (fun b19 => ?_)
    refine WO.cls (C' := St w0 m m [[⟨b1, 24, [.int .i64 p0_0, .int .i64 p0_1, .int .i64 p0_2, .slice a_p0_3 p0_3.length c_p0_3]⟩], [⟨b2, 3, [.int .i64 p1]⟩], [⟨b3, 3, [.int .i64 p2]⟩], [⟨b4, 24, [.int .i64 0, .int .i64 0, .int .i64 0, .slice none 0 0]⟩], [⟨b8, 24, [.int .i64 s_2, .int .i64 s_3, .int .i64 s_4, .slice a5 ((l_1).length) c6]⟩], L7, [⟨b12, 3, [.int .i64 y_5]⟩], [⟨b13, 3, [.int .i64 y_6]⟩], L17, [⟨b18, 48, [.slice (some ⟨b15, 0, none⟩) ((List.replicate (w64 (p0_0 * p0_1)).toNat false).length) c16]⟩], [⟨b19, 49, [.nilFunc]⟩]]) (fun _ h => h) ?_
    refine WO_end ?_
    refine WK_seq ?_
    refine WK_region ?_
    refine WO_pure tbok 1 [(4, .pointer (some ⟨b1, 0, none⟩)), (8, .pointer (some ⟨b4, 0, none⟩)), (9, .pointer (some ⟨b8, 0, none⟩)), (13, .pointer (some ⟨b19, 0, none⟩)), (38, .func (.func 23) #[] #[.pointer (some ⟨b18, 0, none⟩), .pointer (some ⟨b1, 0, none⟩), .pointer (some ⟨b8, 0, none⟩), .pointer (some ⟨b12, 0, none⟩), .pointer (some ⟨b13, 0, none⟩), .pointer (some ⟨b19, 0, none⟩), .pointer (some ⟨b2, 0, none⟩), .pointer (some ⟨b3, 0, none⟩)])] rfl ⟨rfl, rfl, rfl, rfl, rfl, trivial⟩ ?_
    refine WO_storeB tbok 10 [.func (.func 23) #[] #[.pointer (some ⟨b18, 0, none⟩), .pointer (some ⟨b1, 0, none⟩), .pointer (some ⟨b8, 0, none⟩), .pointer (some ⟨b12, 0, none⟩), .pointer (some ⟨b13, 0, none⟩), .pointer (some ⟨b19, 0, none⟩), .pointer (some ⟨b2, 0, none⟩), .pointer (some ⟨b3, 0, none⟩)]] rfl rfl rfl rfl rfl rfl rfl ?_
    refine WO.cls (C' := St w0 m m [[⟨b1, 24, [.int .i64 p0_0, .int .i64 p0_1, .int .i64 p0_2, .slice a_p0_3 p0_3.length c_p0_3]⟩], [⟨b2, 3, [.int .i64 p1]⟩], [⟨b3, 3, [.int .i64 p2]⟩], [⟨b4, 24, [.int .i64 0, .int .i64 0, .int .i64 0, .slice none 0 0]⟩], [⟨b8, 24, [.int .i64 s_2, .int .i64 s_3, .int .i64 s_4, .slice a5 ((l_1).length) c6]⟩], L7, [⟨b12, 3, [.int .i64 y_5]⟩], [⟨b13, 3, [.int .i64 y_6]⟩], L17, [⟨b18, 48, [.slice (some ⟨b15, 0, none⟩) ((List.replicate (w64 (p0_0 * p0_1)).toNat false).length) c16]⟩], [⟨b19, 49, [.func (.func 23) #[] #[.pointer (some ⟨b18, 0, none⟩), .pointer (some ⟨b1, 0, none⟩), .pointer (some ⟨b8, 0, none⟩), .pointer (some ⟨b12, 0, none⟩), .pointer (some ⟨b13, 0, none⟩), .pointer (some ⟨b19, 0, none⟩), .pointer (some ⟨b2, 0, none⟩), .pointer (some ⟨b3, 0, none⟩)]]⟩]]) (fun _ h => h) ?_
    refine WO_end ?_
    refine WK_seq ?_
    refine WK_seq ?_
    refine WK_region ?_
    refine WO_pure tbok 1 [(4, .pointer (some ⟨b1, 0, none⟩)), (8, .pointer (some ⟨b4, 0, none⟩)), (9, .pointer (some ⟨b8, 0, none⟩)), (13, .pointer (some ⟨b19, 0, none⟩)), (39, .pointer (some ⟨b1, 1, none⟩))] rfl ⟨rfl, rfl, rfl, rfl, rfl, trivial⟩ ?_
    refine WO_loadB tbok 0 rfl rfl rfl rfl (fun _ h => h) rfl rfl ?_
    refine WO_pure tbok 1 [(4, .pointer (some ⟨b1, 0, none⟩)), (8, .pointer (some ⟨b4, 0, none⟩)), (9, .pointer (some ⟨b8, 0, none⟩)), (13, .pointer (some ⟨b19, 0, none⟩)), (40, .int .i64 p0_1), (41, .int .i64 0)] rfl ⟨rfl, rfl, rfl, rfl, rfl, rfl, trivial⟩ ?_
    refine WO_end ?_
    obtain ⟨x24, hx25, hm⟩ := bind_some hm
    refine WK_join (β := (List Int × List Bool) × (List Ent × List Ent)) (fun p => p.1 = x24 ∧ OwnE 3 1 (I1 .i64) (.slice a5 ((l_1).length) c6) p.1.1 p.2.1 ∧ OwnE 4 1 B1 (.slice (some ⟨b15, 0, none⟩) ((List.replicate (w64 (p0_0 * p0_1)).toNat false).length) c16) p.1.2 p.2.2) (fun p => [(8, .pointer (some ⟨b4, 0, none⟩)), (9, .pointer (some ⟨b8, 0, none⟩))]) (fun p => St w0 m m [[⟨b1, 24, [.int .i64 p0_0, .int .i64 p0_1, .int .i64 p0_2, .slice a_p0_3 p0_3.length c_p0_3]⟩], [⟨b2, 3, [.int .i64 p1]⟩], [⟨b3, 3, [.int .i64 p2]⟩], [⟨b4, 24, [.int .i64 0, .int .i64 0, .int .i64 0, .slice none 0 0]⟩], [⟨b8, 24, [.int .i64 s_2, .int .i64 s_3, .int .i64 s_4, .slice a5 ((l_1).length) c6]⟩], p.2.1, [⟨b12, 3, [.int .i64 y_5]⟩], [⟨b13, 3, [.int .i64 y_6]⟩], p.2.2, [⟨b18, 48, [.slice (some ⟨b15, 0, none⟩) ((List.replicate (w64 (p0_0 * p0_1)).toNat false).length) c16]⟩], [⟨b19, 49, [.func (.func 23) #[] #[.pointer (some ⟨b18, 0, none⟩), .pointer (some ⟨b1, 0, none⟩), .pointer (some ⟨b8, 0, none⟩), .pointer (some ⟨b12, 0, none⟩), .pointer (some ⟨b13, 0, none⟩), .pointer (some ⟨b19, 0, none⟩), .pointer (some ⟨b2, 0, none⟩), .pointer (some ⟨b3, 0, none⟩)]]⟩]]) ?_ (fun hk26 => ?_)
    · rintro ⟨⟨l_10, l_11⟩, ⟨L22, L23⟩⟩ ⟨hq32, hL22, hL23⟩
      subst hq32
      refine WK.sub (e' := [(8, .pointer (some ⟨b4, 0, none⟩)), (9, .pointer (some ⟨b8, 0, none⟩))]) ⟨rfl, rfl, trivial⟩ (WK.cls (C' := St w0 m m [[⟨b1, 24, [.int .i64 p0_0, .int .i64 p0_1, .int .i64 p0_2, .slice a_p0_3 p0_3.length c_p0_3]⟩], [⟨b2, 3, [.int .i64 p1]⟩], [⟨b3, 3, [.int .i64 p2]⟩], [⟨b4, 24, [.int .i64 0, .int .i64 0, .int .i64 0, .slice none 0 0]⟩], [⟨b8, 24, [.int .i64 s_2, .int .i64 s_3, .int .i64 s_4, .slice a5 ((l_1).length) c6]⟩], L22, [⟨b12, 3, [.int .i64 y_5]⟩], [⟨b13, 3, [.int .i64 y_6]⟩], L23, [⟨b18, 48, [.slice (some ⟨b15, 0, none⟩) ((List.replicate (w64 (p0_0 * p0_1)).toNat false).length) c16]⟩], [⟨b19, 49, [.func (.func 23) #[] #[.pointer (some ⟨b18, 0, none⟩), .pointer (some ⟨b1, 0, none⟩), .pointer (some ⟨b8, 0, none⟩), .pointer (some ⟨b12, 0, none⟩), .pointer (some ⟨b13, 0, none⟩), .pointer (some ⟨b19, 0, none⟩), .pointer (some ⟨b2, 0, none⟩), .pointer (some ⟨b3, 0, none⟩)]]⟩]]) (fun _ h => h) ?_)
      refine WK_seq ?_
      refine WK_region ?_
      refine WO_loadB tbok 4 rfl rfl rfl rfl (fun _ h => h) rfl rfl ?_
      refine WO_storeB tbok 3 [.int .i64 s_2, .int .i64 s_3, .int .i64 s_4, .slice a5 ((l_1).length) c6] rfl rfl rfl rfl rfl rfl rfl ?_
      refine WO.cls (C' := St w0 m m [[⟨b1, 24, [.int .i64 p0_0, .int .i64 p0_1, .int .i64 p0_2, .slice a_p0_3 p0_3.length c_p0_3]⟩], [⟨b2, 3, [.int .i64 p1]⟩], [⟨b3, 3, [.int .i64 p2]⟩], [⟨b4, 24, [.int .i64 s_2, .int .i64 s_3, .int .i64 s_4, .slice a5 ((l_1).length) c6]⟩], [⟨b8, 24, [.int .i64 s_2, .int .i64 s_3, .int .i64 s_4, .slice a5 ((l_1).length) c6]⟩], L22, [⟨b12, 3, [.int .i64 y_5]⟩], [⟨b13, 3, [.int .i64 y_6]⟩], L23, [⟨b18, 48, [.slice (some ⟨b15, 0, none⟩) ((List.replicate (w64 (p0_0 * p0_1)).toNat false).length) c16]⟩], [⟨b19, 49, [.func (.func 23) #[] #[.pointer (some ⟨b18, 0, none⟩), .pointer (some ⟨b1, 0, none⟩), .pointer (some ⟨b8, 0, none⟩), .pointer (some ⟨b12, 0, none⟩), .pointer (some ⟨b13, 0, none⟩), .pointer (some ⟨b19, 0, none⟩), .pointer (some ⟨b2, 0, none⟩), .pointer (some ⟨b3, 0, none⟩)]]⟩]]) (fun _ h => h) ?_
      refine WO_end ?_
      cases hm
      exact WK_ret (ret_out (L := L22) (RLc_cell tbok 3 rfl rfl rfl RLc_nil) (seg_sub 5 rfl) ⟨a5, _, c6, rfl, hL22⟩)
    · refine WK_block ?_
      refine WK_loop (S := List Int × List Bool × Int) (G := List Ent × List Ent) (fun s => fiduciallaw45_path_s1 p0_0 p0_1 p0_2 p0_3 p1 p2 s_2 s_3 s_4 y_5 y_6 s.1 s.2.1 s.2.2) (fun s g => [(4, .pointer (some ⟨b1, 0, none⟩)), (8, .pointer (some ⟨b4, 0, none⟩)), (9, .pointer (some ⟨b8, 0, none⟩)), (13, .pointer (some ⟨b19, 0, none⟩)), (40, .int .i64 p0_1), (41, .int .i64 s.2.2)]) (fun s g => St w0 m m [[⟨b1, 24, [.int .i64 p0_0, .int .i64 p0_1, .int .i64 p0_2, .slice a_p0_3 p0_3.length c_p0_3]⟩], [⟨b2, 3, [.int .i64 p1]⟩], [⟨b3, 3, [.int .i64 p2]⟩], [⟨b4, 24, [.int .i64 0, .int .i64 0, .int .i64 0, .slice none 0 0]⟩], [⟨b8, 24, [.int .i64 s_2, .int .i64 s_3, .int .i64 s_4, .slice a5 ((l_1).length) c6]⟩], g.1, [⟨b12, 3, [.int .i64 y_5]⟩], [⟨b13, 3, [.int .i64 y_6]⟩], g.2, [⟨b18, 48, [.slice (some ⟨b15, 0, none⟩) ((List.replicate (w64 (p0_0 * p0_1)).toNat false).length) c16]⟩], [⟨b19, 49, [.func (.func 23) #[] #[.pointer (some ⟨b18, 0, none⟩), .pointer (some ⟨b1, 0, none⟩), .pointer (some ⟨b8, 0, none⟩), .pointer (some ⟨b12, 0, none⟩), .pointer (some ⟨b13, 0, none⟩), .pointer (some ⟨b19, 0, none⟩), .pointer (some ⟨b2, 0, none⟩), .pointer (some ⟨b3, 0, none⟩)]]⟩]]) (fun s g => OwnE 3 1 (I1 .i64) (.slice a5 ((l_1).length) c6) s.1 g.1 ∧ OwnE 4 1 B1 (.slice (some ⟨b15, 0, none⟩) ((List.replicate (w64 (p0_0 * p0_1)).toNat false).length) c16) s.2.1 g.2) FUEL (l_1, (List.replicate (w64 (p0_0 * p0_1)).toNat false), 0) (L7, L17) x24 hx25 ⟨hL7, hL17⟩ ⟨rfl, rfl, rfl, rfl, rfl, rfl, trivial⟩ (fun _ h => h) ?_
      rintro ⟨l_7, l_8, s_9⟩ ⟨L20, L21⟩ o28 fl29 hm27 ⟨hL20, hL21⟩ hn30 hd31
      have hm27 : fiduciallaw45_path_s1 p0_0 p0_1 p0_2 p0_3 p1 p2 s_2 s_3 s_4 y_5 y_6 l_7 l_8 s_9 = some o28 := hm27
      unfold fiduciallaw45_path_s1 at hm27
      refine WK.sub (e' := [(4, .pointer (some ⟨b1, 0, none⟩)), (8, .pointer (some ⟨b4, 0, none⟩)), (9, .pointer (some ⟨b8, 0, none⟩)), (13, .pointer (some ⟨b19, 0, none⟩)), (40, .int .i64 p0_1), (41, .int .i64 s_9)]) ⟨rfl, rfl, rfl, rfl, rfl, rfl, trivial⟩ (WK.cls (C' := St w0 m m [[⟨b1, 24, [.int .i64 p0_0, .int .i64 p0_1, .int .i64 p0_2, .slice a_p0_3 p0_3.length c_p0_3]⟩], [⟨b2, 3, [.int .i64 p1]⟩], [⟨b3, 3, [.int .i64 p2]⟩], [⟨b4, 24, [.int .i64 0, .int .i64 0, .int .i64 0, .slice none 0 0]⟩], [⟨b8, 24, [.int .i64 s_2, .int .i64 s_3, .int .i64 s_4, .slice a5 ((l_1).length) c6]⟩], L20, [⟨b12, 3, [.int .i64 y_5]⟩], [⟨b13, 3, [.int .i64 y_6]⟩], L21, [⟨b18, 48, [.slice (some ⟨b15, 0, none⟩) ((List.replicate (w64 (p0_0 * p0_1)).toNat false).length) c16]⟩], [⟨b19, 49, [.func (.func 23) #[] #[.pointer (some ⟨b18, 0, none⟩), .pointer (some ⟨b1, 0, none⟩), .pointer (some ⟨b8, 0, none⟩), .pointer (some ⟨b12, 0, none⟩), .pointer (some ⟨b13, 0, none⟩), .pointer (some ⟨b19, 0, none⟩), .pointer (some ⟨b2, 0, none⟩), .pointer (some ⟨b3, 0, none⟩)]]⟩]]) (fun _ h => h) ?_)
      refine WK_seq ?_
      refine WK_region ?_
      refine WO_pure tbok 1 [(4, .pointer (some ⟨b1, 0, none⟩)), (8, .pointer (some ⟨b4, 0, none⟩)), (9, .pointer (some ⟨b8, 0, none⟩)), (13, .pointer (some ⟨b19, 0, none⟩)), (40, .int .i64 p0_1), (41, .int .i64 s_9), (42, .bool (decide (s_9 < p0_1)))] rfl ⟨rfl, rfl, rfl, rfl, rfl, rfl, rfl, trivial⟩ ?_
      refine WO_end ?_
      refine WK_seq ?_
      refine WK_cond (b := decide (s_9 < p0_1)) rfl (fun hb33 => ?_) (fun hb33 => ?_)
      · have hm27 := ifT hb33 hm27
        refine WK_skip ?_
        refine WK_seq ?_
        refine WK_block ?_
        refine WK_seq ?_
        refine WK_region ?_
        refine WO_pure tbok 2 [(4, .pointer (some ⟨b1, 0, none⟩)), (8, .pointer (some ⟨b4, 0, none⟩)), (9, .pointer (some ⟨b8, 0, none⟩)), (13, .pointer (some ⟨b19, 0, none⟩)), (14, .int .i64 s_9), (40, .int .i64 p0_1), (41, .int .i64 s_9)] rfl ⟨rfl, rfl, rfl, rfl, rfl, rfl, rfl, trivial⟩ ?_
        refine WO_end ?_
        refine WK_seq ?_
        refine WK_region ?_
        refine WO_pure tbok 1 [(4, .pointer (some ⟨b1, 0, none⟩)), (8, .pointer (some ⟨b4, 0, none⟩)), (9, .pointer (some ⟨b8, 0, none⟩)), (13, .pointer (some ⟨b19, 0, none⟩)), (14, .int .i64 s_9), (40, .int .i64 p0_1), (41, .int .i64 s_9), (44, .pointer (some ⟨b1, 0, none⟩))] rfl ⟨rfl, rfl, rfl, rfl, rfl, rfl, rfl, rfl, trivial⟩ ?_
        refine WO_loadB tbok 0 rfl rfl rfl rfl (fun _ h => h) rfl rfl ?_
        refine WO_pure tbok 1 [(4, .pointer (some ⟨b1, 0, none⟩)), (8, .pointer (some ⟨b4, 0, none⟩)), (9, .pointer (some ⟨b8, 0, none⟩)), (13, .pointer (some ⟨b19, 0, none⟩)), (14, .int .i64 s_9), (40, .int .i64 p0_1), (41, .int .i64 s_9), (45, .int .i64 p0_0), (46, .int .i64 0)] rfl ⟨rfl, rfl, rfl, rfl, rfl, rfl, rfl, rfl, rfl, trivial⟩ ?_
        refine WO_end ?_
        obtain ⟨x38, hx39, hm27⟩ := bind_some hm27
        refine WK_join (β := (List Int × List Bool) × (List Ent × List Ent)) (fun p => p.1 = x38 ∧ OwnE 3 1 (I1 .i64) (.slice a5 ((l_1).length) c6) p.1.1 p.2.1 ∧ OwnE 4 1 B1 (.slice (some ⟨b15, 0, none⟩) ((List.replicate (w64 (p0_0 * p0_1)).toNat false).length) c16) p.1.2 p.2.2) (fun p => [(4, .pointer (some ⟨b1, 0, none⟩)), (8, .pointer (some ⟨b4, 0, none⟩)), (9, .pointer (some ⟨b8, 0, none⟩)), (13, .pointer (some ⟨b19, 0, none⟩)), (40, .int .i64 p0_1), (41, .int .i64 s_9)]) (fun p => St w0 m m [[⟨b1, 24, [.int .i64 p0_0, .int .i64 p0_1, .int .i64 p0_2, .slice a_p0_3 p0_3.length c_p0_3]⟩], [⟨b2, 3, [.int .i64 p1]⟩], [⟨b3, 3, [.int .i64 p2]⟩], [⟨b4, 24, [.int .i64 0, .int .i64 0, .int .i64 0, .slice none 0 0]⟩], [⟨b8, 24, [.int .i64 s_2, .int .i64 s_3, .int .i64 s_4, .slice a5 ((l_1).length) c6]⟩], p.2.1, [⟨b12, 3, [.int .i64 y_5]⟩], [⟨b13, 3, [.int .i64 y_6]⟩], p.2.2, [⟨b18, 48, [.slice (some ⟨b15, 0, none⟩) ((List.replicate (w64 (p0_0 * p0_1)).toNat false).length) c16]⟩], [⟨b19, 49, [.func (.func 23) #[] #[.pointer (some ⟨b18, 0, none⟩), .pointer (some ⟨b1, 0, none⟩), .pointer (some ⟨b8, 0, none⟩), .pointer (some ⟨b12, 0, none⟩), .pointer (some ⟨b13, 0, none⟩), .pointer (some ⟨b19, 0, none⟩), .pointer (some ⟨b2, 0, none⟩), .pointer (some ⟨b3, 0, none⟩)]]⟩]]) ?_ (fun hk40 => ?_)
        · rintro ⟨⟨l_15, l_16⟩, ⟨L36, L37⟩⟩ ⟨hq46, hL36, hL37⟩
          subst hq46
          refine WK.sub (e' := [(4, .pointer (some ⟨b1, 0, none⟩)), (8, .pointer (some ⟨b4, 0, none⟩)), (9, .pointer (some ⟨b8, 0, none⟩)), (13, .pointer (some ⟨b19, 0, none⟩)), (40, .int .i64 p0_1), (41, .int .i64 s_9)]) ⟨rfl, rfl, rfl, rfl, rfl, rfl, trivial⟩ (WK.cls (C' := St w0 m m [[⟨b1, 24, [.int .i64 p0_0, .int .i64 p0_1, .int .i64 p0_2, .slice a_p0_3 p0_3.length c_p0_3]⟩], [⟨b2, 3, [.int .i64 p1]⟩], [⟨b3, 3, [.int .i64 p2]⟩], [⟨b4, 24, [.int .i64 0, .int .i64 0, .int .i64 0, .slice none 0 0]⟩], [⟨b8, 24, [.int .i64 s_2, .int .i64 s_3, .int .i64 s_4, .slice a5 ((l_1).length) c6]⟩], L36, [⟨b12, 3, [.int .i64 y_5]⟩], [⟨b13, 3, [.int .i64 y_6]⟩], L37, [⟨b18, 48, [.slice (some ⟨b15, 0, none⟩) ((List.replicate (w64 (p0_0 * p0_1)).toNat false).length) c16]⟩], [⟨b19, 49, [.func (.func 23) #[] #[.pointer (some ⟨b18, 0, none⟩), .pointer (some ⟨b1, 0, none⟩), .pointer (some ⟨b8, 0, none⟩), .pointer (some ⟨b12, 0, none⟩), .pointer (some ⟨b13, 0, none⟩), .pointer (some ⟨b19, 0, none⟩), .pointer (some ⟨b2, 0, none⟩), .pointer (some ⟨b3, 0, none⟩)]]⟩]]) (fun _ h => h) ?_)
          refine WK_blk ?_
          refine WK_region ?_
          refine WO_pure tbok 2 [(4, .pointer (some ⟨b1, 0, none⟩)), (8, .pointer (some ⟨b4, 0, none⟩)), (9, .pointer (some ⟨b8, 0, none⟩)), (13, .pointer (some ⟨b19, 0, none⟩)), (40, .int .i64 p0_1), (41, .int .i64 (w64 (s_9 + 1)))] rfl ⟨rfl, rfl, rfl, rfl, rfl, rfl, trivial⟩ ?_
          refine WO_end ?_
          cases hm27
          refine WK.sub ?_ (WK.cls (fun _ h => h) (hn30 _ (L36, L37) rfl ⟨hL36, hL37⟩))
          exact ⟨rfl, rfl, rfl, rfl, rfl, rfl, trivial⟩
        · refine WK_block ?_
          refine WK_loop (S := List Int × List Bool × Int) (G := List Ent × List Ent) (fun s => fiduciallaw45_path_s2 p0_0 p0_1 p0_2 p0_3 p1 p2 s_2 s_3 s_4 y_5 y_6 s_9 s.1 s.2.1 s.2.2) (fun s g => [(4, .pointer (some ⟨b1, 0, none⟩)), (8, .pointer (some ⟨b4, 0, none⟩)), (9, .pointer (some ⟨b8, 0, none⟩)), (13, .pointer (some ⟨b19, 0, none⟩)), (14, .int .i64 s_9), (40, .int .i64 p0_1), (41, .int .i64 s_9), (45, .int .i64 p0_0), (46, .int .i64 s.2.2)]) (fun s g => St w0 m m [[⟨b1, 24, [.int .i64 p0_0, .int .i64 p0_1, .int .i64 p0_2, .slice a_p0_3 p0_3.length c_p0_3]⟩], [⟨b2, 3, [.int .i64 p1]⟩], [⟨b3, 3, [.int .i64 p2]⟩], [⟨b4, 24, [.int .i64 0, .int .i64 0, .int .i64 0, .slice none 0 0]⟩], [⟨b8, 24, [.int .i64 s_2, .int .i64 s_3, .int .i64 s_4, .slice a5 ((l_1).length) c6]⟩], g.1, [⟨b12, 3, [.int .i64 y_5]⟩], [⟨b13, 3, [.int .i64 y_6]⟩], g.2, [⟨b18, 48, [.slice (some ⟨b15, 0, none⟩) ((List.replicate (w64 (p0_0 * p0_1)).toNat false).length) c16]⟩], [⟨b19, 49, [.func (.func 23) #[] #[.pointer (some ⟨b18, 0, none⟩), .pointer (some ⟨b1, 0, none⟩), .pointer (some ⟨b8, 0, none⟩), .pointer (some ⟨b12, 0, none⟩), .pointer (some ⟨b13, 0, none⟩), .pointer (some ⟨b19, 0, none⟩), .pointer (some ⟨b2, 0, none⟩), .pointer (some ⟨b3, 0, none⟩)]]⟩]]) (fun s g => OwnE 3 1 (I1 .i64) (.slice a5 ((l_1).length) c6) s.1 g.1 ∧ OwnE 4 1 B1 (.slice (some ⟨b15, 0, none⟩) ((List.replicate (w64 (p0_0 * p0_1)).toNat false).length) c16) s.2.1 g.2) FUEL (l_7, l_8, 0) (L20, L21) x38 hx39 ⟨hL20, hL21⟩ ⟨rfl, rfl, rfl, rfl, rfl, rfl, rfl, rfl, rfl, trivial⟩ (fun _ h => h) ?_
          rintro ⟨l_12, l_13, s_14⟩ ⟨L34, L35⟩ o42 fl43 hm41 ⟨hL34, hL35⟩ hn44 hd45
          have hm41 : fiduciallaw45_path_s2 p0_0 p0_1 p0_2 p0_3 p1 p2 s_2 s_3 s_4 y_5 y_6 s_9 l_12 l_13 s_14 = some o42 := hm41
          unfold fiduciallaw45_path_s2 at hm41
          refine WK.sub (e' := [(4, .pointer (some ⟨b1, 0, none⟩)), (8, .pointer (some ⟨b4, 0, none⟩)), (9, .pointer (some ⟨b8, 0, none⟩)), (13, .pointer (some ⟨b19, 0, none⟩)), (14, .int .i64 s_9), (40, .int .i64 p0_1), (41, .int .i64 s_9), (45, .int .i64 p0_0), (46, .int .i64 s_14)]) ⟨rfl, rfl, rfl, rfl, rfl, rfl, rfl, rfl, rfl, trivial⟩ (WK.cls (C' := St w0 m m [[⟨b1, 24, [.int .i64 p0_0, .int .i64 p0_1, .int .i64 p0_2, .slice a_p0_3 p0_3.length c_p0_3]⟩], [⟨b2, 3, [.int .i64 p1]⟩], [⟨b3, 3, [.int .i64 p2]⟩], [⟨b4, 24, [.int .i64 0, .int .i64 0, .int .i64 0, .slice none 0 0]⟩], [⟨b8, 24, [.int .i64 s_2, .int .i64 s_3, .int .i64 s_4, .slice a5 ((l_1).length) c6]⟩], L34, [⟨b12, 3, [.int .i64 y_5]⟩], [⟨b13, 3, [.int .i64 y_6]⟩], L35, [⟨b18, 48, [.slice (some ⟨b15, 0, none⟩) ((List.replicate (w64 (p0_0 * p0_1)).toNat false).length) c16]⟩], [⟨b19, 49, [.func (.func 23) #[] #[.pointer (some ⟨b18, 0, none⟩), .pointer (some ⟨b1, 0, none⟩), .pointer (some ⟨b8, 0, none⟩), .pointer (some ⟨b12, 0, none⟩), .pointer (some ⟨b13, 0, none⟩), .pointer (some ⟨b19, 0, none⟩), .pointer (some ⟨b2, 0, none⟩), .pointer (some ⟨b3, 0, none⟩)]]⟩]]) (fun _ h => h) ?_)
          refine WK_seq ?_
          refine WK_region ?_
          refine WO_pure tbok 1 [(4, .pointer (some ⟨b1, 0, none⟩)), (8, .pointer (some ⟨b4, 0, none⟩)), (9, .pointer (some ⟨b8, 0, none⟩)), (13, .pointer (some ⟨b19, 0, none⟩)), (14, .int .i64 s_9), (40, .int .i64 p0_1), (41, .int .i64 s_9), (45, .int .i64 p0_0), (46, .int .i64 s_14), (47, .bool (decide (s_14 < p0_0)))] rfl ⟨rfl, rfl, rfl, rfl, rfl, rfl, rfl, rfl, rfl, rfl, trivial⟩ ?_
          refine WO_end ?_
          refine WK_seq ?_
          refine WK_cond (b := decide (s_14 < p0_0)) rfl (fun hb47 => ?_) (fun hb47 => ?_)
          · have hm41 := ifT hb47 hm41
            refine WK_skip ?_
            refine WK_seq ?_
            refine WK_block ?_
            refine WK_seq ?_
            refine WK_region ?_
            refine WO_pure tbok 2 [(4, .pointer (some ⟨b1, 0, none⟩)), (8, .pointer (some ⟨b4, 0, none⟩)), (9, .pointer (some ⟨b8, 0, none⟩)), (13, .pointer (some ⟨b19, 0, none⟩)), (14, .int .i64 s_9), (15, .int .i64 s_14), (40, .int .i64 p0_1), (41, .int .i64 s_9), (45, .int .i64 p0_0), (46, .int .i64 s_14)] rfl ⟨rfl, rfl, rfl, rfl, rfl, rfl, rfl, rfl, rfl, rfl, trivial⟩ ?_
            refine WO_end ?_
            refine WK_region ?_
            refine WO_loadB tbok 10 rfl rfl rfl rfl (fun _ h => h) rfl rfl ?_
            refine WO_pure tbok 2 [(4, .pointer (some ⟨b1, 0, none⟩)), (8, .pointer (some ⟨b4, 0, none⟩)), (9, .pointer (some ⟨b8, 0, none⟩)), (13, .pointer (some ⟨b19, 0, none⟩)), (14, .int .i64 s_9), (40, .int .i64 p0_1), (41, .int .i64 s_9), (45, .int .i64 p0_0), (46, .int .i64 s_14), (49, .func (.func 23) #[] #[.pointer (some ⟨b18, 0, none⟩), .pointer (some ⟨b1, 0, none⟩), .pointer (some ⟨b8, 0, none⟩), .pointer (some ⟨b12, 0, none⟩), .pointer (some ⟨b13, 0, none⟩), .pointer (some ⟨b19, 0, none⟩), .pointer (some ⟨b2, 0, none⟩), .pointer (some ⟨b3, 0, none⟩)]), (50, .int .i64 s_14), (51, .int .i64 s_9)] rfl ⟨rfl, rfl, rfl, rfl, rfl, rfl, rfl, rfl, rfl, rfl, rfl, rfl, trivial⟩ ?_
            obtain ⟨⟨y_17, y_18⟩, hc48, hm41⟩ := bind_some hm41
            refine WO_callS (G := List Ent × List Ent) (fun _ => .tuple #[]) (fun g => OwnE 3 1 (I1 .i64) (.slice a5 ((l_1).length) c6) y_17 g.1 ∧ OwnE 4 1 B1 (.slice (some ⟨b15, 0, none⟩) ((List.replicate (w64 (p0_0 * p0_1)).toNat false).length) c16) y_18 g.2) (fun g => St w0 m m [[⟨b1, 24, [.int .i64 p0_0, .int .i64 p0_1, .int .i64 p0_2, .slice a_p0_3 p0_3.length c_p0_3]⟩], [⟨b2, 3, [.int .i64 p1]⟩], [⟨b3, 3, [.int .i64 p2]⟩], [⟨b4, 24, [.int .i64 0, .int .i64 0, .int .i64 0, .slice none 0 0]⟩], [⟨b8, 24, [.int .i64 s_2, .int .i64 s_3, .int .i64 s_4, .slice a5 ((l_1).length) c6]⟩], g.1, [⟨b12, 3, [.int .i64 y_5]⟩], [⟨b13, 3, [.int .i64 y_6]⟩], g.2, [⟨b18, 48, [.slice (some ⟨b15, 0, none⟩) ((List.replicate (w64 (p0_0 * p0_1)).toNat false).length) c16]⟩], [⟨b19, 49, [.func (.func 23) #[] #[.pointer (some ⟨b18, 0, none⟩), .pointer (some ⟨b1, 0, none⟩), .pointer (some ⟨b8, 0, none⟩), .pointer (some ⟨b12, 0, none⟩), .pointer (some ⟨b13, 0, none⟩), .pointer (some ⟨b19, 0, none⟩), .pointer (some ⟨b2, 0, none⟩), .pointer (some ⟨b3, 0, none⟩)]]⟩]]) rfl rfl rfl rfl rfl rfl callable_23 (fiduciallaw45_path_c1_walk FUEL (Le.refl _) hL34 hL35 h_p0_3 hc48) ?_
            rintro ⟨L49, L50⟩ ⟨hL49, hL50⟩
            refine WO.cls (C' := St w0 m m [[⟨b1, 24, [.int .i64 p0_0, .int .i64 p0_1, .int .i64 p0_2, .slice a_p0_3 p0_3.length c_p0_3]⟩], [⟨b2, 3, [.int .i64 p1]⟩], [⟨b3, 3, [.int .i64 p2]⟩], [⟨b4, 24, [.int .i64 0, .int .i64 0, .int .i64 0, .slice none 0 0]⟩], [⟨b8, 24, [.int .i64 s_2, .int .i64 s_3, .int .i64 s_4, .slice a5 ((l_1).length) c6]⟩], L49, [⟨b12, 3, [.int .i64 y_5]⟩], [⟨b13, 3, [.int .i64 y_6]⟩], L50, [⟨b18, 48, [.slice (some ⟨b15, 0, none⟩) ((List.replicate (w64 (p0_0 * p0_1)).toNat false).length) c16]⟩], [⟨b19, 49, [.func (.func 23) #[] #[.pointer (some ⟨b18, 0, none⟩), .pointer (some ⟨b1, 0, none⟩), .pointer (some ⟨b8, 0, none⟩), .pointer (some ⟨b12, 0, none⟩), .pointer (some ⟨b13, 0, none⟩), .pointer (some ⟨b19, 0, none⟩), .pointer (some ⟨b2, 0, none⟩), .pointer (some ⟨b3, 0, none⟩)]]⟩]]) (fun _ h => h) ?_
            refine WO_end ?_
            refine WK_blk ?_
            refine WK_region ?_
            refine WO_pure tbok 2 [(4, .pointer (some ⟨b1, 0, none⟩)), (8, .pointer (some ⟨b4, 0, none⟩)), (9, .pointer (some ⟨b8, 0, none⟩)), (13, .pointer (some ⟨b19, 0, none⟩)), (14, .int .i64 s_9), (40, .int .i64 p0_1), (41, .int .i64 s_9), (45, .int .i64 p0_0), (46, .int .i64 (w64 (s_14 + 1)))] rfl ⟨rfl, rfl, rfl, rfl, rfl, rfl, rfl, rfl, rfl, trivial⟩ ?_
            refine WO_end ?_
            cases hm41
            refine WK.sub ?_ (WK.cls (fun _ h => h) (hn44 _ (L49, L50) rfl ⟨hL49, hL50⟩))
            exact ⟨rfl, rfl, rfl, rfl, rfl, rfl, rfl, rfl, rfl, trivial⟩
          · have hm41 := ifF hb47 hm41
            refine WK_exit rfl ?_
            cases hm41
            refine WK.sub ?_ (WK.cls (fun _ h => h) (hk40 ((l_12, l_13), (L34, L35)) ⟨(hd45 _ rfl), hL34, hL35⟩))
            exact ⟨rfl, rfl, rfl, rfl, rfl, rfl, trivial⟩
      · have hm27 := ifF hb33 hm27
        refine WK_exit rfl ?_
        cases hm27
        refine WK.sub ?_ (WK.cls (fun _ h => h) (hk26 ((l_7, l_8), (L20, L21)) ⟨(hd31 _ rfl), hL20, hL21⟩))
        exact ⟨rfl, rfl, trivial⟩
  · refine WK_plan 12 [0, 2, 4, 6] (.run [1, 3, 5, 7, 8] (.alt 9 (.run [10, 11] .fin) (.alt 11 (.run [9, 10] .fin) .none))) follows_ok (by kernel_rfl) St_closed ?_
    refine WO_pure tbok 4 [(3, .int .i64 p3), (4, .pointer (some ⟨b1, 0, none⟩)), (5, .pointer (some ⟨b2, 0, none⟩)), (6, .pointer (some ⟨b3, 0, none⟩)), (8, .pointer (some ⟨b4, 0, none⟩)), (16, .pointer (some ⟨b1, 0, none⟩)), (18, .pointer (some ⟨b1, 1, none⟩)), (20, .pointer (some ⟨b1, 2, none⟩)), (22, .pointer (some ⟨b1, 3, none⟩))] rfl ⟨rfl, rfl, rfl, rfl, rfl, rfl, rfl, rfl, rfl, trivial⟩ ?_
    refine WO_plan ?_
    refine WT_run ?_
    refine WO_loadB tbok 0 rfl rfl rfl rfl (fun _ h => h) rfl rfl ?_
    refine WO_loadB tbok 0 rfl rfl rfl rfl (fun _ h => h) rfl rfl ?_
    refine WO_loadB tbok 0 rfl rfl rfl rfl (fun _ h => h) rfl rfl ?_
    refine WO_loadB tbok 0 rfl rfl rfl rfl (fun _ h => h) rfl rfl ?_
    refine WO_pure tbok 1 [(3, .int .i64 p3), (4, .pointer (some ⟨b1, 0, none⟩)), (5, .pointer (some ⟨b2, 0, none⟩)), (6, .pointer (some ⟨b3, 0, none⟩)), (8, .pointer (some ⟨b4, 0, none⟩)), (17, .int .i64 p0_0), (19, .int .i64 p0_1), (21, .int .i64 p0_2), (24, .int .i64 (p0_3.length : Int))] rfl ⟨rfl, rfl, rfl, rfl, rfl, rfl, rfl, rfl, rfl, trivial⟩ ?_
    refine WO_tree rfl ?_
    refine WT_alt rfl ?_ ?_
    · obtain ⟨hc51, hx9⟩ := chk_some hx9
      refine WO_make (E := (I1 .i64)) tbok (fun _ => rfl) (by decide) (0 : Int) rfl rfl St_closed rfl rfl rfl rfl rfl rfl rfl rfl rfl (mk_ok (by decide) hc51) (fun b52 c53 L54 hL54 => ?_)
      refine WO.cls (C' := St w0 m m [[⟨b1, 24, [.int .i64 p0_0, .int .i64 p0_1, .int .i64 p0_2, .slice a_p0_3 p0_3.length c_p0_3]⟩], [⟨b2, 3, [.int .i64 p1]⟩], [⟨b3, 3, [.int .i64 p2]⟩], [⟨b4, 24, [.int .i64 0, .int .i64 0, .int .i64 0, .slice none 0 0]⟩], L54]) (fun _ h => h) ?_
      refine WO_tree rfl ?_
      refine WT_run ?_
      refine WO_pure tbok 1 [(3, .int .i64 p3), (4, .pointer (some ⟨b1, 0, none⟩)), (5, .pointer (some ⟨b2, 0, none⟩)), (6, .pointer (some ⟨b3, 0, none⟩)), (8, .pointer (some ⟨b4, 0, none⟩)), (26, .agg #[.int .i64 p0_0, .int .i64 p0_1, .int .i64 p0_2, .slice (some ⟨b52, 0, none⟩) ((List.replicate (p0_3.length : Int).toNat (0 : Int)).length) c53])] rfl ⟨rfl, rfl, rfl, rfl, rfl, rfl, trivial⟩ ?_
      refine WO_alloc tbok [.int .i64 0, .int .i64 0, .int .i64 0, .slice none 0 0] rfl rfl St_closed rfl rfl rfl rfl (fun b55 => ?_)
      refine WO.cls (C' := St w0 m m [[⟨b1, 24, [.int .i64 p0_0, .int .i64 p0_1, .int .i64 p0_2, .slice a_p0_3 p0_3.length c_p0_3]⟩], [⟨b2, 3, [.int .i64 p1]⟩], [⟨b3, 3, [.int .i64 p2]⟩], [⟨b4, 24, [.int .i64 0, .int .i64 0, .int .i64 0, .slice none 0 0]⟩], L54, [⟨b55, 24, [.int .i64 0, .int .i64 0, .int .i64 0, .slice none 0 0]⟩]]) (fun _ h => h) ?_
      refine WO_tree rfl ?_
      refine WT_fin ?_
      refine WO_storeB tbok 5 [.int .i64 p0_0, .int .i64 p0_1, .int .i64 p0_2, .slice (some ⟨b52, 0, none⟩) ((List.replicate (p0_3.length : Int).toNat (0 : Int)).length) c53] rfl rfl rfl rfl rfl rfl rfl ?_
      refine WO.cls (C' := St w0 m m [[⟨b1, 24, [.int .i64 p0_0, .int .i64 p0_1, .int .i64 p0_2, .slice a_p0_3 p0_3.length c_p0_3]⟩], [⟨b2, 3, [.int .i64 p1]⟩], [⟨b3, 3, [.int .i64 p2]⟩], [⟨b4, 24, [.int .i64 0, .int .i64 0, .int .i64 0, .slice none 0 0]⟩], L54, [⟨b55, 24, [.int .i64 p0_0, .int .i64 p0_1, .int .i64 p0_2, .slice (some ⟨b52, 0, none⟩) ((List.replicate (p0_3.length : Int).toNat (0 : Int)).length) c53]⟩]]) (fun _ h => h) ?_
      refine WO_end ?_
      refine WK.cls (fun _ h => h.perm (Ls' := [[⟨b1, 24, [.int .i64 p0_0, .int .i64 p0_1, .int .i64 p0_2, .slice a_p0_3 p0_3.length c_p0_3]⟩], [⟨b2, 3, [.int .i64 p1]⟩], [⟨b3, 3, [.int .i64 p2]⟩], [⟨b4, 24, [.int .i64 0, .int .i64 0, .int .i64 0, .slice none 0 0]⟩], [⟨b55, 24, [.int .i64 p0_0, .int .i64 p0_1, .int .i64 p0_2, .slice (some ⟨b52, 0, none⟩) ((List.replicate (p0_3.length : Int).toNat (0 : Int)).length) c53]⟩], L54]) (List.Perm.flatten (List.Perm.cons _ (List.Perm.cons _ (List.Perm.cons _ (List.Perm.cons _ (List.Perm.swap _ _ _))))))) ?_
      cases hx9
      refine WK.sub ?_ (hk10 ⟨some ⟨b52, 0, none⟩, c53, L54, b55⟩ hL54)
      exact ⟨rfl, rfl, rfl, rfl, rfl, rfl, trivial⟩
    · refine WT_alt rfl ?_ ?_
      · refine WO_alloc tbok [.int .i64 0, .int .i64 0, .int .i64 0, .slice none 0 0] rfl rfl St_closed rfl rfl rfl rfl (fun b56 => ?_)
        refine WO.cls (C' := St w0 m m [[⟨b1, 24, [.int .i64 p0_0, .int .i64 p0_1, .int .i64 p0_2, .slice a_p0_3 p0_3.length c_p0_3]⟩], [⟨b2, 3, [.int .i64 p1]⟩], [⟨b3, 3, [.int .i64 p2]⟩], [⟨b4, 24, [.int .i64 0, .int .i64 0, .int .i64 0, .slice none 0 0]⟩], [⟨b56, 24, [.int .i64 0, .int .i64 0, .int .i64 0, .slice none 0 0]⟩]]) (fun _ h => h) ?_
        refine WO_tree rfl ?_
        refine WT_run ?_
        obtain ⟨hc57, hx9⟩ := chk_some hx9
        refine WO_make (E := (I1 .i64)) tbok (fun _ => rfl) (by decide) (0 : Int) rfl rfl St_closed rfl rfl rfl rfl rfl rfl rfl rfl rfl (mk_ok (by decide) hc57) (fun b58 c59 L60 hL60 => ?_)
        refine WO.cls (C' := St w0 m m [[⟨b1, 24, [.int .i64 p0_0, .int .i64 p0_1, .int .i64 p0_2, .slice a_p0_3 p0_3.length c_p0_3]⟩], [⟨b2, 3, [.int .i64 p1]⟩], [⟨b3, 3, [.int .i64 p2]⟩], [⟨b4, 24, [.int .i64 0, .int .i64 0, .int .i64 0, .slice none 0 0]⟩], [⟨b56, 24, [.int .i64 0, .int .i64 0, .int .i64 0, .slice none 0 0]⟩], L60]) (fun _ h => h) ?_
        refine WO_pure tbok 1 [(3, .int .i64 p3), (4, .pointer (some ⟨b1, 0, none⟩)), (5, .pointer (some ⟨b2, 0, none⟩)), (6, .pointer (some ⟨b3, 0, none⟩)), (8, .pointer (some ⟨b4, 0, none⟩)), (9, .pointer (some ⟨b56, 0, none⟩)), (26, .agg #[.int .i64 p0_0, .int .i64 p0_1, .int .i64 p0_2, .slice (some ⟨b58, 0, none⟩) ((List.replicate (p0_3.length : Int).toNat (0 : Int)).length) c59])] rfl ⟨rfl, rfl, rfl, rfl, rfl, rfl, rfl, trivial⟩ ?_
        refine WO_tree rfl ?_
        refine WT_fin ?_
        refine WO_storeB tbok 4 [.int .i64 p0_0, .int .i64 p0_1, .int .i64 p0_2, .slice (some ⟨b58, 0, none⟩) ((List.replicate (p0_3.length : Int).toNat (0 : Int)).length) c59] rfl rfl rfl rfl rfl rfl rfl ?_
        refine WO.cls (C' := St w0 m m [[⟨b1, 24, [.int .i64 p0_0, .int .i64 p0_1, .int .i64 p0_2, .slice a_p0_3 p0_3.length c_p0_3]⟩], [⟨b2, 3, [.int .i64 p1]⟩], [⟨b3, 3, [.int .i64 p2]⟩], [⟨b4, 24, [.int .i64 0, .int .i64 0, .int .i64 0, .slice none 0 0]⟩], [⟨b56, 24, [.int .i64 p0_0, .int .i64 p0_1, .int .i64 p0_2, .slice (some ⟨b58, 0, none⟩) ((List.replicate (p0_3.length : Int).toNat (0 : Int)).length) c59]⟩], L60]) (fun _ h => h) ?_
        refine WO_end ?_
        cases hx9
        refine WK.sub ?_ (hk10 ⟨some ⟨b58, 0, none⟩, c59, L60, b56⟩ hL60)
        exact ⟨rfl, rfl, rfl, rfl, rfl, rfl, trivial⟩
      · exact WT_none
theorem fiduciallaw45_Same_walk {m : Mu} {p0_0 : Int} {p0_1 : Int} {p0_2 : Int} {p0_3 : List Int} {p1_0 : Int} {p1_1 : Int} {p1_2 : Int} {p1_3 : List Int} {a_p0_3 : Option Addr} {q_p0_3 c_p0_3 : Nat} {a_p1_3 : Option Addr} {q_p1_3 c_p1_3 : Nat} (h_p0_3 : SlR (FE (I1 .i64)) 1 m (.slice a_p0_3 q_p0_3 c_p0_3) p0_3) (h_p1_3 : SlR (FE (I1 .i64)) 1 m (.slice a_p1_3 q_p1_3 c_p1_3) p1_3) {r : Bool} (hm : fiduciallaw45_Same p0_0 p0_1 p0_2 p0_3 p1_0 p1_1 p1_2 p1_3 = some r) :
    Go.E.Spec Tryd.prog 10 [.agg #[.int .i64 p0_0, .int .i64 p0_1, .int .i64 p0_2, .slice a_p0_3 q_p0_3 c_p0_3], .agg #[.int .i64 p1_0, .int .i64 p1_1, .int .i64 p1_2, .slice a_p1_3 q_p1_3 c_p1_3]] m (fun v _ _ => v = .bool r) := by
  refine Spec_enter Tryd.func10 rfl rfl rfl (fun w0 => ?_)
  refine WK.sub (e' := [(0, .agg #[.int .i64 p0_0, .int .i64 p0_1, .int .i64 p0_2, .slice a_p0_3 q_p0_3 c_p0_3]), (1, .agg #[.int .i64 p1_0, .int .i64 p1_1, .int .i64 p1_2, .slice a_p1_3 q_p1_3 c_p1_3])]) ⟨rfl, rfl, trivial⟩ ?_
  obtain rfl := SlR.qlen h_p0_3
  obtain rfl := SlR.qlen h_p1_3
  refine WK.sub (e' := [(0, .agg #[.int .i64 p0_0, .int .i64 p0_1, .int .i64 p0_2, .slice a_p0_3 p0_3.length c_p0_3]), (1, .agg #[.int .i64 p1_0, .int .i64 p1_1, .int .i64 p1_2, .slice a_p1_3 p1_3.length c_p1_3])]) ⟨rfl, rfl, trivial⟩ ?_
  unfold fiduciallaw45_Same at hm
  refine WK_seq ?_
  refine WK_region ?_
  refine WO_box [.int .i64 p0_0, .int .i64 p0_1, .int .i64 p0_2, .slice a_p0_3 p0_3.length c_p0_3] rfl rfl trivial rfl rfl rfl (fun b1 => ?_)
  refine WO.cls (C' := St w0 m m [[⟨b1, 24, [.int .i64 p0_0, .int .i64 p0_1, .int .i64 p0_2, .slice a_p0_3 p0_3.length c_p0_3]⟩]]) (fun _ h => h) ?_
  refine WO_box [.int .i64 p1_0, .int .i64 p1_1, .int .i64 p1_2, .slice a_p1_3 p1_3.length c_p1_3] rfl rfl trivial rfl rfl rfl (fun b2 => ?_)
  refine WO.cls (C' := St w0 m m [[⟨b1, 24, [.int .i64 p0_0, .int .i64 p0_1, .int .i64 p0_2, .slice a_p0_3 p0_3.length c_p0_3]⟩], [⟨b2, 24, [.int .i64 p1_0, .int .i64 p1_1, .int .i64 p1_2, .slice a_p1_3 p1_3.length c_p1_3]⟩]]) (fun _ h => h) ?_
  refine WO_pure tbok 1 [(2, .pointer (some ⟨b1, 0, none⟩)), (3, .pointer (some ⟨b2, 0, none⟩)), (4, .bool false)] rfl ⟨rfl, rfl, rfl, trivial⟩ ?_
  refine WO_end ?_
  refine WK_seq ?_
  refine WK_region ?_
  refine WO_pure tbok 1 [(2, .pointer (some ⟨b1, 0, none⟩)), (3, .pointer (some ⟨b2, 0, none⟩)), (4, .bool false), (5, .pointer (some ⟨b1, 0, none⟩))] rfl ⟨rfl, rfl, rfl, rfl, trivial⟩ ?_
  refine WO_loadB tbok 0 rfl rfl rfl rfl (fun _ h => h) rfl rfl ?_
  refine WO_pure tbok 1 [(2, .pointer (some ⟨b1, 0, none⟩)), (3, .pointer (some ⟨b2, 0, none⟩)), (4, .bool false), (6, .int .i64 p0_0), (7, .pointer (some ⟨b2, 0, none⟩))] rfl ⟨rfl, rfl, rfl, rfl, rfl, trivial⟩ ?_
  refine WO_loadB tbok 1 rfl rfl rfl rfl (fun _ h => h) rfl rfl ?_
  refine WO_pure tbok 2 [(2, .pointer (some ⟨b1, 0, none⟩)), (3, .pointer (some ⟨b2, 0, none⟩)), (4, .bool false), (10, .bool (p0_0 == p1_0))] rfl ⟨rfl, rfl, rfl, rfl, trivial⟩ ?_
  refine WO_split (d := 10) (b := p0_0 == p1_0) rfl (fun hb3 => ?_) (fun hb3 => ?_)
  · have hm := ifT hb3 hm
    refine WO_pure tbok 1 [(2, .pointer (some ⟨b1, 0, none⟩)), (3, .pointer (some ⟨b2, 0, none⟩)), (4, .bool false), (10, .bool true), (11, .pointer (some ⟨b1, 1, none⟩))] rfl ⟨rfl, rfl, rfl, rfl, rfl, trivial⟩ ?_
    refine WO_loadB tbok 0 rfl rfl rfl rfl (fun _ h => h) rfl rfl ?_
    refine WO_pure tbok 1 [(2, .pointer (some ⟨b1, 0, none⟩)), (3, .pointer (some ⟨b2, 0, none⟩)), (4, .bool false), (10, .bool true), (12, .int .i64 p0_1), (13, .pointer (some ⟨b2, 1, none⟩))] rfl ⟨rfl, rfl, rfl, rfl, rfl, rfl, trivial⟩ ?_
    refine WO_loadB tbok 1 rfl rfl rfl rfl (fun _ h => h) rfl rfl ?_
    refine WO_pure tbok 3 [(2, .pointer (some ⟨b1, 0, none⟩)), (3, .pointer (some ⟨b2, 0, none⟩)), (4, .bool false), (17, .bool (p0_1 == p1_1))] rfl ⟨rfl, rfl, rfl, rfl, trivial⟩ ?_
    refine WO_split (d := 17) (b := p0_1 == p1_1) rfl (fun hb4 => ?_) (fun hb4 => ?_)
    · have hm := ifT hb4 hm
      refine WO_pure tbok 1 [(2, .pointer (some ⟨b1, 0, none⟩)), (3, .pointer (some ⟨b2, 0, none⟩)), (4, .bool false), (17, .bool true), (18, .pointer (some ⟨b1, 2, none⟩))] rfl ⟨rfl, rfl, rfl, rfl, rfl, trivial⟩ ?_
      refine WO_loadB tbok 0 rfl rfl rfl rfl (fun _ h => h) rfl rfl ?_
      refine WO_pure tbok 1 [(2, .pointer (some ⟨b1, 0, none⟩)), (3, .pointer (some ⟨b2, 0, none⟩)), (4, .bool false), (17, .bool true), (19, .int .i64 p0_2), (20, .pointer (some ⟨b2, 2, none⟩))] rfl ⟨rfl, rfl, rfl, rfl, rfl, rfl, trivial⟩ ?_
      refine WO_loadB tbok 1 rfl rfl rfl rfl (fun _ h => h) rfl rfl ?_
      refine WO_pure tbok 3 [(2, .pointer (some ⟨b1, 0, none⟩)), (3, .pointer (some ⟨b2, 0, none⟩)), (4, .bool false), (24, .bool (p0_2 == p1_2))] rfl ⟨rfl, rfl, rfl, rfl, trivial⟩ ?_
      refine WO_split (d := 24) (b := p0_2 == p1_2) rfl (fun hb5 => ?_) (fun hb5 => ?_)
      · have hm := ifT hb5 hm
        refine WO_pure tbok 1 [(3, .pointer (some ⟨b2, 0, none⟩)), (4, .bool false), (24, .bool true), (25, .pointer (some ⟨b1, 3, none⟩))] rfl ⟨rfl, rfl, rfl, rfl, trivial⟩ ?_
        refine WO_loadB tbok 0 rfl rfl rfl rfl (fun _ h => h) rfl rfl ?_
        refine WO_pure tbok 1 [(4, .bool false), (24, .bool true), (26, .slice a_p0_3 p0_3.length c_p0_3), (27, .pointer (some ⟨b2, 3, none⟩))] rfl ⟨rfl, rfl, rfl, rfl, trivial⟩ ?_
        refine WO_loadB tbok 1 rfl rfl rfl rfl (fun _ h => h) rfl rfl ?_
        obtain ⟨y_1, hc6, hm⟩ := bind_some hm
        refine WO_call0 (.bool y_1) rfl rfl trivial rfl rfl rfl rfl St_closed ⟨14, #[], #[], rfl, callable_14, fun w hw => ⟨_, hw.sat, slices_Equal_sint_walk h_p0_3 h_p1_3 hc6⟩⟩ ?_
        refine WO_pure tbok 2 [(4, .bool y_1)] rfl ⟨rfl, trivial⟩ ?_
        refine WO_end ?_
        cases hm
        exact WK_ret (ret_out (L := []) (RLc_tmp rfl RLc_nil) (List.nil_sublist _) rfl)
      · have hm := ifF hb5 hm
        refine WO_pure tbok 4 [(4, .bool false), (24, .bool false)] rfl ⟨rfl, rfl, trivial⟩ ?_
        refine WO_skip rfl rfl ?_
        refine WO_pure tbok 2 [(4, .bool false)] rfl ⟨rfl, trivial⟩ ?_
        refine WO_end ?_
        cases hm
        exact WK_ret (ret_out (L := []) (RLc_tmp rfl RLc_nil) (List.nil_sublist _) rfl)
    · have hm := ifF hb4 hm
      refine WO_pure tbok 11 [(4, .bool false), (24, .bool false)] rfl ⟨rfl, rfl, trivial⟩ ?_
      refine WO_skip rfl rfl ?_
      refine WO_pure tbok 2 [(4, .bool false)] rfl ⟨rfl, trivial⟩ ?_
      refine WO_end ?_
      cases hm
      exact WK_ret (ret_out (L := []) (RLc_tmp rfl RLc_nil) (List.nil_sublist _) rfl)
  · have hm := ifF hb3 hm
    refine WO_pure tbok 18 [(4, .bool false), (24, .bool false)] rfl ⟨rfl, rfl, trivial⟩ ?_
    refine WO_skip rfl rfl ?_
    refine WO_pure tbok 2 [(4, .bool false)] rfl ⟨rfl, trivial⟩ ?_
    refine WO_end ?_
    cases hm
    exact WK_ret (ret_out (L := []) (RLc_tmp rfl RLc_nil) (List.nil_sublist _) rfl)
end Go.Proofs.YtgakaghdiodakaaDoor
