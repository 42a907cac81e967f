import Derived.Test.YtdgmeplpkehdnaaTab
import Derived.Test.YtdgmeplpkehdnaaM
import Derived.Test.YtdgmeplpkehdnaaW4
set_option linter.unusedVariables false
set_option maxRecDepth 100000
set_option maxHeartbeats 4000000
namespace Go.Proofs.Ytdgmeplpkehdnaa
open Go.E Go.RowKit
attribute [local irreducible] Go.E.WO Go.E.WK
theorem fiduciallaw21_DescriptorGreys_walk {m : Mu} {p0_0 : Int} {p0_1 : Int} {p0_2 : Int} {p0_3 : List Int} {p1 : List (Int × Int × Int × Int × Int × Int × Int × Int)} {p2 : List Int} {a_p0_3 : Option Addr} {q_p0_3 c_p0_3 : Nat} {a_p1 : Option Addr} {q_p1 c_p1 : Nat} {a_p2 : Option Addr} {q_p2 c_p2 : Nat} (h_p0_3 : SlR (FE (I1 .i64)) 1 m (.slice a_p0_3 q_p0_3 c_p0_3) p0_3) (h_p1 : SlR (FE T8) 8 m (.slice a_p1 q_p1 c_p1) p1) (h_p2 : SlR (FE (I1 .u8)) 1 m (.slice a_p2 q_p2 c_p2) p2) {r : Bool} (hm : fiduciallaw21_DescriptorGreys p0_0 p0_1 p0_2 p0_3 p1 p2 = some r) :
    Go.E.Spec Try.prog 8 [.agg #[.int .i64 p0_0, .int .i64 p0_1, .int .i64 p0_2, .slice a_p0_3 q_p0_3 c_p0_3], .slice a_p1 q_p1 c_p1, .slice a_p2 q_p2 c_p2] m (fun v _ _ => v = .bool r) := by
  refine Spec_enter Try.func8 rfl rfl rfl (fun w0 => ?_)
  refine WK.sub (e' := [(0, .agg #[.int .i64 p0_0, .int .i64 p0_1, .int .i64 p0_2, .slice a_p0_3 q_p0_3 c_p0_3]), (1, .slice a_p1 q_p1 c_p1), (2, .slice a_p2 q_p2 c_p2)]) ⟨rfl, rfl, rfl, trivial⟩ ?_
  obtain rfl := SlR.qlen h_p0_3
  obtain rfl := SlR.qlen h_p1
  obtain rfl := SlR.qlen h_p2
  refine WK.sub (e' := [(0, .agg #[.int .i64 p0_0, .int .i64 p0_1, .int .i64 p0_2, .slice a_p0_3 p0_3.length c_p0_3]), (1, .slice a_p1 p1.length c_p1), (2, .slice a_p2 p2.length c_p2)]) ⟨rfl, rfl, rfl, trivial⟩ ?_
  unfold fiduciallaw21_DescriptorGreys at hm
  refine WK_seq ?_
  refine WK_region ?_
  refine WO_box [.int .i64 p0_0, .int .i64 p0_1, .int .i64 p0_2, .slice a_p0_3 p0_3.length c_p0_3] rfl rfl trivial rfl rfl rfl (fun b4 => ?_)
  refine WO.cls (C' := St w0 m m [[⟨b4, 29, [.int .i64 p0_0, .int .i64 p0_1, .int .i64 p0_2, .slice a_p0_3 p0_3.length c_p0_3]⟩]]) (fun _ h => h) ?_
  refine WO_pure tbok 1 [(1, .slice a_p1 p1.length c_p1), (2, .slice a_p2 p2.length c_p2), (3, .pointer (some ⟨b4, 0, none⟩)), (6, .bool false)] rfl ⟨rfl, rfl, rfl, rfl, trivial⟩ ?_
  refine WO_end ?_
  refine WK_seq ?_
  refine WK_seq ?_
  refine WK_region ?_
  obtain ⟨y_1, hc5, hm⟩ := bind_some hm
  refine WO_call0 (.bool y_1) rfl rfl trivial rfl rfl rfl rfl St_closed ⟨11, #[], #[], rfl, callable_11, fun w hw => ⟨_, hw.sat, fiduciallaw21_known_walk hc5⟩⟩ ?_
  refine WO_pure tbok 1 [(1, .slice a_p1 p1.length c_p1), (2, .slice a_p2 p2.length c_p2), (3, .pointer (some ⟨b4, 0, none⟩)), (6, .bool false), (23, .bool (!y_1))] rfl ⟨rfl, rfl, rfl, rfl, rfl, trivial⟩ ?_
  refine WO_end ?_
  refine WK_cond (b := !y_1) rfl (fun hb6 => ?_) (fun hb6 => ?_)
  · have hm := ifT hb6 hm
    refine WK_seq ?_
    refine WK_region ?_
    refine WO_pure tbok 1 [(1, .slice a_p1 p1.length c_p1), (2, .slice a_p2 p2.length c_p2), (3, .pointer (some ⟨b4, 0, none⟩)), (6, .bool false)] rfl ⟨rfl, rfl, rfl, rfl, trivial⟩ ?_
    refine WO_end ?_
    cases hm
    exact WK_ret (ret_out (L := []) (RLc_tmp rfl RLc_nil) (List.nil_sublist _) rfl)
  · have hm := ifF hb6 hm
    refine WK_skip ?_
    refine WK_seq ?_
    refine WK_seq ?_
    obtain ⟨s_2, hx7, hm⟩ := bind_some hm
    refine WK_meet [(1, .slice a_p1 p1.length c_p1), (2, .slice a_p2 p2.length c_p2), (3, .pointer (some ⟨b4, 0, none⟩)), (6, .bool false), (48, .bool s_2)] (St w0 m m [[⟨b4, 29, [.int .i64 p0_0, .int .i64 p0_1, .int .i64 p0_2, .slice a_p0_3 p0_3.length c_p0_3]⟩]]) ?_ (fun hk8 => ?_)
    · refine WK_cond (b := s_2) rfl (fun hb9 => ?_) (fun hb9 => ?_)
      · have hm := ifT hb9 hm
        refine WK_seq ?_
        refine WK_region ?_
        refine WO_pure tbok 1 [(1, .slice a_p1 p1.length c_p1), (2, .slice a_p2 p2.length c_p2), (3, .pointer (some ⟨b4, 0, none⟩)), (6, .bool true)] rfl ⟨rfl, rfl, rfl, rfl, trivial⟩ ?_
        refine WO_end ?_
        cases hm
        exact WK_ret (ret_out (L := []) (RLc_tmp rfl RLc_nil) (List.nil_sublist _) rfl)
      · have hm := ifF hb9 hm
        refine WK_skip ?_
        refine WK_seq ?_
        obtain ⟨⟨l_3, l_4, s_5, s_6, s_7, s_8, s_9, s_10⟩, hx18, hm⟩ := bind_some hm
        refine WK_join (β := Option Addr × Nat × List Ent × Option Addr × Nat × List Ent × Nat × Nat) (fun p => OwnE 3 1 (I1 .i64) (.slice p.1 ((l_3).length) p.2.1) l_3 p.2.2.1 ∧ OwnE 3 1 (I1 .i64) (.slice p.2.2.2.1 ((l_4).length) p.2.2.2.2.1) l_4 p.2.2.2.2.2.1) (fun p => [(1, .slice a_p1 p1.length c_p1), (2, .slice a_p2 p2.length c_p2), (3, .pointer (some ⟨b4, 0, none⟩)), (6, .bool false), (7, .pointer (some ⟨p.2.2.2.2.2.2.1, 0, none⟩)), (8, .pointer (some ⟨p.2.2.2.2.2.2.2, 0, none⟩))]) (fun p => St w0 m m [[⟨b4, 29, [.int .i64 p0_0, .int .i64 p0_1, .int .i64 p0_2, .slice a_p0_3 p0_3.length c_p0_3]⟩], [⟨p.2.2.2.2.2.2.1, 29, [.int .i64 s_5, .int .i64 s_6, .int .i64 s_7, .slice p.1 ((l_3).length) p.2.1]⟩], [⟨p.2.2.2.2.2.2.2, 29, [.int .i64 s_8, .int .i64 s_9, .int .i64 s_10, .slice p.2.2.2.1 ((l_4).length) p.2.2.2.2.1]⟩], p.2.2.1, p.2.2.2.2.2.1]) ?_ (fun hk19 => ?_)
        · rintro ⟨a10, c11, L12, a13, c14, L15, b16, b17⟩ ⟨hL12, hL15⟩
          refine WK.sub (e' := [(1, .slice a_p1 p1.length c_p1), (2, .slice a_p2 p2.length c_p2), (3, .pointer (some ⟨b4, 0, none⟩)), (6, .bool false), (7, .pointer (some ⟨b16, 0, none⟩)), (8, .pointer (some ⟨b17, 0, none⟩))]) ⟨rfl, rfl, rfl, rfl, rfl, rfl, trivial⟩ (WK.cls (C' := St w0 m m [[⟨b4, 29, [.int .i64 p0_0, .int .i64 p0_1, .int .i64 p0_2, .slice a_p0_3 p0_3.length c_p0_3]⟩], [⟨b16, 29, [.int .i64 s_5, .int .i64 s_6, .int .i64 s_7, .slice a10 ((l_3).length) c11]⟩], [⟨b17, 29, [.int .i64 s_8, .int .i64 s_9, .int .i64 s_10, .slice a13 ((l_4).length) c14]⟩], L12, L15]) (fun _ h => h) ?_)
          refine WK_seq ?_
          refine WK_region ?_
          refine WO_pure tbok 1 [(1, .slice a_p1 p1.length c_p1), (2, .slice a_p2 p2.length c_p2), (3, .pointer (some ⟨b4, 0, none⟩)), (6, .bool false), (7, .pointer (some ⟨b16, 0, none⟩)), (8, .pointer (some ⟨b17, 0, none⟩)), (53, .pointer (some ⟨b16, 2, none⟩))] rfl ⟨rfl, rfl, rfl, rfl, rfl, rfl, rfl, trivial⟩ ?_
          refine WO_storeB tbok 1 [.int .i64 s_5, .int .i64 s_6, .int .i64 65535, .slice a10 ((l_3).length) c11] rfl rfl rfl rfl rfl rfl rfl ?_
          refine WO.cls (C' := St w0 m m [[⟨b4, 29, [.int .i64 p0_0, .int .i64 p0_1, .int .i64 p0_2, .slice a_p0_3 p0_3.length c_p0_3]⟩], [⟨b16, 29, [.int .i64 s_5, .int .i64 s_6, .int .i64 65535, .slice a10 ((l_3).length) c11]⟩], [⟨b17, 29, [.int .i64 s_8, .int .i64 s_9, .int .i64 s_10, .slice a13 ((l_4).length) c14]⟩], L12, L15]) (fun _ h => h) ?_
          refine WO_pure tbok 1 [(1, .slice a_p1 p1.length c_p1), (2, .slice a_p2 p2.length c_p2), (3, .pointer (some ⟨b4, 0, none⟩)), (6, .bool false), (7, .pointer (some ⟨b16, 0, none⟩)), (8, .pointer (some ⟨b17, 0, none⟩)), (54, .pointer (some ⟨b17, 2, none⟩))] rfl ⟨rfl, rfl, rfl, rfl, rfl, rfl, rfl, trivial⟩ ?_
          refine WO_storeB tbok 2 [.int .i64 s_8, .int .i64 s_9, .int .i64 65535, .slice a13 ((l_4).length) c14] rfl rfl rfl rfl rfl rfl rfl ?_
          refine WO.cls (C' := St w0 m m [[⟨b4, 29, [.int .i64 p0_0, .int .i64 p0_1, .int .i64 p0_2, .slice a_p0_3 p0_3.length c_p0_3]⟩], [⟨b16, 29, [.int .i64 s_5, .int .i64 s_6, .int .i64 65535, .slice a10 ((l_3).length) c11]⟩], [⟨b17, 29, [.int .i64 s_8, .int .i64 s_9, .int .i64 65535, .slice a13 ((l_4).length) c14]⟩], L12, L15]) (fun _ h => h) ?_
          refine WO_end ?_
          refine WK_seq ?_
          refine WK_region ?_
          refine WO_bslice (E := (I1 .i64)) tbok (fun _ => rfl) (by decide) [.int .i64 0] ([0] : List Int) rfl rfl trivial rfl rfl rfl rfl rfl rfl rfl rfl rfl rfl rfl rfl (fun b20 hb20 => ?_)
          refine WO.cls (C' := St w0 m m [[⟨b4, 29, [.int .i64 p0_0, .int .i64 p0_1, .int .i64 p0_2, .slice a_p0_3 p0_3.length c_p0_3]⟩], [⟨b16, 29, [.int .i64 s_5, .int .i64 s_6, .int .i64 65535, .slice a10 ((l_3).length) c11]⟩], [⟨b17, 29, [.int .i64 s_8, .int .i64 s_9, .int .i64 65535, .slice a13 ((l_4).length) c14]⟩], L12, L15, [⟨b20, 3, ([0] : List Int).flatMap (I1 .i64)⟩]]) (fun _ h => h) ?_
          refine WO_pure tbok 1 [(1, .slice a_p1 p1.length c_p1), (2, .slice a_p2 p2.length c_p2), (3, .pointer (some ⟨b4, 0, none⟩)), (6, .bool false), (7, .pointer (some ⟨b16, 0, none⟩)), (8, .pointer (some ⟨b17, 0, none⟩)), (9, .slice (some ⟨b20, 0, none⟩) 1 1)] rfl ⟨rfl, rfl, rfl, rfl, rfl, rfl, rfl, trivial⟩ ?_
          refine WO_end ?_
          refine WK_seq ?_
          refine WK_seq ?_
          refine WK_region ?_
          refine WO_pure tbok 1 [(1, .slice a_p1 p1.length c_p1), (2, .slice a_p2 p2.length c_p2), (3, .pointer (some ⟨b4, 0, none⟩)), (6, .bool false), (7, .pointer (some ⟨b16, 0, none⟩)), (8, .pointer (some ⟨b17, 0, none⟩)), (9, .slice (some ⟨b20, 0, none⟩) 1 1), (56, .pointer (some ⟨b4, 2, none⟩))] rfl ⟨rfl, rfl, rfl, rfl, rfl, rfl, rfl, rfl, trivial⟩ ?_
          refine WO_loadB tbok 0 rfl rfl rfl rfl (fun _ h => h) rfl rfl ?_
          refine WO_pure tbok 1 [(1, .slice a_p1 p1.length c_p1), (2, .slice a_p2 p2.length c_p2), (3, .pointer (some ⟨b4, 0, none⟩)), (6, .bool false), (7, .pointer (some ⟨b16, 0, none⟩)), (8, .pointer (some ⟨b17, 0, none⟩)), (9, .slice (some ⟨b20, 0, none⟩) 1 1), (57, .int .i64 p0_2), (58, .int .i64 0)] rfl ⟨rfl, rfl, rfl, rfl, rfl, rfl, rfl, rfl, rfl, trivial⟩ ?_
          refine WO_end ?_
          obtain ⟨x32, hx33, hm⟩ := bind_some hm
          refine WK_join (β := (List Int) × (Option Addr × Nat × Nat × List Ent)) (fun p => p.1 = x32 ∧ OwnE 3 1 (I1 .i64) (.slice p.2.1 p.2.2.1 p.2.2.2.1) p.1 p.2.2.2.2) (fun p => [(1, .slice a_p1 p1.length c_p1), (2, .slice a_p2 p2.length c_p2), (3, .pointer (some ⟨b4, 0, none⟩)), (6, .bool false), (7, .pointer (some ⟨b16, 0, none⟩)), (8, .pointer (some ⟨b17, 0, none⟩)), (9, .slice p.2.1 p.2.2.1 p.2.2.2.1)]) (fun p => St w0 m m [[⟨b4, 29, [.int .i64 p0_0, .int .i64 p0_1, .int .i64 p0_2, .slice a_p0_3 p0_3.length c_p0_3]⟩], [⟨b16, 29, [.int .i64 s_5, .int .i64 s_6, .int .i64 65535, .slice a10 ((l_3).length) c11]⟩], [⟨b17, 29, [.int .i64 s_8, .int .i64 s_9, .int .i64 65535, .slice a13 ((l_4).length) c14]⟩], L12, L15, p.2.2.2.2]) ?_ (fun hk34 => ?_)
          · rintro ⟨l_13, ⟨a29, q30, c31, L28⟩⟩ ⟨hq40, hL28⟩
            subst hq40
            have hqq : q30 = l_13.length := OwnE.qlen hL28
            subst hqq
            refine WK.sub (e' := [(1, .slice a_p1 p1.length c_p1), (2, .slice a_p2 p2.length c_p2), (3, .pointer (some ⟨b4, 0, none⟩)), (6, .bool false), (7, .pointer (some ⟨b16, 0, none⟩)), (8, .pointer (some ⟨b17, 0, none⟩)), (9, .slice a29 ((l_13).length) c31)]) ⟨rfl, rfl, rfl, rfl, rfl, rfl, rfl, trivial⟩ (WK.cls (C' := St w0 m m [[⟨b4, 29, [.int .i64 p0_0, .int .i64 p0_1, .int .i64 p0_2, .slice a_p0_3 p0_3.length c_p0_3]⟩], [⟨b16, 29, [.int .i64 s_5, .int .i64 s_6, .int .i64 65535, .slice a10 ((l_3).length) c11]⟩], [⟨b17, 29, [.int .i64 s_8, .int .i64 s_9, .int .i64 65535, .slice a13 ((l_4).length) c14]⟩], L12, L15, L28]) (fun _ h => h) ?_)
            refine WK_seq ?_
            refine WK_seq ?_
            refine WK_region ?_
            refine WO_pure tbok 1 [(1, .slice a_p1 p1.length c_p1), (2, .slice a_p2 p2.length c_p2), (3, .pointer (some ⟨b4, 0, none⟩)), (6, .bool false), (7, .pointer (some ⟨b16, 0, none⟩)), (8, .pointer (some ⟨b17, 0, none⟩)), (9, .slice a29 ((l_13).length) c31), (80, .pointer (some ⟨b4, 3, none⟩))] rfl ⟨rfl, rfl, rfl, rfl, rfl, rfl, rfl, rfl, trivial⟩ ?_
            refine WO_loadB tbok 0 rfl rfl rfl rfl (fun _ h => h) rfl rfl ?_
            refine WO_pure tbok 2 [(1, .slice a_p1 p1.length c_p1), (2, .slice a_p2 p2.length c_p2), (3, .pointer (some ⟨b4, 0, none⟩)), (6, .bool false), (7, .pointer (some ⟨b16, 0, none⟩)), (8, .pointer (some ⟨b17, 0, none⟩)), (9, .slice a29 ((l_13).length) c31), (82, .int .i64 (p0_3.length : Int)), (83, .int .i64 0)] rfl ⟨rfl, rfl, rfl, rfl, rfl, rfl, rfl, rfl, rfl, trivial⟩ ?_
            refine WO_end ?_
            obtain ⟨x49, hx50, hm⟩ := bind_some hm
            refine WK_join (β := (List Int × List Int) × (List Ent × List Ent)) (fun p => p.1 = x49 ∧ OwnE 3 1 (I1 .i64) (.slice a10 ((l_3).length) c11) p.1.1 p.2.1 ∧ OwnE 3 1 (I1 .i64) (.slice a13 ((l_4).length) c14) p.1.2 p.2.2) (fun p => [(1, .slice a_p1 p1.length c_p1), (3, .pointer (some ⟨b4, 0, none⟩)), (6, .bool false), (7, .pointer (some ⟨b16, 0, none⟩)), (8, .pointer (some ⟨b17, 0, none⟩))]) (fun p => St w0 m m [[⟨b4, 29, [.int .i64 p0_0, .int .i64 p0_1, .int .i64 p0_2, .slice a_p0_3 p0_3.length c_p0_3]⟩], [⟨b16, 29, [.int .i64 s_5, .int .i64 s_6, .int .i64 65535, .slice a10 ((l_3).length) c11]⟩], [⟨b17, 29, [.int .i64 s_8, .int .i64 s_9, .int .i64 65535, .slice a13 ((l_4).length) c14]⟩], p.2.1, p.2.2, L28]) ?_ (fun hk51 => ?_)
            · rintro ⟨⟨l_17, l_18⟩, ⟨L46, L48⟩⟩ ⟨hq57, hL46, hL48⟩
              subst hq57
              refine WK.sub (e' := [(1, .slice a_p1 p1.length c_p1), (3, .pointer (some ⟨b4, 0, none⟩)), (6, .bool false), (7, .pointer (some ⟨b16, 0, none⟩)), (8, .pointer (some ⟨b17, 0, none⟩))]) ⟨rfl, rfl, rfl, rfl, rfl, trivial⟩ (WK.cls (C' := St w0 m m [[⟨b4, 29, [.int .i64 p0_0, .int .i64 p0_1, .int .i64 p0_2, .slice a_p0_3 p0_3.length c_p0_3]⟩], [⟨b16, 29, [.int .i64 s_5, .int .i64 s_6, .int .i64 65535, .slice a10 ((l_3).length) c11]⟩], [⟨b17, 29, [.int .i64 s_8, .int .i64 s_9, .int .i64 65535, .slice a13 ((l_4).length) c14]⟩], L46, L48, L28]) (fun _ h => h) ?_)
              refine WK_seq ?_
              refine WK_region ?_
              refine WO_pure tbok 1 [(1, .slice a_p1 p1.length c_p1), (3, .pointer (some ⟨b4, 0, none⟩)), (6, .bool false), (7, .pointer (some ⟨b16, 0, none⟩)), (8, .pointer (some ⟨b17, 0, none⟩)), (113, .slice a_p1 p1.length c_p1)] rfl ⟨rfl, rfl, rfl, rfl, rfl, rfl, trivial⟩ ?_
              obtain ⟨y_27, hc58, hm⟩ := bind_some hm
              refine WO_call0 (.bool y_27) rfl rfl trivial rfl rfl rfl rfl St_closed ⟨31, #[], #[], rfl, callable_31, fun w hw => ⟨_, hw.sat, slices_ContainsFunc_sdescriptor_Test_walk h_p1 (fun z_19 z_20 z_21 z_22 z_23 z_24 z_25 z_26 _ h => specV_cap callable_32 (fiduciallaw21_DescriptorGreys_c1_walk h)) hc58⟩⟩ ?_
              refine WO_pure tbok 2 [(1, .slice a_p1 p1.length c_p1), (3, .pointer (some ⟨b4, 0, none⟩)), (6, .bool false), (7, .pointer (some ⟨b16, 0, none⟩)), (8, .pointer (some ⟨b17, 0, none⟩)), (12, .bool (!y_27))] rfl ⟨rfl, rfl, rfl, rfl, rfl, rfl, trivial⟩ ?_
              refine WO_end ?_
              refine WK_seq ?_
              refine WK_region ?_
              refine WO_loadB tbok 0 rfl rfl rfl rfl (fun _ h => h) rfl rfl ?_
              refine WO_pure tbok 1 [(1, .slice a_p1 p1.length c_p1), (6, .bool false), (7, .pointer (some ⟨b16, 0, none⟩)), (8, .pointer (some ⟨b17, 0, none⟩)), (12, .bool (!y_27)), (117, .agg #[.int .i64 p0_0, .int .i64 p0_1, .int .i64 p0_2, .slice a_p0_3 p0_3.length c_p0_3]), (118, .slice a_p1 p1.length c_p1)] rfl ⟨rfl, rfl, rfl, rfl, rfl, rfl, rfl, trivial⟩ ?_
              obtain ⟨⟨y_28, y_29, y_30⟩, hc59, hm⟩ := bind_some hm
              refine WO_call2 (descriptor_All_Q (y_28, y_29, y_30)) rfl rfl trivial rfl rfl rfl rfl ⟨27, #[], #[], rfl, callable_27, descriptor_All_walk h_p0_3 h_p1 hc59⟩ (fun v67 m68 L66 hle69 hq => ?_)
              obtain ⟨a60, qa60, c61, a63, qa63, c64, rfl, h70, h71⟩ := hq
              obtain rfl := SlR.qlen h70
              obtain rfl := SlR.qlen h71
              refine WO.cls (C' := St w0 m m68 [[⟨b4, 29, [.int .i64 p0_0, .int .i64 p0_1, .int .i64 p0_2, .slice a_p0_3 p0_3.length c_p0_3]⟩], [⟨b16, 29, [.int .i64 s_5, .int .i64 s_6, .int .i64 65535, .slice a10 ((l_3).length) c11]⟩], [⟨b17, 29, [.int .i64 s_8, .int .i64 s_9, .int .i64 65535, .slice a13 ((l_4).length) c14]⟩], L46, L48, L28, L66]) (fun _ h => h.sub (by simp)) ?_
              refine WO_pure tbok 7 [(1, .slice a_p1 p1.length c_p1), (6, .bool false), (7, .pointer (some ⟨b16, 0, none⟩)), (8, .pointer (some ⟨b17, 0, none⟩)), (12, .bool (!y_27)), (14, .slice a63 ((y_29).length) c64), (15, .int .i64 y_30)] rfl ⟨rfl, rfl, rfl, rfl, rfl, rfl, rfl, trivial⟩ ?_
              refine WO_end ?_
              refine WK_seq ?_
              refine WK_region ?_
              refine WO_loadB tbok 1 rfl rfl rfl rfl (fun _ h => h) rfl rfl ?_
              refine WO_pure tbok 1 [(1, .slice a_p1 p1.length c_p1), (6, .bool false), (8, .pointer (some ⟨b17, 0, none⟩)), (12, .bool (!y_27)), (14, .slice a63 ((y_29).length) c64), (15, .int .i64 y_30), (124, .agg #[.int .i64 s_5, .int .i64 s_6, .int .i64 65535, .slice a10 ((l_3).length) c11]), (125, .slice a_p1 p1.length c_p1)] rfl ⟨rfl, rfl, rfl, rfl, rfl, rfl, rfl, rfl, trivial⟩ ?_
              refine WO_freeze 3 rfl (fun m72 hle73 hmm74 => ?_)
              refine WO.cls (C' := St w0 m m72 [[⟨b4, 29, [.int .i64 p0_0, .int .i64 p0_1, .int .i64 p0_2, .slice a_p0_3 p0_3.length c_p0_3]⟩], [⟨b16, 29, [.int .i64 s_5, .int .i64 s_6, .int .i64 65535, .slice a10 ((l_3).length) c11]⟩], [⟨b17, 29, [.int .i64 s_8, .int .i64 s_9, .int .i64 65535, .slice a13 ((l_4).length) c14]⟩], [], L48, L28, L66]) (fun _ h => h) ?_
              obtain ⟨⟨y_31, y_32, y_33⟩, hc75, hm⟩ := bind_some hm
              refine WO_call2 (descriptor_All_Q (y_31, y_32, y_33)) rfl rfl trivial rfl rfl rfl rfl ⟨27, #[], #[], rfl, callable_27, descriptor_All_walk (OwnE.rd (E := (I1 .i64)) (k := 1) (fun _ => rfl) hL46 hmm74) ((h_p1.mono (mono_FE _) hle69).mono (mono_FE _) hle73) hc75⟩ (fun v83 m84 L82 hle85 hq => ?_)
              obtain ⟨a76, qa76, c77, a79, qa79, c80, rfl, h86, h87⟩ := hq
              obtain rfl := SlR.qlen h86
              obtain rfl := SlR.qlen h87
              refine WO.cls (C' := St w0 m m84 [[⟨b4, 29, [.int .i64 p0_0, .int .i64 p0_1, .int .i64 p0_2, .slice a_p0_3 p0_3.length c_p0_3]⟩], [⟨b16, 29, [.int .i64 s_5, .int .i64 s_6, .int .i64 65535, .slice a10 ((l_3).length) c11]⟩], [⟨b17, 29, [.int .i64 s_8, .int .i64 s_9, .int .i64 65535, .slice a13 ((l_4).length) c14]⟩], [], L48, L28, L66, L82]) (fun _ h => h.sub (by simp)) ?_
              refine WO_pure tbok 7 [(1, .slice a_p1 p1.length c_p1), (6, .bool false), (8, .pointer (some ⟨b17, 0, none⟩)), (12, .bool (!y_27)), (14, .slice a63 ((y_29).length) c64), (15, .int .i64 y_30), (17, .slice a79 ((y_32).length) c80), (18, .int .i64 y_33)] rfl ⟨rfl, rfl, rfl, rfl, rfl, rfl, rfl, rfl, trivial⟩ ?_
              refine WO_end ?_
              refine WK_seq ?_
              refine WK_region ?_
              refine WO_loadB tbok 2 rfl rfl rfl rfl (fun _ h => h) rfl rfl ?_
              refine WO_pure tbok 1 [(6, .bool false), (12, .bool (!y_27)), (14, .slice a63 ((y_29).length) c64), (15, .int .i64 y_30), (17, .slice a79 ((y_32).length) c80), (18, .int .i64 y_33), (131, .agg #[.int .i64 s_8, .int .i64 s_9, .int .i64 65535, .slice a13 ((l_4).length) c14]), (132, .slice a_p1 p1.length c_p1)] rfl ⟨rfl, rfl, rfl, rfl, rfl, rfl, rfl, rfl, trivial⟩ ?_
              refine WO_freeze 4 rfl (fun m88 hle89 hmm90 => ?_)
              refine WO.cls (C' := St w0 m m88 [[⟨b4, 29, [.int .i64 p0_0, .int .i64 p0_1, .int .i64 p0_2, .slice a_p0_3 p0_3.length c_p0_3]⟩], [⟨b16, 29, [.int .i64 s_5, .int .i64 s_6, .int .i64 65535, .slice a10 ((l_3).length) c11]⟩], [⟨b17, 29, [.int .i64 s_8, .int .i64 s_9, .int .i64 65535, .slice a13 ((l_4).length) c14]⟩], [], [], L28, L66, L82]) (fun _ h => h) ?_
              obtain ⟨⟨y_34, y_35, y_36⟩, hc91, hm⟩ := bind_some hm
              refine WO_call2 (descriptor_All_Q (y_34, y_35, y_36)) rfl rfl trivial rfl rfl rfl rfl ⟨27, #[], #[], rfl, callable_27, descriptor_All_walk (OwnE.rd (E := (I1 .i64)) (k := 1) (fun _ => rfl) hL48 hmm90) ((((h_p1.mono (mono_FE _) hle69).mono (mono_FE _) hle73).mono (mono_FE _) hle85).mono (mono_FE _) hle89) hc91⟩ (fun v99 m100 L98 hle101 hq => ?_)
              obtain ⟨a92, qa92, c93, a95, qa95, c96, rfl, h102, h103⟩ := hq
              obtain rfl := SlR.qlen h102
              obtain rfl := SlR.qlen h103
              refine WO.cls (C' := St w0 m m100 [[⟨b4, 29, [.int .i64 p0_0, .int .i64 p0_1, .int .i64 p0_2, .slice a_p0_3 p0_3.length c_p0_3]⟩], [⟨b16, 29, [.int .i64 s_5, .int .i64 s_6, .int .i64 65535, .slice a10 ((l_3).length) c11]⟩], [⟨b17, 29, [.int .i64 s_8, .int .i64 s_9, .int .i64 65535, .slice a13 ((l_4).length) c14]⟩], [], [], L28, L66, L82, L98]) (fun _ h => h.sub (by simp)) ?_
              refine WO_pure tbok 7 [(6, .bool false), (12, .bool (!y_27)), (14, .slice a63 ((y_29).length) c64), (15, .int .i64 y_30), (17, .slice a79 ((y_32).length) c80), (18, .int .i64 y_33), (20, .slice a95 ((y_35).length) c96), (21, .int .i64 y_36)] rfl ⟨rfl, rfl, rfl, rfl, rfl, rfl, rfl, rfl, trivial⟩ ?_
              refine WO_end ?_
              refine WK_seq ?_
              refine WK_region ?_
              refine WO_pure tbok 3 [(6, .bool false), (12, .bool (!y_27)), (14, .slice a63 ((y_29).length) c64), (17, .slice a79 ((y_32).length) c80), (18, .int .i64 y_33), (20, .slice a95 ((y_35).length) c96), (21, .int .i64 y_36), (139, .bool (y_30 == 0))] rfl ⟨rfl, rfl, rfl, rfl, rfl, rfl, rfl, rfl, trivial⟩ ?_
              refine WO_split (d := 139) (b := y_30 == 0) rfl (fun hb104 => ?_) (fun hb104 => ?_)
              · have hm := ifT hb104 hm
                refine WO_pure tbok 4 [(6, .bool false), (12, .bool (!y_27)), (14, .slice a63 ((y_29).length) c64), (17, .slice a79 ((y_32).length) c80), (20, .slice a95 ((y_35).length) c96), (21, .int .i64 y_36), (143, .bool (y_33 == 0))] rfl ⟨rfl, rfl, rfl, rfl, rfl, rfl, rfl, trivial⟩ ?_
                refine WO_split (d := 143) (b := y_33 == 0) rfl (fun hb105 => ?_) (fun hb105 => ?_)
                · have hm := ifT hb105 hm
                  refine WO_pure tbok 4 [(6, .bool false), (12, .bool (!y_27)), (14, .slice a63 ((y_29).length) c64), (17, .slice a79 ((y_32).length) c80), (20, .slice a95 ((y_35).length) c96), (147, .bool (y_36 == 0))] rfl ⟨rfl, rfl, rfl, rfl, rfl, rfl, trivial⟩ ?_
                  refine WO_split (d := 147) (b := y_36 == 0) rfl (fun hb106 => ?_) (fun hb106 => ?_)
                  · have hm := ifT hb106 hm
                    refine WO_pure tbok 2 [(6, .bool false), (12, .bool (!y_27)), (14, .slice a63 ((y_29).length) c64), (20, .slice a95 ((y_35).length) c96), (147, .bool true), (148, .slice a63 ((y_29).length) c64), (149, .slice a79 ((y_32).length) c80)] rfl ⟨rfl, rfl, rfl, rfl, rfl, rfl, rfl, trivial⟩ ?_
                    obtain ⟨y_37, hc107, hm⟩ := bind_some hm
                    refine WO_call0 (.bool y_37) rfl rfl trivial rfl rfl rfl rfl St_closed ⟨29, #[], #[], rfl, callable_29, fun w hw => ⟨_, hw.sat, slices_Equal_suint64_walk ((((h71.mono (mono_FE _) hle73).mono (mono_FE _) hle85).mono (mono_FE _) hle89).mono (mono_FE _) hle101) ((h87.mono (mono_FE _) hle89).mono (mono_FE _) hle101) hc107⟩⟩ ?_
                    refine WO_pure tbok 2 [(6, .bool false), (12, .bool (!y_27)), (14, .slice a63 ((y_29).length) c64), (20, .slice a95 ((y_35).length) c96), (152, .bool y_37)] rfl ⟨rfl, rfl, rfl, rfl, rfl, trivial⟩ ?_
                    refine WO_split (d := 152) (b := y_37) rfl (fun hb108 => ?_) (fun hb108 => ?_)
                    · have hm := ifT hb108 hm
                      refine WO_pure tbok 3 [(6, .bool false), (14, .slice a63 ((y_29).length) c64), (20, .slice a95 ((y_35).length) c96), (152, .bool true), (155, .bool (!(!y_27)))] rfl ⟨rfl, rfl, rfl, rfl, rfl, trivial⟩ ?_
                      refine WO_split (d := 155) (b := !(!y_27)) rfl (fun hb109 => ?_) (fun hb109 => ?_)
                      · have hm := ifT hb109 hm
                        refine WO_pure tbok 2 [(6, .bool false), (152, .bool true), (155, .bool true)] rfl ⟨rfl, rfl, rfl, trivial⟩ ?_
                        refine WO_skip rfl rfl ?_
                        refine WO_pure tbok 3 [(6, .bool true)] rfl ⟨rfl, trivial⟩ ?_
                        refine WO_end ?_
                        cases hm
                        exact WK_ret (ret_out (L := []) (RLc_tmp rfl RLc_nil) (List.nil_sublist _) rfl)
                      · have hm := ifF hb109 hm
                        refine WO_pure tbok 2 [(6, .bool false), (152, .bool true), (155, .bool false), (156, .slice a63 ((y_29).length) c64), (157, .slice a95 ((y_35).length) c96)] rfl ⟨rfl, rfl, rfl, rfl, rfl, trivial⟩ ?_
                        obtain ⟨y_38, hc110, hm⟩ := bind_some hm
                        refine WO_call0 (.bool y_38) rfl rfl trivial rfl rfl rfl rfl St_closed ⟨29, #[], #[], rfl, callable_29, fun w hw => ⟨_, hw.sat, slices_Equal_suint64_walk ((((h71.mono (mono_FE _) hle73).mono (mono_FE _) hle85).mono (mono_FE _) hle89).mono (mono_FE _) hle101) h103 hc110⟩⟩ ?_
                        refine WO_pure tbok 3 [(6, .bool y_38)] rfl ⟨rfl, trivial⟩ ?_
                        refine WO_end ?_
                        cases hm
                        exact WK_ret (ret_out (L := []) (RLc_tmp rfl RLc_nil) (List.nil_sublist _) rfl)
                    · have hm := ifF hb108 hm
                      refine WO_pure tbok 5 [(6, .bool false), (152, .bool false), (155, undef)] rfl ⟨rfl, rfl, rfl, trivial⟩ ?_
                      refine WO_skip rfl rfl ?_
                      refine WO_pure tbok 3 [(6, .bool false)] rfl ⟨rfl, trivial⟩ ?_
                      refine WO_end ?_
                      cases hm
                      exact WK_ret (ret_out (L := []) (RLc_tmp rfl RLc_nil) (List.nil_sublist _) rfl)
                  · have hm := ifF hb106 hm
                    refine WO_pure tbok 2 [(6, .bool false), (12, .bool (!y_27)), (14, .slice a63 ((y_29).length) c64), (20, .slice a95 ((y_35).length) c96), (147, .bool false)] rfl ⟨rfl, rfl, rfl, rfl, rfl, trivial⟩ ?_
                    refine WO_skip rfl rfl ?_
                    refine WO_pure tbok 7 [(6, .bool false), (152, .bool false), (155, undef)] rfl ⟨rfl, rfl, rfl, trivial⟩ ?_
                    refine WO_skip rfl rfl ?_
                    refine WO_pure tbok 3 [(6, .bool false)] rfl ⟨rfl, trivial⟩ ?_
                    refine WO_end ?_
                    cases hm
                    exact WK_ret (ret_out (L := []) (RLc_tmp rfl RLc_nil) (List.nil_sublist _) rfl)
                · have hm := ifF hb105 hm
                  refine WO_pure tbok 6 [(6, .bool false), (12, .bool (!y_27)), (14, .slice a63 ((y_29).length) c64), (20, .slice a95 ((y_35).length) c96), (147, .bool false)] rfl ⟨rfl, rfl, rfl, rfl, rfl, trivial⟩ ?_
                  refine WO_skip rfl rfl ?_
                  refine WO_pure tbok 7 [(6, .bool false), (152, .bool false), (155, undef)] rfl ⟨rfl, rfl, rfl, trivial⟩ ?_
                  refine WO_skip rfl rfl ?_
                  refine WO_pure tbok 3 [(6, .bool false)] rfl ⟨rfl, trivial⟩ ?_
                  refine WO_end ?_
                  cases hm
                  exact WK_ret (ret_out (L := []) (RLc_tmp rfl RLc_nil) (List.nil_sublist _) rfl)
              · have hm := ifF hb104 hm
                refine WO_pure tbok 10 [(6, .bool false), (12, .bool (!y_27)), (14, .slice a63 ((y_29).length) c64), (20, .slice a95 ((y_35).length) c96), (147, .bool false)] rfl ⟨rfl, rfl, rfl, rfl, rfl, trivial⟩ ?_
                refine WO_skip rfl rfl ?_
                refine WO_pure tbok 7 [(6, .bool false), (152, .bool false), (155, undef)] rfl ⟨rfl, rfl, rfl, trivial⟩ ?_
                refine WO_skip rfl rfl ?_
                refine WO_pure tbok 3 [(6, .bool false)] rfl ⟨rfl, trivial⟩ ?_
                refine WO_end ?_
                cases hm
                exact WK_ret (ret_out (L := []) (RLc_tmp rfl RLc_nil) (List.nil_sublist _) rfl)
            · refine WK_block ?_
              refine WK_loop (S := List Int × List Int × Int) (G := List Ent × List Ent) (fun s => fiduciallaw21_DescriptorGreys_s2 p0_3 p2 l_13 s.1 s.2.1 s.2.2) (fun s g => [(1, .slice a_p1 p1.length c_p1), (2, .slice a_p2 p2.length c_p2), (3, .pointer (some ⟨b4, 0, none⟩)), (6, .bool false), (7, .pointer (some ⟨b16, 0, none⟩)), (8, .pointer (some ⟨b17, 0, none⟩)), (9, .slice a29 ((l_13).length) c31), (82, .int .i64 (p0_3.length : Int)), (83, .int .i64 s.2.2)]) (fun s g => St w0 m m [[⟨b4, 29, [.int .i64 p0_0, .int .i64 p0_1, .int .i64 p0_2, .slice a_p0_3 p0_3.length c_p0_3]⟩], [⟨b16, 29, [.int .i64 s_5, .int .i64 s_6, .int .i64 65535, .slice a10 ((l_3).length) c11]⟩], [⟨b17, 29, [.int .i64 s_8, .int .i64 s_9, .int .i64 65535, .slice a13 ((l_4).length) c14]⟩], g.1, g.2, L28]) (fun s g => OwnE 3 1 (I1 .i64) (.slice a10 ((l_3).length) c11) s.1 g.1 ∧ OwnE 3 1 (I1 .i64) (.slice a13 ((l_4).length) c14) s.2.1 g.2) FUEL (l_3, l_4, 0) (L12, L15) x49 hx50 ⟨hL12, hL15⟩ ⟨rfl, rfl, rfl, rfl, rfl, rfl, rfl, rfl, rfl, trivial⟩ (fun _ h => h) ?_
              rintro ⟨l_14, l_15, s_16⟩ ⟨L42, L44⟩ o53 fl54 hm52 ⟨hL42, hL44⟩ hn55 hd56
              have hm52 : fiduciallaw21_DescriptorGreys_s2 p0_3 p2 l_13 l_14 l_15 s_16 = some o53 := hm52
              unfold fiduciallaw21_DescriptorGreys_s2 at hm52
              refine WK.sub (e' := [(1, .slice a_p1 p1.length c_p1), (2, .slice a_p2 p2.length c_p2), (3, .pointer (some ⟨b4, 0, none⟩)), (6, .bool false), (7, .pointer (some ⟨b16, 0, none⟩)), (8, .pointer (some ⟨b17, 0, none⟩)), (9, .slice a29 ((l_13).length) c31), (82, .int .i64 (p0_3.length : Int)), (83, .int .i64 s_16)]) ⟨rfl, rfl, rfl, rfl, rfl, rfl, rfl, rfl, rfl, trivial⟩ (WK.cls (C' := St w0 m m [[⟨b4, 29, [.int .i64 p0_0, .int .i64 p0_1, .int .i64 p0_2, .slice a_p0_3 p0_3.length c_p0_3]⟩], [⟨b16, 29, [.int .i64 s_5, .int .i64 s_6, .int .i64 65535, .slice a10 ((l_3).length) c11]⟩], [⟨b17, 29, [.int .i64 s_8, .int .i64 s_9, .int .i64 65535, .slice a13 ((l_4).length) c14]⟩], L42, L44, L28]) (fun _ h => h) ?_)
              refine WK_seq ?_
              refine WK_region ?_
              refine WO_pure tbok 1 [(1, .slice a_p1 p1.length c_p1), (2, .slice a_p2 p2.length c_p2), (3, .pointer (some ⟨b4, 0, none⟩)), (6, .bool false), (7, .pointer (some ⟨b16, 0, none⟩)), (8, .pointer (some ⟨b17, 0, none⟩)), (9, .slice a29 ((l_13).length) c31), (82, .int .i64 (p0_3.length : Int)), (83, .int .i64 s_16), (84, .bool (decide (s_16 < (p0_3.length : Int))))] rfl ⟨rfl, rfl, rfl, rfl, rfl, rfl, rfl, rfl, rfl, rfl, trivial⟩ ?_
              refine WO_end ?_
              refine WK_seq ?_
              refine WK_cond (b := decide (s_16 < (p0_3.length : Int))) rfl (fun hb111 => ?_) (fun hb111 => ?_)
              · have hm52 := ifT hb111 hm52
                refine WK_skip ?_
                refine WK_seq ?_
                refine WK_block ?_
                refine WK_seq ?_
                refine WK_region ?_
                refine WO_pure tbok 2 [(1, .slice a_p1 p1.length c_p1), (2, .slice a_p2 p2.length c_p2), (3, .pointer (some ⟨b4, 0, none⟩)), (6, .bool false), (7, .pointer (some ⟨b16, 0, none⟩)), (8, .pointer (some ⟨b17, 0, none⟩)), (9, .slice a29 ((l_13).length) c31), (11, .int .i64 s_16), (82, .int .i64 (p0_3.length : Int)), (83, .int .i64 s_16)] rfl ⟨rfl, rfl, rfl, rfl, rfl, rfl, rfl, rfl, rfl, rfl, trivial⟩ ?_
                refine WO_end ?_
                refine WK_seq ?_
                refine WK_draw 14 [0, 1, 2, 3, 4, 5, 6, 7, 8, 9, 10, 11, 12, 13] follows_ok (by kernel_rfl) St_closed ?_
                refine WO_pure tbok 1 [(1, .slice a_p1 p1.length c_p1), (2, .slice a_p2 p2.length c_p2), (3, .pointer (some ⟨b4, 0, none⟩)), (6, .bool false), (7, .pointer (some ⟨b16, 0, none⟩)), (8, .pointer (some ⟨b17, 0, none⟩)), (9, .slice a29 ((l_13).length) c31), (11, .int .i64 s_16), (82, .int .i64 (p0_3.length : Int)), (83, .int .i64 s_16), (86, .pointer (some ⟨b16, 3, none⟩))] rfl ⟨rfl, rfl, rfl, rfl, rfl, rfl, rfl, rfl, rfl, rfl, rfl, trivial⟩ ?_
                refine WO_loadB tbok 1 rfl rfl rfl rfl (fun _ h => h) rfl rfl ?_
                refine WO_pure tbok 2 [(1, .slice a_p1 p1.length c_p1), (2, .slice a_p2 p2.length c_p2), (3, .pointer (some ⟨b4, 0, none⟩)), (6, .bool false), (7, .pointer (some ⟨b16, 0, none⟩)), (8, .pointer (some ⟨b17, 0, none⟩)), (9, .slice a29 ((l_13).length) c31), (11, .int .i64 s_16), (82, .int .i64 (p0_3.length : Int)), (83, .int .i64 s_16), (87, .slice a10 ((l_3).length) c11), (88, .int .i64 s_16), (89, .pointer (some ⟨b4, 3, none⟩))] rfl ⟨rfl, rfl, rfl, rfl, rfl, rfl, rfl, rfl, rfl, rfl, rfl, rfl, rfl, trivial⟩ ?_
                refine WO_loadB tbok 0 rfl rfl rfl rfl (fun _ h => h) rfl rfl ?_
                refine WO_pure tbok 1 [(1, .slice a_p1 p1.length c_p1), (2, .slice a_p2 p2.length c_p2), (3, .pointer (some ⟨b4, 0, none⟩)), (6, .bool false), (7, .pointer (some ⟨b16, 0, none⟩)), (8, .pointer (some ⟨b17, 0, none⟩)), (9, .slice a29 ((l_13).length) c31), (11, .int .i64 s_16), (82, .int .i64 (p0_3.length : Int)), (83, .int .i64 s_16), (87, .slice a10 ((l_3).length) c11), (88, .int .i64 s_16), (90, .slice a_p0_3 p0_3.length c_p0_3), (91, .int .i64 s_16)] rfl ⟨rfl, rfl, rfl, rfl, rfl, rfl, rfl, rfl, rfl, rfl, rfl, rfl, rfl, rfl, trivial⟩ ?_
                obtain ⟨v_39, hy112, hm52⟩ := bind_some hm52
                obtain ⟨hc113, hy112⟩ := ix_some hy112
                refine WO_index tbok rfl rfl rfl rfl rfl rfl rfl rfl (SlR.addr h_p0_3) hc113 ?_
                refine WO_loadE tbok rfl rfl rfl rfl (fun _ h => St.sat h) h_p0_3 hy112 rfl ?_
                refine WO_pure tbok 1 [(1, .slice a_p1 p1.length c_p1), (2, .slice a_p2 p2.length c_p2), (3, .pointer (some ⟨b4, 0, none⟩)), (6, .bool false), (7, .pointer (some ⟨b16, 0, none⟩)), (8, .pointer (some ⟨b17, 0, none⟩)), (9, .slice a29 ((l_13).length) c31), (11, .int .i64 s_16), (82, .int .i64 (p0_3.length : Int)), (83, .int .i64 s_16), (87, .slice a10 ((l_3).length) c11), (88, .int .i64 s_16), (93, .int .i64 v_39), (94, .slice a_p2 p2.length c_p2)] rfl ⟨rfl, rfl, rfl, rfl, rfl, rfl, rfl, rfl, rfl, rfl, rfl, rfl, rfl, rfl, trivial⟩ ?_
                obtain ⟨v_40, hy114, hm52⟩ := bind_some hm52
                obtain ⟨hc115, hy114⟩ := ix_some hy114
                refine WO_index tbok rfl rfl rfl rfl rfl rfl rfl rfl (SlR.addr h_p2) hc115 ?_
                refine WO_loadE tbok rfl rfl rfl rfl (fun _ h => St.sat h) h_p2 hy114 rfl ?_
                refine WO_pure tbok 2 [(1, .slice a_p1 p1.length c_p1), (2, .slice a_p2 p2.length c_p2), (3, .pointer (some ⟨b4, 0, none⟩)), (6, .bool false), (7, .pointer (some ⟨b16, 0, none⟩)), (8, .pointer (some ⟨b17, 0, none⟩)), (9, .slice a29 ((l_13).length) c31), (11, .int .i64 s_16), (82, .int .i64 (p0_3.length : Int)), (83, .int .i64 s_16), (87, .slice a10 ((l_3).length) c11), (88, .int .i64 s_16), (98, .int .i64 (w64 (v_39 + (w64 (v_40)))))] rfl ⟨rfl, rfl, rfl, rfl, rfl, rfl, rfl, rfl, rfl, rfl, rfl, rfl, rfl, trivial⟩ ?_
                obtain ⟨hc116, hm52⟩ := chk_some hm52
                refine WO_index tbok rfl rfl rfl rfl rfl rfl rfl rfl (OwnE.addr hL42) (by simpa using hc116) ?_
                refine WO_tail ?_
                refine WO_storeO (E := (I1 .i64)) tbok (fun _ => rfl) 3 (w64 (v_39 + (w64 (v_40)))) rfl rfl rfl rfl rfl hL42 rfl (by simpa using idx_lt hc116) rfl rfl rfl rfl (fun L117 hL117 => ?_)
                refine WO.cls (C' := St w0 m m [[⟨b4, 29, [.int .i64 p0_0, .int .i64 p0_1, .int .i64 p0_2, .slice a_p0_3 p0_3.length c_p0_3]⟩], [⟨b16, 29, [.int .i64 s_5, .int .i64 s_6, .int .i64 65535, .slice a10 ((l_3).length) c11]⟩], [⟨b17, 29, [.int .i64 s_8, .int .i64 s_9, .int .i64 65535, .slice a13 ((l_4).length) c14]⟩], L117, L44, L28]) (fun _ h => h) ?_
                refine WO_end ?_
                refine WK_draw 12 [0, 1, 2, 3, 4, 5, 6, 7, 8, 9, 10, 11] follows_ok (by kernel_rfl) St_closed ?_
                refine WO_pure tbok 1 [(1, .slice a_p1 p1.length c_p1), (2, .slice a_p2 p2.length c_p2), (3, .pointer (some ⟨b4, 0, none⟩)), (6, .bool false), (7, .pointer (some ⟨b16, 0, none⟩)), (8, .pointer (some ⟨b17, 0, none⟩)), (9, .slice a29 ((l_13).length) c31), (11, .int .i64 s_16), (82, .int .i64 (p0_3.length : Int)), (83, .int .i64 s_16), (100, .pointer (some ⟨b17, 3, none⟩))] rfl ⟨rfl, rfl, rfl, rfl, rfl, rfl, rfl, rfl, rfl, rfl, rfl, trivial⟩ ?_
                refine WO_loadB tbok 2 rfl rfl rfl rfl (fun _ h => h) rfl rfl ?_
                refine WO_pure tbok 3 [(1, .slice a_p1 p1.length c_p1), (2, .slice a_p2 p2.length c_p2), (3, .pointer (some ⟨b4, 0, none⟩)), (6, .bool false), (7, .pointer (some ⟨b16, 0, none⟩)), (8, .pointer (some ⟨b17, 0, none⟩)), (9, .slice a29 ((l_13).length) c31), (11, .int .i64 s_16), (82, .int .i64 (p0_3.length : Int)), (83, .int .i64 s_16), (101, .slice a13 ((l_4).length) c14), (102, .int .i64 s_16), (103, .slice a29 ((l_13).length) c31), (104, .pointer (some ⟨b4, 3, none⟩))] rfl ⟨rfl, rfl, rfl, rfl, rfl, rfl, rfl, rfl, rfl, rfl, rfl, rfl, rfl, rfl, trivial⟩ ?_
                refine WO_loadB tbok 0 rfl rfl rfl rfl (fun _ h => h) rfl rfl ?_
                refine WO_pure tbok 1 [(1, .slice a_p1 p1.length c_p1), (2, .slice a_p2 p2.length c_p2), (3, .pointer (some ⟨b4, 0, none⟩)), (6, .bool false), (7, .pointer (some ⟨b16, 0, none⟩)), (8, .pointer (some ⟨b17, 0, none⟩)), (9, .slice a29 ((l_13).length) c31), (82, .int .i64 (p0_3.length : Int)), (83, .int .i64 s_16), (101, .slice a13 ((l_4).length) c14), (102, .int .i64 s_16), (103, .slice a29 ((l_13).length) c31), (105, .slice a_p0_3 p0_3.length c_p0_3), (106, .int .i64 s_16)] rfl ⟨rfl, rfl, rfl, rfl, rfl, rfl, rfl, rfl, rfl, rfl, rfl, rfl, rfl, rfl, trivial⟩ ?_
                obtain ⟨v_41, hy119, hm52⟩ := bind_some hm52
                obtain ⟨hc120, hy119⟩ := ix_some hy119
                refine WO_index tbok rfl rfl rfl rfl rfl rfl rfl rfl (SlR.addr h_p0_3) hc120 ?_
                refine WO_loadE tbok rfl rfl rfl rfl (fun _ h => St.sat h) h_p0_3 hy119 rfl ?_
                obtain ⟨v_42, hy121, hm52⟩ := bind_some hm52
                obtain ⟨hc122, hy121⟩ := ix_some hy121
                refine WO_index tbok rfl rfl rfl rfl rfl rfl rfl rfl (OwnE.addr hL28) (by simpa using hc122) ?_
                refine WO_loadO (E := (I1 .i64)) tbok (fun _ => rfl) 5 rfl rfl rfl rfl (fun _ h => h) hL28 rfl hy121 rfl ?_
                obtain ⟨hc123, hm52⟩ := chk_some hm52
                refine WO_index tbok rfl rfl rfl rfl rfl rfl rfl rfl (OwnE.addr hL44) (by simpa using hc123) ?_
                refine WO_tail ?_
                refine WO_storeO (E := (I1 .i64)) tbok (fun _ => rfl) 4 v_42 rfl rfl rfl rfl rfl hL44 rfl (by simpa using idx_lt hc123) rfl rfl rfl rfl (fun L124 hL124 => ?_)
                refine WO.cls (C' := St w0 m m [[⟨b4, 29, [.int .i64 p0_0, .int .i64 p0_1, .int .i64 p0_2, .slice a_p0_3 p0_3.length c_p0_3]⟩], [⟨b16, 29, [.int .i64 s_5, .int .i64 s_6, .int .i64 65535, .slice a10 ((l_3).length) c11]⟩], [⟨b17, 29, [.int .i64 s_8, .int .i64 s_9, .int .i64 65535, .slice a13 ((l_4).length) c14]⟩], L117, L124, L28]) (fun _ h => h) ?_
                refine WO_end ?_
                refine WK_blk ?_
                refine WK_region ?_
                refine WO_pure tbok 2 [(1, .slice a_p1 p1.length c_p1), (2, .slice a_p2 p2.length c_p2), (3, .pointer (some ⟨b4, 0, none⟩)), (6, .bool false), (7, .pointer (some ⟨b16, 0, none⟩)), (8, .pointer (some ⟨b17, 0, none⟩)), (9, .slice a29 ((l_13).length) c31), (82, .int .i64 (p0_3.length : Int)), (83, .int .i64 (w64 (s_16 + 1)))] rfl ⟨rfl, rfl, rfl, rfl, rfl, rfl, rfl, rfl, rfl, trivial⟩ ?_
                refine WO_end ?_
                cases hm52
                refine WK.sub ?_ (WK.cls (fun _ h => h) (hn55 _ (L117, L124) rfl ⟨hL117, hL124⟩))
                exact ⟨rfl, rfl, rfl, rfl, rfl, rfl, rfl, rfl, rfl, trivial⟩
              · have hm52 := ifF hb111 hm52
                refine WK_exit rfl ?_
                cases hm52
                refine WK.sub ?_ (WK.cls (fun _ h => h) (hk51 ((l_14, l_15), (L42, L44)) ⟨(hd56 _ rfl), hL42, hL44⟩))
                exact ⟨rfl, rfl, rfl, rfl, rfl, trivial⟩
          · refine WK_block ?_
            refine WK_loop (S := List Int × Int) (G := Option Addr × Nat × Nat × List Ent) (fun s => fiduciallaw21_DescriptorGreys_s1 p0_2 p2 s.1 s.2) (fun s g => [(1, .slice a_p1 p1.length c_p1), (2, .slice a_p2 p2.length c_p2), (3, .pointer (some ⟨b4, 0, none⟩)), (6, .bool false), (7, .pointer (some ⟨b16, 0, none⟩)), (8, .pointer (some ⟨b17, 0, none⟩)), (9, .slice g.1 g.2.1 g.2.2.1), (57, .int .i64 p0_2), (58, .int .i64 s.2)]) (fun s g => St w0 m m [[⟨b4, 29, [.int .i64 p0_0, .int .i64 p0_1, .int .i64 p0_2, .slice a_p0_3 p0_3.length c_p0_3]⟩], [⟨b16, 29, [.int .i64 s_5, .int .i64 s_6, .int .i64 65535, .slice a10 ((l_3).length) c11]⟩], [⟨b17, 29, [.int .i64 s_8, .int .i64 s_9, .int .i64 65535, .slice a13 ((l_4).length) c14]⟩], L12, L15, g.2.2.2]) (fun s g => OwnE 3 1 (I1 .i64) (.slice g.1 g.2.1 g.2.2.1) s.1 g.2.2.2) FUEL (([0] : List Int), 0) (some ⟨b20, 0, none⟩, 1, 1, [⟨b20, 3, ([0] : List Int).flatMap (I1 .i64)⟩]) x32 hx33 hb20 ⟨rfl, rfl, rfl, rfl, rfl, rfl, rfl, rfl, rfl, trivial⟩ (fun _ h => h) ?_
            rintro ⟨l_11, s_12⟩ ⟨a24, q25, c26, L23⟩ o36 fl37 hm35 hL23 hn38 hd39
            have hm35 : fiduciallaw21_DescriptorGreys_s1 p0_2 p2 l_11 s_12 = some o36 := hm35
            unfold fiduciallaw21_DescriptorGreys_s1 at hm35
            have hqq : q25 = l_11.length := OwnE.qlen hL23
            subst hqq
            refine WK.sub (e' := [(1, .slice a_p1 p1.length c_p1), (2, .slice a_p2 p2.length c_p2), (3, .pointer (some ⟨b4, 0, none⟩)), (6, .bool false), (7, .pointer (some ⟨b16, 0, none⟩)), (8, .pointer (some ⟨b17, 0, none⟩)), (9, .slice a24 ((l_11).length) c26), (57, .int .i64 p0_2), (58, .int .i64 s_12)]) ⟨rfl, rfl, rfl, rfl, rfl, rfl, rfl, rfl, rfl, trivial⟩ (WK.cls (C' := St w0 m m [[⟨b4, 29, [.int .i64 p0_0, .int .i64 p0_1, .int .i64 p0_2, .slice a_p0_3 p0_3.length c_p0_3]⟩], [⟨b16, 29, [.int .i64 s_5, .int .i64 s_6, .int .i64 65535, .slice a10 ((l_3).length) c11]⟩], [⟨b17, 29, [.int .i64 s_8, .int .i64 s_9, .int .i64 65535, .slice a13 ((l_4).length) c14]⟩], L12, L15, L23]) (fun _ h => h) ?_)
            refine WK_seq ?_
            refine WK_region ?_
            refine WO_pure tbok 1 [(1, .slice a_p1 p1.length c_p1), (2, .slice a_p2 p2.length c_p2), (3, .pointer (some ⟨b4, 0, none⟩)), (6, .bool false), (7, .pointer (some ⟨b16, 0, none⟩)), (8, .pointer (some ⟨b17, 0, none⟩)), (9, .slice a24 ((l_11).length) c26), (57, .int .i64 p0_2), (58, .int .i64 s_12), (59, .bool (decide (s_12 < p0_2)))] rfl ⟨rfl, rfl, rfl, rfl, rfl, rfl, rfl, rfl, rfl, rfl, trivial⟩ ?_
            refine WO_end ?_
            refine WK_seq ?_
            refine WK_cond (b := decide (s_12 < p0_2)) rfl (fun hb126 => ?_) (fun hb126 => ?_)
            · have hm35 := ifT hb126 hm35
              refine WK_skip ?_
              refine WK_seq ?_
              refine WK_block ?_
              refine WK_seq ?_
              refine WK_region ?_
              refine WO_pure tbok 2 [(1, .slice a_p1 p1.length c_p1), (2, .slice a_p2 p2.length c_p2), (3, .pointer (some ⟨b4, 0, none⟩)), (6, .bool false), (7, .pointer (some ⟨b16, 0, none⟩)), (8, .pointer (some ⟨b17, 0, none⟩)), (9, .slice a24 ((l_11).length) c26), (10, .int .i64 s_12), (57, .int .i64 p0_2), (58, .int .i64 s_12)] rfl ⟨rfl, rfl, rfl, rfl, rfl, rfl, rfl, rfl, rfl, rfl, trivial⟩ ?_
              refine WO_end ?_
              refine WK_draw 17 [0, 1, 2, 3, 4, 5, 6, 7, 8, 9, 10, 11, 12, 13, 14, 15, 16] follows_ok (by kernel_rfl) St_closed ?_
              refine WO_pure tbok 3 [(1, .slice a_p1 p1.length c_p1), (2, .slice a_p2 p2.length c_p2), (3, .pointer (some ⟨b4, 0, none⟩)), (6, .bool false), (7, .pointer (some ⟨b16, 0, none⟩)), (8, .pointer (some ⟨b17, 0, none⟩)), (9, .slice a24 ((l_11).length) c26), (10, .int .i64 s_12), (57, .int .i64 p0_2), (58, .int .i64 s_12), (61, .slice a24 ((l_11).length) c26), (62, .slice a24 ((l_11).length) c26), (63, .int .i64 s_12)] rfl ⟨rfl, rfl, rfl, rfl, rfl, rfl, rfl, rfl, rfl, rfl, rfl, rfl, rfl, trivial⟩ ?_
              obtain ⟨v_43, hy127, hm35⟩ := bind_some hm35
              obtain ⟨hc128, hy127⟩ := ix_some hy127
              refine WO_index tbok rfl rfl rfl rfl rfl rfl rfl rfl (OwnE.addr hL23) (by simpa using hc128) ?_
              refine WO_loadO (E := (I1 .i64)) tbok (fun _ => rfl) 5 rfl rfl rfl rfl (fun _ h => h) hL23 rfl hy127 rfl ?_
              refine WO_pure tbok 5 [(1, .slice a_p1 p1.length c_p1), (2, .slice a_p2 p2.length c_p2), (3, .pointer (some ⟨b4, 0, none⟩)), (6, .bool false), (7, .pointer (some ⟨b16, 0, none⟩)), (8, .pointer (some ⟨b17, 0, none⟩)), (9, .slice a24 ((l_11).length) c26), (57, .int .i64 p0_2), (58, .int .i64 s_12), (61, .slice a24 ((l_11).length) c26), (66, .int .i64 (w64 (v_43 + 1))), (67, .slice a_p2 p2.length c_p2), (68, .int .i64 s_12), (70, .int .i64 (p2.length : Int))] rfl ⟨rfl, rfl, rfl, rfl, rfl, rfl, rfl, rfl, rfl, rfl, rfl, rfl, rfl, rfl, trivial⟩ ?_
              obtain ⟨hc129, hm35⟩ := chk_some hm35
              refine WO_rem rfl rfl rfl rfl rfl hc129 ?_
              obtain ⟨v_44, hy130, hm35⟩ := bind_some hm35
              obtain ⟨hc131, hy130⟩ := ix_some hy130
              refine WO_index tbok rfl rfl rfl rfl rfl rfl rfl rfl (SlR.addr h_p2) hc131 ?_
              refine WO_loadE tbok rfl rfl rfl rfl (fun _ h => St.sat h) h_p2 hy130 rfl ?_
              refine WO_pure tbok 3 [(1, .slice a_p1 p1.length c_p1), (2, .slice a_p2 p2.length c_p2), (3, .pointer (some ⟨b4, 0, none⟩)), (6, .bool false), (7, .pointer (some ⟨b16, 0, none⟩)), (8, .pointer (some ⟨b17, 0, none⟩)), (9, .slice a24 ((l_11).length) c26), (57, .int .i64 p0_2), (58, .int .i64 s_12), (61, .slice a24 ((l_11).length) c26), (76, .int .i64 (w64 ((w64 (v_43 + 1)) + (Int.tmod (w64 (v_44)) 100))))] rfl ⟨rfl, rfl, rfl, rfl, rfl, rfl, rfl, rfl, rfl, rfl, rfl, trivial⟩ ?_
              refine WO_bslice (E := (I1 .i64)) tbok (fun _ => rfl) (by decide) [.int .i64 (w64 ((w64 (v_43 + 1)) + (Int.tmod (w64 (v_44)) 100)))] ([w64 ((w64 (v_43 + 1)) + (Int.tmod (w64 (v_44)) 100))] : List Int) rfl rfl St_closed rfl rfl rfl rfl rfl rfl rfl rfl rfl rfl rfl rfl (fun b132 hb132 => ?_)
              refine WO.cls (C' := St w0 m m [[⟨b4, 29, [.int .i64 p0_0, .int .i64 p0_1, .int .i64 p0_2, .slice a_p0_3 p0_3.length c_p0_3]⟩], [⟨b16, 29, [.int .i64 s_5, .int .i64 s_6, .int .i64 65535, .slice a10 ((l_3).length) c11]⟩], [⟨b17, 29, [.int .i64 s_8, .int .i64 s_9, .int .i64 65535, .slice a13 ((l_4).length) c14]⟩], L12, L15, L23, [⟨b132, 3, ([w64 ((w64 (v_43 + 1)) + (Int.tmod (w64 (v_44)) 100))] : List Int).flatMap (I1 .i64)⟩]]) (fun _ h => h) ?_
              refine WO_tail ?_
              obtain ⟨hc134, hm35⟩ := chk_some hm35
              refine WO_append (E := (I1 .i64)) tbok (fun _ => rfl) 5 ([w64 ((w64 (v_43 + 1)) + (Int.tmod (w64 (v_44)) 100))] : List Int) (fun _ _ => rfl) rfl rfl rfl rfl rfl rfl rfl rfl rfl rfl rfl rfl hL23 rfl (src_seg (j := 6) rfl) (ap_ok (by decide) hc134) (ap_max hc134) (fun a135 c136 L137 hL137 => ?_)
              refine WO.cls (C' := St w0 m m [[⟨b4, 29, [.int .i64 p0_0, .int .i64 p0_1, .int .i64 p0_2, .slice a_p0_3 p0_3.length c_p0_3]⟩], [⟨b16, 29, [.int .i64 s_5, .int .i64 s_6, .int .i64 65535, .slice a10 ((l_3).length) c11]⟩], [⟨b17, 29, [.int .i64 s_8, .int .i64 s_9, .int .i64 65535, .slice a13 ((l_4).length) c14]⟩], L12, L15, L137, [⟨b132, 3, ([w64 ((w64 (v_43 + 1)) + (Int.tmod (w64 (v_44)) 100))] : List Int).flatMap (I1 .i64)⟩]]) (fun _ h => h) ?_
              refine WO_pure tbok 1 [(1, .slice a_p1 p1.length c_p1), (2, .slice a_p2 p2.length c_p2), (3, .pointer (some ⟨b4, 0, none⟩)), (6, .bool false), (7, .pointer (some ⟨b16, 0, none⟩)), (8, .pointer (some ⟨b17, 0, none⟩)), (9, .slice a135 ((l_11 ++ ([w64 ((w64 (v_43 + 1)) + (Int.tmod (w64 (v_44)) 100))] : List Int)).length) c136), (57, .int .i64 p0_2), (58, .int .i64 s_12)] rfl ⟨rfl, rfl, rfl, rfl, rfl, rfl, rfl, rfl, rfl, trivial⟩ ?_
              refine WO_end ?_
              refine WK_blk ?_
              refine WK_region ?_
              refine WO_pure tbok 2 [(1, .slice a_p1 p1.length c_p1), (2, .slice a_p2 p2.length c_p2), (3, .pointer (some ⟨b4, 0, none⟩)), (6, .bool false), (7, .pointer (some ⟨b16, 0, none⟩)), (8, .pointer (some ⟨b17, 0, none⟩)), (9, .slice a135 ((l_11 ++ ([w64 ((w64 (v_43 + 1)) + (Int.tmod (w64 (v_44)) 100))] : List Int)).length) c136), (57, .int .i64 p0_2), (58, .int .i64 (w64 (s_12 + 1)))] rfl ⟨rfl, rfl, rfl, rfl, rfl, rfl, rfl, rfl, rfl, trivial⟩ ?_
              refine WO_end ?_
              cases hm35
              refine WK.sub ?_ (WK.cls (fun _ h => St.take 6 h) (hn38 _ (a135, (l_11 ++ ([w64 ((w64 (v_43 + 1)) + (Int.tmod (w64 (v_44)) 100))] : List Int)).length, c136, L137) rfl hL137))
              exact ⟨rfl, rfl, rfl, rfl, rfl, rfl, rfl, rfl, rfl, trivial⟩
            · have hm35 := ifF hb126 hm35
              refine WK_exit rfl ?_
              cases hm35
              refine WK.sub ?_ (WK.cls (fun _ h => h) (hk34 (l_11, (a24, (l_11).length, c26, L23)) ⟨(hd39 _ rfl), hL23⟩))
              exact ⟨rfl, rfl, rfl, rfl, rfl, rfl, rfl, trivial⟩
        · refine WK_plan 6 [] (.run [0, 2] (.alt 1 (.alt 3 (.alt 4 (.run [5] .fin) (.alt 5 (.run [4] .fin) .none)) (.alt 4 (.alt 3 (.run [5] .fin) (.alt 5 (.run [3] .fin) .none)) (.alt 5 (.alt 3 (.run [4] .fin) (.alt 4 (.run [3] .fin) .none)) .none))) (.alt 4 (.alt 1 (.alt 3 (.run [5] .fin) (.alt 5 (.run [3] .fin) .none)) (.alt 5 (.run [1, 3] .fin) .none)) (.alt 5 (.alt 1 (.alt 3 (.run [4] .fin) (.alt 4 (.run [3] .fin) .none)) (.alt 4 (.run [1, 3] .fin) .none)) .none)))) follows_ok (by kernel_rfl) St_closed ?_
          refine WO_plan ?_
          refine WT_run ?_
          refine WO_loadB tbok 0 rfl rfl rfl rfl (fun _ h => h) rfl rfl ?_
          refine WO_loadB tbok 0 rfl rfl rfl rfl (fun _ h => h) rfl rfl ?_
          refine WO_tree rfl ?_
          refine WT_alt rfl ?_ ?_
          · obtain ⟨⟨y_45, y_46, y_47, y_48⟩, hc139, hx18⟩ := bind_some hx18
            refine WO_call1 (fiducialref13_Copy_Q (y_45, y_46, y_47, y_48)) rfl rfl St_closed rfl rfl rfl rfl ⟨30, #[], #[], rfl, callable_30, fun w hw => ⟨_, hw.sat, fiducialref13_Copy_walk h_p0_3 hc139⟩⟩ (fun v144 L143 hq => ?_)
            obtain ⟨a140, qa140, c141, rfl, hL143⟩ := hq
            obtain rfl := OwnE.qlen hL143
            refine WO.cls (C' := St w0 m m [[⟨b4, 29, [.int .i64 p0_0, .int .i64 p0_1, .int .i64 p0_2, .slice a_p0_3 p0_3.length c_p0_3]⟩], L143]) (fun _ h => h) ?_
            refine WO_tree rfl ?_
            refine WT_alt rfl ?_ ?_
            · obtain ⟨⟨y_49, y_50, y_51, y_52⟩, hc145, hx18⟩ := bind_some hx18
              refine WO_call1 (fiducialref13_Copy_Q (y_49, y_50, y_51, y_52)) rfl rfl St_closed rfl rfl rfl rfl ⟨30, #[], #[], rfl, callable_30, fun w hw => ⟨_, hw.sat, fiducialref13_Copy_walk h_p0_3 hc145⟩⟩ (fun v150 L149 hq => ?_)
              obtain ⟨a146, qa146, c147, rfl, hL149⟩ := hq
              obtain rfl := OwnE.qlen hL149
              refine WO.cls (C' := St w0 m m [[⟨b4, 29, [.int .i64 p0_0, .int .i64 p0_1, .int .i64 p0_2, .slice a_p0_3 p0_3.length c_p0_3]⟩], L143, L149]) (fun _ h => h) ?_
              refine WO_tree rfl ?_
              refine WT_alt rfl ?_ ?_
              · refine WO_alloc tbok [.int .i64 0, .int .i64 0, .int .i64 0, .slice none 0 0] rfl rfl St_closed rfl rfl rfl rfl (fun b151 => ?_)
                refine WO.cls (C' := St w0 m m [[⟨b4, 29, [.int .i64 p0_0, .int .i64 p0_1, .int .i64 p0_2, .slice a_p0_3 p0_3.length c_p0_3]⟩], L143, L149, [⟨b151, 29, [.int .i64 0, .int .i64 0, .int .i64 0, .slice none 0 0]⟩]]) (fun _ h => h) ?_
                refine WO_tree rfl ?_
                refine WT_run ?_
                refine WO_alloc tbok [.int .i64 0, .int .i64 0, .int .i64 0, .slice none 0 0] rfl rfl St_closed rfl rfl rfl rfl (fun b152 => ?_)
                refine WO.cls (C' := St w0 m m [[⟨b4, 29, [.int .i64 p0_0, .int .i64 p0_1, .int .i64 p0_2, .slice a_p0_3 p0_3.length c_p0_3]⟩], L143, L149, [⟨b151, 29, [.int .i64 0, .int .i64 0, .int .i64 0, .slice none 0 0]⟩], [⟨b152, 29, [.int .i64 0, .int .i64 0, .int .i64 0, .slice none 0 0]⟩]]) (fun _ h => h) ?_
                refine WO_tree rfl ?_
                refine WT_fin ?_
                refine WO_storeB tbok 3 [.int .i64 y_45, .int .i64 y_46, .int .i64 y_47, .slice a140 ((y_48).length) c141] rfl rfl rfl rfl rfl rfl rfl ?_
                refine WO.cls (C' := St w0 m m [[⟨b4, 29, [.int .i64 p0_0, .int .i64 p0_1, .int .i64 p0_2, .slice a_p0_3 p0_3.length c_p0_3]⟩], L143, L149, [⟨b151, 29, [.int .i64 y_45, .int .i64 y_46, .int .i64 y_47, .slice a140 ((y_48).length) c141]⟩], [⟨b152, 29, [.int .i64 0, .int .i64 0, .int .i64 0, .slice none 0 0]⟩]]) (fun _ h => h) ?_
                refine WO_storeB tbok 4 [.int .i64 y_49, .int .i64 y_50, .int .i64 y_51, .slice a146 ((y_52).length) c147] rfl rfl rfl rfl rfl rfl rfl ?_
                refine WO.cls (C' := St w0 m m [[⟨b4, 29, [.int .i64 p0_0, .int .i64 p0_1, .int .i64 p0_2, .slice a_p0_3 p0_3.length c_p0_3]⟩], L143, L149, [⟨b151, 29, [.int .i64 y_45, .int .i64 y_46, .int .i64 y_47, .slice a140 ((y_48).length) c141]⟩], [⟨b152, 29, [.int .i64 y_49, .int .i64 y_50, .int .i64 y_51, .slice a146 ((y_52).length) c147]⟩]]) (fun _ h => h) ?_
                refine WO_end ?_
                refine WK.cls (fun _ h => h.perm (Ls' := [[⟨b4, 29, [.int .i64 p0_0, .int .i64 p0_1, .int .i64 p0_2, .slice a_p0_3 p0_3.length c_p0_3]⟩], [⟨b151, 29, [.int .i64 y_45, .int .i64 y_46, .int .i64 y_47, .slice a140 ((y_48).length) c141]⟩], [⟨b152, 29, [.int .i64 y_49, .int .i64 y_50, .int .i64 y_51, .slice a146 ((y_52).length) c147]⟩], L143, L149]) (List.Perm.flatten ((((List.Perm.cons _ (List.Perm.cons _ (List.Perm.swap _ _ _))).trans (List.Perm.cons _ (List.Perm.swap _ _ _))).trans (List.Perm.cons _ (List.Perm.cons _ (List.Perm.cons _ (List.Perm.swap _ _ _))))).trans (List.Perm.cons _ (List.Perm.cons _ (List.Perm.swap _ _ _)))))) ?_
                cases hx18
                refine WK.sub ?_ (hk19 ⟨a140, c141, L143, a146, c147, L149, b151, b152⟩ ⟨hL143, hL149⟩)
                exact ⟨rfl, rfl, rfl, rfl, rfl, rfl, trivial⟩
              · refine WT_alt rfl ?_ ?_
                · refine WO_alloc tbok [.int .i64 0, .int .i64 0, .int .i64 0, .slice none 0 0] rfl rfl St_closed rfl rfl rfl rfl (fun b153 => ?_)
                  refine WO.cls (C' := St w0 m m [[⟨b4, 29, [.int .i64 p0_0, .int .i64 p0_1, .int .i64 p0_2, .slice a_p0_3 p0_3.length c_p0_3]⟩], L143, L149, [⟨b153, 29, [.int .i64 0, .int .i64 0, .int .i64 0, .slice none 0 0]⟩]]) (fun _ h => h) ?_
                  refine WO_tree rfl ?_
                  refine WT_run ?_
                  refine WO_alloc tbok [.int .i64 0, .int .i64 0, .int .i64 0, .slice none 0 0] rfl rfl St_closed rfl rfl rfl rfl (fun b154 => ?_)
                  refine WO.cls (C' := St w0 m m [[⟨b4, 29, [.int .i64 p0_0, .int .i64 p0_1, .int .i64 p0_2, .slice a_p0_3 p0_3.length c_p0_3]⟩], L143, L149, [⟨b153, 29, [.int .i64 0, .int .i64 0, .int .i64 0, .slice none 0 0]⟩], [⟨b154, 29, [.int .i64 0, .int .i64 0, .int .i64 0, .slice none 0 0]⟩]]) (fun _ h => h) ?_
                  refine WO_tree rfl ?_
                  refine WT_fin ?_
                  refine WO_storeB tbok 4 [.int .i64 y_45, .int .i64 y_46, .int .i64 y_47, .slice a140 ((y_48).length) c141] rfl rfl rfl rfl rfl rfl rfl ?_
                  refine WO.cls (C' := St w0 m m [[⟨b4, 29, [.int .i64 p0_0, .int .i64 p0_1, .int .i64 p0_2, .slice a_p0_3 p0_3.length c_p0_3]⟩], L143, L149, [⟨b153, 29, [.int .i64 0, .int .i64 0, .int .i64 0, .slice none 0 0]⟩], [⟨b154, 29, [.int .i64 y_45, .int .i64 y_46, .int .i64 y_47, .slice a140 ((y_48).length) c141]⟩]]) (fun _ h => h) ?_
                  refine WO_storeB tbok 3 [.int .i64 y_49, .int .i64 y_50, .int .i64 y_51, .slice a146 ((y_52).length) c147] rfl rfl rfl rfl rfl rfl rfl ?_
                  refine WO.cls (C' := St w0 m m [[⟨b4, 29, [.int .i64 p0_0, .int .i64 p0_1, .int .i64 p0_2, .slice a_p0_3 p0_3.length c_p0_3]⟩], L143, L149, [⟨b153, 29, [.int .i64 y_49, .int .i64 y_50, .int .i64 y_51, .slice a146 ((y_52).length) c147]⟩], [⟨b154, 29, [.int .i64 y_45, .int .i64 y_46, .int .i64 y_47, .slice a140 ((y_48).length) c141]⟩]]) (fun _ h => h) ?_
                  refine WO_end ?_
                  refine WK.cls (fun _ h => h.perm (Ls' := [[⟨b4, 29, [.int .i64 p0_0, .int .i64 p0_1, .int .i64 p0_2, .slice a_p0_3 p0_3.length c_p0_3]⟩], [⟨b154, 29, [.int .i64 y_45, .int .i64 y_46, .int .i64 y_47, .slice a140 ((y_48).length) c141]⟩], [⟨b153, 29, [.int .i64 y_49, .int .i64 y_50, .int .i64 y_51, .slice a146 ((y_52).length) c147]⟩], L143, L149]) (List.Perm.flatten (((((List.Perm.cons _ (List.Perm.cons _ (List.Perm.cons _ (List.Perm.swap _ _ _)))).trans (List.Perm.cons _ (List.Perm.cons _ (List.Perm.swap _ _ _)))).trans (List.Perm.cons _ (List.Perm.swap _ _ _))).trans (List.Perm.cons _ (List.Perm.cons _ (List.Perm.cons _ (List.Perm.swap _ _ _))))).trans (List.Perm.cons _ (List.Perm.cons _ (List.Perm.swap _ _ _)))))) ?_
                  cases hx18
                  refine WK.sub ?_ (hk19 ⟨a140, c141, L143, a146, c147, L149, b154, b153⟩ ⟨hL143, hL149⟩)
                  exact ⟨rfl, rfl, rfl, rfl, rfl, rfl, trivial⟩
                · exact WT_none
            · refine WT_alt rfl ?_ ?_
              · refine WO_alloc tbok [.int .i64 0, .int .i64 0, .int .i64 0, .slice none 0 0] rfl rfl St_closed rfl rfl rfl rfl (fun b155 => ?_)
                refine WO.cls (C' := St w0 m m [[⟨b4, 29, [.int .i64 p0_0, .int .i64 p0_1, .int .i64 p0_2, .slice a_p0_3 p0_3.length c_p0_3]⟩], L143, [⟨b155, 29, [.int .i64 0, .int .i64 0, .int .i64 0, .slice none 0 0]⟩]]) (fun _ h => h) ?_
                refine WO_tree rfl ?_
                refine WT_alt rfl ?_ ?_
                · obtain ⟨⟨y_49, y_50, y_51, y_52⟩, hc156, hx18⟩ := bind_some hx18
                  refine WO_call1 (fiducialref13_Copy_Q (y_49, y_50, y_51, y_52)) rfl rfl St_closed rfl rfl rfl rfl ⟨30, #[], #[], rfl, callable_30, fun w hw => ⟨_, hw.sat, fiducialref13_Copy_walk h_p0_3 hc156⟩⟩ (fun v161 L160 hq => ?_)
                  obtain ⟨a157, qa157, c158, rfl, hL160⟩ := hq
                  obtain rfl := OwnE.qlen hL160
                  refine WO.cls (C' := St w0 m m [[⟨b4, 29, [.int .i64 p0_0, .int .i64 p0_1, .int .i64 p0_2, .slice a_p0_3 p0_3.length c_p0_3]⟩], L143, [⟨b155, 29, [.int .i64 0, .int .i64 0, .int .i64 0, .slice none 0 0]⟩], L160]) (fun _ h => h) ?_
                  refine WO_tree rfl ?_
                  refine WT_run ?_
                  refine WO_alloc tbok [.int .i64 0, .int .i64 0, .int .i64 0, .slice none 0 0] rfl rfl St_closed rfl rfl rfl rfl (fun b162 => ?_)
                  refine WO.cls (C' := St w0 m m [[⟨b4, 29, [.int .i64 p0_0, .int .i64 p0_1, .int .i64 p0_2, .slice a_p0_3 p0_3.length c_p0_3]⟩], L143, [⟨b155, 29, [.int .i64 0, .int .i64 0, .int .i64 0, .slice none 0 0]⟩], L160, [⟨b162, 29, [.int .i64 0, .int .i64 0, .int .i64 0, .slice none 0 0]⟩]]) (fun _ h => h) ?_
                  refine WO_tree rfl ?_
                  refine WT_fin ?_
                  refine WO_storeB tbok 2 [.int .i64 y_45, .int .i64 y_46, .int .i64 y_47, .slice a140 ((y_48).length) c141] rfl rfl rfl rfl rfl rfl rfl ?_
                  refine WO.cls (C' := St w0 m m [[⟨b4, 29, [.int .i64 p0_0, .int .i64 p0_1, .int .i64 p0_2, .slice a_p0_3 p0_3.length c_p0_3]⟩], L143, [⟨b155, 29, [.int .i64 y_45, .int .i64 y_46, .int .i64 y_47, .slice a140 ((y_48).length) c141]⟩], L160, [⟨b162, 29, [.int .i64 0, .int .i64 0, .int .i64 0, .slice none 0 0]⟩]]) (fun _ h => h) ?_
                  refine WO_storeB tbok 4 [.int .i64 y_49, .int .i64 y_50, .int .i64 y_51, .slice a157 ((y_52).length) c158] rfl rfl rfl rfl rfl rfl rfl ?_
                  refine WO.cls (C' := St w0 m m [[⟨b4, 29, [.int .i64 p0_0, .int .i64 p0_1, .int .i64 p0_2, .slice a_p0_3 p0_3.length c_p0_3]⟩], L143, [⟨b155, 29, [.int .i64 y_45, .int .i64 y_46, .int .i64 y_47, .slice a140 ((y_48).length) c141]⟩], L160, [⟨b162, 29, [.int .i64 y_49, .int .i64 y_50, .int .i64 y_51, .slice a157 ((y_52).length) c158]⟩]]) (fun _ h => h) ?_
                  refine WO_end ?_
                  refine WK.cls (fun _ h => h.perm (Ls' := [[⟨b4, 29, [.int .i64 p0_0, .int .i64 p0_1, .int .i64 p0_2, .slice a_p0_3 p0_3.length c_p0_3]⟩], [⟨b155, 29, [.int .i64 y_45, .int .i64 y_46, .int .i64 y_47, .slice a140 ((y_48).length) c141]⟩], [⟨b162, 29, [.int .i64 y_49, .int .i64 y_50, .int .i64 y_51, .slice a157 ((y_52).length) c158]⟩], L143, L160]) (List.Perm.flatten (((List.Perm.cons _ (List.Perm.swap _ _ _)).trans (List.Perm.cons _ (List.Perm.cons _ (List.Perm.cons _ (List.Perm.swap _ _ _))))).trans (List.Perm.cons _ (List.Perm.cons _ (List.Perm.swap _ _ _)))))) ?_
                  cases hx18
                  refine WK.sub ?_ (hk19 ⟨a140, c141, L143, a157, c158, L160, b155, b162⟩ ⟨hL143, hL160⟩)
                  exact ⟨rfl, rfl, rfl, rfl, rfl, rfl, trivial⟩
                · refine WT_alt rfl ?_ ?_
                  · refine WO_alloc tbok [.int .i64 0, .int .i64 0, .int .i64 0, .slice none 0 0] rfl rfl St_closed rfl rfl rfl rfl (fun b163 => ?_)
                    refine WO.cls (C' := St w0 m m [[⟨b4, 29, [.int .i64 p0_0, .int .i64 p0_1, .int .i64 p0_2, .slice a_p0_3 p0_3.length c_p0_3]⟩], L143, [⟨b155, 29, [.int .i64 0, .int .i64 0, .int .i64 0, .slice none 0 0]⟩], [⟨b163, 29, [.int .i64 0, .int .i64 0, .int .i64 0, .slice none 0 0]⟩]]) (fun _ h => h) ?_
                    refine WO_tree rfl ?_
                    refine WT_run ?_
                    obtain ⟨⟨y_49, y_50, y_51, y_52⟩, hc164, hx18⟩ := bind_some hx18
                    refine WO_call1 (fiducialref13_Copy_Q (y_49, y_50, y_51, y_52)) rfl rfl St_closed rfl rfl rfl rfl ⟨30, #[], #[], rfl, callable_30, fun w hw => ⟨_, hw.sat, fiducialref13_Copy_walk h_p0_3 hc164⟩⟩ (fun v169 L168 hq => ?_)
                    obtain ⟨a165, qa165, c166, rfl, hL168⟩ := hq
                    obtain rfl := OwnE.qlen hL168
                    refine WO.cls (C' := St w0 m m [[⟨b4, 29, [.int .i64 p0_0, .int .i64 p0_1, .int .i64 p0_2, .slice a_p0_3 p0_3.length c_p0_3]⟩], L143, [⟨b155, 29, [.int .i64 0, .int .i64 0, .int .i64 0, .slice none 0 0]⟩], [⟨b163, 29, [.int .i64 0, .int .i64 0, .int .i64 0, .slice none 0 0]⟩], L168]) (fun _ h => h) ?_
                    refine WO_tree rfl ?_
                    refine WT_fin ?_
                    refine WO_storeB tbok 2 [.int .i64 y_45, .int .i64 y_46, .int .i64 y_47, .slice a140 ((y_48).length) c141] rfl rfl rfl rfl rfl rfl rfl ?_
                    refine WO.cls (C' := St w0 m m [[⟨b4, 29, [.int .i64 p0_0, .int .i64 p0_1, .int .i64 p0_2, .slice a_p0_3 p0_3.length c_p0_3]⟩], L143, [⟨b155, 29, [.int .i64 y_45, .int .i64 y_46, .int .i64 y_47, .slice a140 ((y_48).length) c141]⟩], [⟨b163, 29, [.int .i64 0, .int .i64 0, .int .i64 0, .slice none 0 0]⟩], L168]) (fun _ h => h) ?_
                    refine WO_storeB tbok 3 [.int .i64 y_49, .int .i64 y_50, .int .i64 y_51, .slice a165 ((y_52).length) c166] rfl rfl rfl rfl rfl rfl rfl ?_
                    refine WO.cls (C' := St w0 m m [[⟨b4, 29, [.int .i64 p0_0, .int .i64 p0_1, .int .i64 p0_2, .slice a_p0_3 p0_3.length c_p0_3]⟩], L143, [⟨b155, 29, [.int .i64 y_45, .int .i64 y_46, .int .i64 y_47, .slice a140 ((y_48).length) c141]⟩], [⟨b163, 29, [.int .i64 y_49, .int .i64 y_50, .int .i64 y_51, .slice a165 ((y_52).length) c166]⟩], L168]) (fun _ h => h) ?_
                    refine WO_end ?_
                    refine WK.cls (fun _ h => h.perm (Ls' := [[⟨b4, 29, [.int .i64 p0_0, .int .i64 p0_1, .int .i64 p0_2, .slice a_p0_3 p0_3.length c_p0_3]⟩], [⟨b155, 29, [.int .i64 y_45, .int .i64 y_46, .int .i64 y_47, .slice a140 ((y_48).length) c141]⟩], [⟨b163, 29, [.int .i64 y_49, .int .i64 y_50, .int .i64 y_51, .slice a165 ((y_52).length) c166]⟩], L143, L168]) (List.Perm.flatten ((List.Perm.cons _ (List.Perm.swap _ _ _)).trans (List.Perm.cons _ (List.Perm.cons _ (List.Perm.swap _ _ _)))))) ?_
                    cases hx18
                    refine WK.sub ?_ (hk19 ⟨a140, c141, L143, a165, c166, L168, b155, b163⟩ ⟨hL143, hL168⟩)
                    exact ⟨rfl, rfl, rfl, rfl, rfl, rfl, trivial⟩
                  · exact WT_none
              · refine WT_alt rfl ?_ ?_
                · refine WO_alloc tbok [.int .i64 0, .int .i64 0, .int .i64 0, .slice none 0 0] rfl rfl St_closed rfl rfl rfl rfl (fun b170 => ?_)
                  refine WO.cls (C' := St w0 m m [[⟨b4, 29, [.int .i64 p0_0, .int .i64 p0_1, .int .i64 p0_2, .slice a_p0_3 p0_3.length c_p0_3]⟩], L143, [⟨b170, 29, [.int .i64 0, .int .i64 0, .int .i64 0, .slice none 0 0]⟩]]) (fun _ h => h) ?_
                  refine WO_tree rfl ?_
                  refine WT_alt rfl ?_ ?_
                  · obtain ⟨⟨y_49, y_50, y_51, y_52⟩, hc171, hx18⟩ := bind_some hx18
                    refine WO_call1 (fiducialref13_Copy_Q (y_49, y_50, y_51, y_52)) rfl rfl St_closed rfl rfl rfl rfl ⟨30, #[], #[], rfl, callable_30, fun w hw => ⟨_, hw.sat, fiducialref13_Copy_walk h_p0_3 hc171⟩⟩ (fun v176 L175 hq => ?_)
                    obtain ⟨a172, qa172, c173, rfl, hL175⟩ := hq
                    obtain rfl := OwnE.qlen hL175
                    refine WO.cls (C' := St w0 m m [[⟨b4, 29, [.int .i64 p0_0, .int .i64 p0_1, .int .i64 p0_2, .slice a_p0_3 p0_3.length c_p0_3]⟩], L143, [⟨b170, 29, [.int .i64 0, .int .i64 0, .int .i64 0, .slice none 0 0]⟩], L175]) (fun _ h => h) ?_
                    refine WO_tree rfl ?_
                    refine WT_run ?_
                    refine WO_alloc tbok [.int .i64 0, .int .i64 0, .int .i64 0, .slice none 0 0] rfl rfl St_closed rfl rfl rfl rfl (fun b177 => ?_)
                    refine WO.cls (C' := St w0 m m [[⟨b4, 29, [.int .i64 p0_0, .int .i64 p0_1, .int .i64 p0_2, .slice a_p0_3 p0_3.length c_p0_3]⟩], L143, [⟨b170, 29, [.int .i64 0, .int .i64 0, .int .i64 0, .slice none 0 0]⟩], L175, [⟨b177, 29, [.int .i64 0, .int .i64 0, .int .i64 0, .slice none 0 0]⟩]]) (fun _ h => h) ?_
                    refine WO_tree rfl ?_
                    refine WT_fin ?_
                    refine WO_storeB tbok 4 [.int .i64 y_45, .int .i64 y_46, .int .i64 y_47, .slice a140 ((y_48).length) c141] rfl rfl rfl rfl rfl rfl rfl ?_
                    refine WO.cls (C' := St w0 m m [[⟨b4, 29, [.int .i64 p0_0, .int .i64 p0_1, .int .i64 p0_2, .slice a_p0_3 p0_3.length c_p0_3]⟩], L143, [⟨b170, 29, [.int .i64 0, .int .i64 0, .int .i64 0, .slice none 0 0]⟩], L175, [⟨b177, 29, [.int .i64 y_45, .int .i64 y_46, .int .i64 y_47, .slice a140 ((y_48).length) c141]⟩]]) (fun _ h => h) ?_
                    refine WO_storeB tbok 2 [.int .i64 y_49, .int .i64 y_50, .int .i64 y_51, .slice a172 ((y_52).length) c173] rfl rfl rfl rfl rfl rfl rfl ?_
                    refine WO.cls (C' := St w0 m m [[⟨b4, 29, [.int .i64 p0_0, .int .i64 p0_1, .int .i64 p0_2, .slice a_p0_3 p0_3.length c_p0_3]⟩], L143, [⟨b170, 29, [.int .i64 y_49, .int .i64 y_50, .int .i64 y_51, .slice a172 ((y_52).length) c173]⟩], L175, [⟨b177, 29, [.int .i64 y_45, .int .i64 y_46, .int .i64 y_47, .slice a140 ((y_48).length) c141]⟩]]) (fun _ h => h) ?_
                    refine WO_end ?_
                    refine WK.cls (fun _ h => h.perm (Ls' := [[⟨b4, 29, [.int .i64 p0_0, .int .i64 p0_1, .int .i64 p0_2, .slice a_p0_3 p0_3.length c_p0_3]⟩], [⟨b177, 29, [.int .i64 y_45, .int .i64 y_46, .int .i64 y_47, .slice a140 ((y_48).length) c141]⟩], [⟨b170, 29, [.int .i64 y_49, .int .i64 y_50, .int .i64 y_51, .slice a172 ((y_52).length) c173]⟩], L143, L175]) (List.Perm.flatten ((((List.Perm.cons _ (List.Perm.cons _ (List.Perm.cons _ (List.Perm.swap _ _ _)))).trans (List.Perm.cons _ (List.Perm.cons _ (List.Perm.swap _ _ _)))).trans (List.Perm.cons _ (List.Perm.swap _ _ _))).trans (List.Perm.cons _ (List.Perm.cons _ (List.Perm.swap _ _ _)))))) ?_
                    cases hx18
                    refine WK.sub ?_ (hk19 ⟨a140, c141, L143, a172, c173, L175, b177, b170⟩ ⟨hL143, hL175⟩)
                    exact ⟨rfl, rfl, rfl, rfl, rfl, rfl, trivial⟩
                  · refine WT_alt rfl ?_ ?_
                    · refine WO_alloc tbok [.int .i64 0, .int .i64 0, .int .i64 0, .slice none 0 0] rfl rfl St_closed rfl rfl rfl rfl (fun b178 => ?_)
                      refine WO.cls (C' := St w0 m m [[⟨b4, 29, [.int .i64 p0_0, .int .i64 p0_1, .int .i64 p0_2, .slice a_p0_3 p0_3.length c_p0_3]⟩], L143, [⟨b170, 29, [.int .i64 0, .int .i64 0, .int .i64 0, .slice none 0 0]⟩], [⟨b178, 29, [.int .i64 0, .int .i64 0, .int .i64 0, .slice none 0 0]⟩]]) (fun _ h => h) ?_
                      refine WO_tree rfl ?_
                      refine WT_run ?_
                      obtain ⟨⟨y_49, y_50, y_51, y_52⟩, hc179, hx18⟩ := bind_some hx18
                      refine WO_call1 (fiducialref13_Copy_Q (y_49, y_50, y_51, y_52)) rfl rfl St_closed rfl rfl rfl rfl ⟨30, #[], #[], rfl, callable_30, fun w hw => ⟨_, hw.sat, fiducialref13_Copy_walk h_p0_3 hc179⟩⟩ (fun v184 L183 hq => ?_)
                      obtain ⟨a180, qa180, c181, rfl, hL183⟩ := hq
                      obtain rfl := OwnE.qlen hL183
                      refine WO.cls (C' := St w0 m m [[⟨b4, 29, [.int .i64 p0_0, .int .i64 p0_1, .int .i64 p0_2, .slice a_p0_3 p0_3.length c_p0_3]⟩], L143, [⟨b170, 29, [.int .i64 0, .int .i64 0, .int .i64 0, .slice none 0 0]⟩], [⟨b178, 29, [.int .i64 0, .int .i64 0, .int .i64 0, .slice none 0 0]⟩], L183]) (fun _ h => h) ?_
                      refine WO_tree rfl ?_
                      refine WT_fin ?_
                      refine WO_storeB tbok 3 [.int .i64 y_45, .int .i64 y_46, .int .i64 y_47, .slice a140 ((y_48).length) c141] rfl rfl rfl rfl rfl rfl rfl ?_
                      refine WO.cls (C' := St w0 m m [[⟨b4, 29, [.int .i64 p0_0, .int .i64 p0_1, .int .i64 p0_2, .slice a_p0_3 p0_3.length c_p0_3]⟩], L143, [⟨b170, 29, [.int .i64 0, .int .i64 0, .int .i64 0, .slice none 0 0]⟩], [⟨b178, 29, [.int .i64 y_45, .int .i64 y_46, .int .i64 y_47, .slice a140 ((y_48).length) c141]⟩], L183]) (fun _ h => h) ?_
                      refine WO_storeB tbok 2 [.int .i64 y_49, .int .i64 y_50, .int .i64 y_51, .slice a180 ((y_52).length) c181] rfl rfl rfl rfl rfl rfl rfl ?_
                      refine WO.cls (C' := St w0 m m [[⟨b4, 29, [.int .i64 p0_0, .int .i64 p0_1, .int .i64 p0_2, .slice a_p0_3 p0_3.length c_p0_3]⟩], L143, [⟨b170, 29, [.int .i64 y_49, .int .i64 y_50, .int .i64 y_51, .slice a180 ((y_52).length) c181]⟩], [⟨b178, 29, [.int .i64 y_45, .int .i64 y_46, .int .i64 y_47, .slice a140 ((y_48).length) c141]⟩], L183]) (fun _ h => h) ?_
                      refine WO_end ?_
                      refine WK.cls (fun _ h => h.perm (Ls' := [[⟨b4, 29, [.int .i64 p0_0, .int .i64 p0_1, .int .i64 p0_2, .slice a_p0_3 p0_3.length c_p0_3]⟩], [⟨b178, 29, [.int .i64 y_45, .int .i64 y_46, .int .i64 y_47, .slice a140 ((y_48).length) c141]⟩], [⟨b170, 29, [.int .i64 y_49, .int .i64 y_50, .int .i64 y_51, .slice a180 ((y_52).length) c181]⟩], L143, L183]) (List.Perm.flatten (((List.Perm.cons _ (List.Perm.cons _ (List.Perm.swap _ _ _))).trans (List.Perm.cons _ (List.Perm.swap _ _ _))).trans (List.Perm.cons _ (List.Perm.cons _ (List.Perm.swap _ _ _)))))) ?_
                      cases hx18
                      refine WK.sub ?_ (hk19 ⟨a140, c141, L143, a180, c181, L183, b178, b170⟩ ⟨hL143, hL183⟩)
                      exact ⟨rfl, rfl, rfl, rfl, rfl, rfl, trivial⟩
                    · exact WT_none
                · exact WT_none
          · refine WT_alt rfl ?_ ?_
            · refine WO_alloc tbok [.int .i64 0, .int .i64 0, .int .i64 0, .slice none 0 0] rfl rfl St_closed rfl rfl rfl rfl (fun b185 => ?_)
              refine WO.cls (C' := St w0 m m [[⟨b4, 29, [.int .i64 p0_0, .int .i64 p0_1, .int .i64 p0_2, .slice a_p0_3 p0_3.length c_p0_3]⟩], [⟨b185, 29, [.int .i64 0, .int .i64 0, .int .i64 0, .slice none 0 0]⟩]]) (fun _ h => h) ?_
              refine WO_tree rfl ?_
              refine WT_alt rfl ?_ ?_
              · obtain ⟨⟨y_45, y_46, y_47, y_48⟩, hc186, hx18⟩ := bind_some hx18
                refine WO_call1 (fiducialref13_Copy_Q (y_45, y_46, y_47, y_48)) rfl rfl St_closed rfl rfl rfl rfl ⟨30, #[], #[], rfl, callable_30, fun w hw => ⟨_, hw.sat, fiducialref13_Copy_walk h_p0_3 hc186⟩⟩ (fun v191 L190 hq => ?_)
                obtain ⟨a187, qa187, c188, rfl, hL190⟩ := hq
                obtain rfl := OwnE.qlen hL190
                refine WO.cls (C' := St w0 m m [[⟨b4, 29, [.int .i64 p0_0, .int .i64 p0_1, .int .i64 p0_2, .slice a_p0_3 p0_3.length c_p0_3]⟩], [⟨b185, 29, [.int .i64 0, .int .i64 0, .int .i64 0, .slice none 0 0]⟩], L190]) (fun _ h => h) ?_
                refine WO_tree rfl ?_
                refine WT_alt rfl ?_ ?_
                · obtain ⟨⟨y_49, y_50, y_51, y_52⟩, hc192, hx18⟩ := bind_some hx18
                  refine WO_call1 (fiducialref13_Copy_Q (y_49, y_50, y_51, y_52)) rfl rfl St_closed rfl rfl rfl rfl ⟨30, #[], #[], rfl, callable_30, fun w hw => ⟨_, hw.sat, fiducialref13_Copy_walk h_p0_3 hc192⟩⟩ (fun v197 L196 hq => ?_)
                  obtain ⟨a193, qa193, c194, rfl, hL196⟩ := hq
                  obtain rfl := OwnE.qlen hL196
                  refine WO.cls (C' := St w0 m m [[⟨b4, 29, [.int .i64 p0_0, .int .i64 p0_1, .int .i64 p0_2, .slice a_p0_3 p0_3.length c_p0_3]⟩], [⟨b185, 29, [.int .i64 0, .int .i64 0, .int .i64 0, .slice none 0 0]⟩], L190, L196]) (fun _ h => h) ?_
                  refine WO_tree rfl ?_
                  refine WT_run ?_
                  refine WO_alloc tbok [.int .i64 0, .int .i64 0, .int .i64 0, .slice none 0 0] rfl rfl St_closed rfl rfl rfl rfl (fun b198 => ?_)
                  refine WO.cls (C' := St w0 m m [[⟨b4, 29, [.int .i64 p0_0, .int .i64 p0_1, .int .i64 p0_2, .slice a_p0_3 p0_3.length c_p0_3]⟩], [⟨b185, 29, [.int .i64 0, .int .i64 0, .int .i64 0, .slice none 0 0]⟩], L190, L196, [⟨b198, 29, [.int .i64 0, .int .i64 0, .int .i64 0, .slice none 0 0]⟩]]) (fun _ h => h) ?_
                  refine WO_tree rfl ?_
                  refine WT_fin ?_
                  refine WO_storeB tbok 1 [.int .i64 y_45, .int .i64 y_46, .int .i64 y_47, .slice a187 ((y_48).length) c188] rfl rfl rfl rfl rfl rfl rfl ?_
                  refine WO.cls (C' := St w0 m m [[⟨b4, 29, [.int .i64 p0_0, .int .i64 p0_1, .int .i64 p0_2, .slice a_p0_3 p0_3.length c_p0_3]⟩], [⟨b185, 29, [.int .i64 y_45, .int .i64 y_46, .int .i64 y_47, .slice a187 ((y_48).length) c188]⟩], L190, L196, [⟨b198, 29, [.int .i64 0, .int .i64 0, .int .i64 0, .slice none 0 0]⟩]]) (fun _ h => h) ?_
                  refine WO_storeB tbok 4 [.int .i64 y_49, .int .i64 y_50, .int .i64 y_51, .slice a193 ((y_52).length) c194] rfl rfl rfl rfl rfl rfl rfl ?_
                  refine WO.cls (C' := St w0 m m [[⟨b4, 29, [.int .i64 p0_0, .int .i64 p0_1, .int .i64 p0_2, .slice a_p0_3 p0_3.length c_p0_3]⟩], [⟨b185, 29, [.int .i64 y_45, .int .i64 y_46, .int .i64 y_47, .slice a187 ((y_48).length) c188]⟩], L190, L196, [⟨b198, 29, [.int .i64 y_49, .int .i64 y_50, .int .i64 y_51, .slice a193 ((y_52).length) c194]⟩]]) (fun _ h => h) ?_
                  refine WO_end ?_
                  refine WK.cls (fun _ h => h.perm (Ls' := [[⟨b4, 29, [.int .i64 p0_0, .int .i64 p0_1, .int .i64 p0_2, .slice a_p0_3 p0_3.length c_p0_3]⟩], [⟨b185, 29, [.int .i64 y_45, .int .i64 y_46, .int .i64 y_47, .slice a187 ((y_48).length) c188]⟩], [⟨b198, 29, [.int .i64 y_49, .int .i64 y_50, .int .i64 y_51, .slice a193 ((y_52).length) c194]⟩], L190, L196]) (List.Perm.flatten ((List.Perm.cons _ (List.Perm.cons _ (List.Perm.cons _ (List.Perm.swap _ _ _)))).trans (List.Perm.cons _ (List.Perm.cons _ (List.Perm.swap _ _ _)))))) ?_
                  cases hx18
                  refine WK.sub ?_ (hk19 ⟨a187, c188, L190, a193, c194, L196, b185, b198⟩ ⟨hL190, hL196⟩)
                  exact ⟨rfl, rfl, rfl, rfl, rfl, rfl, trivial⟩
                · refine WT_alt rfl ?_ ?_
                  · refine WO_alloc tbok [.int .i64 0, .int .i64 0, .int .i64 0, .slice none 0 0] rfl rfl St_closed rfl rfl rfl rfl (fun b199 => ?_)
                    refine WO.cls (C' := St w0 m m [[⟨b4, 29, [.int .i64 p0_0, .int .i64 p0_1, .int .i64 p0_2, .slice a_p0_3 p0_3.length c_p0_3]⟩], [⟨b185, 29, [.int .i64 0, .int .i64 0, .int .i64 0, .slice none 0 0]⟩], L190, [⟨b199, 29, [.int .i64 0, .int .i64 0, .int .i64 0, .slice none 0 0]⟩]]) (fun _ h => h) ?_
                    refine WO_tree rfl ?_
                    refine WT_run ?_
                    obtain ⟨⟨y_49, y_50, y_51, y_52⟩, hc200, hx18⟩ := bind_some hx18
                    refine WO_call1 (fiducialref13_Copy_Q (y_49, y_50, y_51, y_52)) rfl rfl St_closed rfl rfl rfl rfl ⟨30, #[], #[], rfl, callable_30, fun w hw => ⟨_, hw.sat, fiducialref13_Copy_walk h_p0_3 hc200⟩⟩ (fun v205 L204 hq => ?_)
                    obtain ⟨a201, qa201, c202, rfl, hL204⟩ := hq
                    obtain rfl := OwnE.qlen hL204
                    refine WO.cls (C' := St w0 m m [[⟨b4, 29, [.int .i64 p0_0, .int .i64 p0_1, .int .i64 p0_2, .slice a_p0_3 p0_3.length c_p0_3]⟩], [⟨b185, 29, [.int .i64 0, .int .i64 0, .int .i64 0, .slice none 0 0]⟩], L190, [⟨b199, 29, [.int .i64 0, .int .i64 0, .int .i64 0, .slice none 0 0]⟩], L204]) (fun _ h => h) ?_
                    refine WO_tree rfl ?_
                    refine WT_fin ?_
                    refine WO_storeB tbok 1 [.int .i64 y_45, .int .i64 y_46, .int .i64 y_47, .slice a187 ((y_48).length) c188] rfl rfl rfl rfl rfl rfl rfl ?_
                    refine WO.cls (C' := St w0 m m [[⟨b4, 29, [.int .i64 p0_0, .int .i64 p0_1, .int .i64 p0_2, .slice a_p0_3 p0_3.length c_p0_3]⟩], [⟨b185, 29, [.int .i64 y_45, .int .i64 y_46, .int .i64 y_47, .slice a187 ((y_48).length) c188]⟩], L190, [⟨b199, 29, [.int .i64 0, .int .i64 0, .int .i64 0, .slice none 0 0]⟩], L204]) (fun _ h => h) ?_
                    refine WO_storeB tbok 3 [.int .i64 y_49, .int .i64 y_50, .int .i64 y_51, .slice a201 ((y_52).length) c202] rfl rfl rfl rfl rfl rfl rfl ?_
                    refine WO.cls (C' := St w0 m m [[⟨b4, 29, [.int .i64 p0_0, .int .i64 p0_1, .int .i64 p0_2, .slice a_p0_3 p0_3.length c_p0_3]⟩], [⟨b185, 29, [.int .i64 y_45, .int .i64 y_46, .int .i64 y_47, .slice a187 ((y_48).length) c188]⟩], L190, [⟨b199, 29, [.int .i64 y_49, .int .i64 y_50, .int .i64 y_51, .slice a201 ((y_52).length) c202]⟩], L204]) (fun _ h => h) ?_
                    refine WO_end ?_
                    refine WK.cls (fun _ h => h.perm (Ls' := [[⟨b4, 29, [.int .i64 p0_0, .int .i64 p0_1, .int .i64 p0_2, .slice a_p0_3 p0_3.length c_p0_3]⟩], [⟨b185, 29, [.int .i64 y_45, .int .i64 y_46, .int .i64 y_47, .slice a187 ((y_48).length) c188]⟩], [⟨b199, 29, [.int .i64 y_49, .int .i64 y_50, .int .i64 y_51, .slice a201 ((y_52).length) c202]⟩], L190, L204]) (List.Perm.flatten (List.Perm.cons _ (List.Perm.cons _ (List.Perm.swap _ _ _))))) ?_
                    cases hx18
                    refine WK.sub ?_ (hk19 ⟨a187, c188, L190, a201, c202, L204, b185, b199⟩ ⟨hL190, hL204⟩)
                    exact ⟨rfl, rfl, rfl, rfl, rfl, rfl, trivial⟩
                  · exact WT_none
              · refine WT_alt rfl ?_ ?_
                · refine WO_alloc tbok [.int .i64 0, .int .i64 0, .int .i64 0, .slice none 0 0] rfl rfl St_closed rfl rfl rfl rfl (fun b206 => ?_)
                  refine WO.cls (C' := St w0 m m [[⟨b4, 29, [.int .i64 p0_0, .int .i64 p0_1, .int .i64 p0_2, .slice a_p0_3 p0_3.length c_p0_3]⟩], [⟨b185, 29, [.int .i64 0, .int .i64 0, .int .i64 0, .slice none 0 0]⟩], [⟨b206, 29, [.int .i64 0, .int .i64 0, .int .i64 0, .slice none 0 0]⟩]]) (fun _ h => h) ?_
                  refine WO_tree rfl ?_
                  refine WT_run ?_
                  obtain ⟨⟨y_45, y_46, y_47, y_48⟩, hc207, hx18⟩ := bind_some hx18
                  refine WO_call1 (fiducialref13_Copy_Q (y_45, y_46, y_47, y_48)) rfl rfl St_closed rfl rfl rfl rfl ⟨30, #[], #[], rfl, callable_30, fun w hw => ⟨_, hw.sat, fiducialref13_Copy_walk h_p0_3 hc207⟩⟩ (fun v212 L211 hq => ?_)
                  obtain ⟨a208, qa208, c209, rfl, hL211⟩ := hq
                  obtain rfl := OwnE.qlen hL211
                  refine WO.cls (C' := St w0 m m [[⟨b4, 29, [.int .i64 p0_0, .int .i64 p0_1, .int .i64 p0_2, .slice a_p0_3 p0_3.length c_p0_3]⟩], [⟨b185, 29, [.int .i64 0, .int .i64 0, .int .i64 0, .slice none 0 0]⟩], [⟨b206, 29, [.int .i64 0, .int .i64 0, .int .i64 0, .slice none 0 0]⟩], L211]) (fun _ h => h) ?_
                  obtain ⟨⟨y_49, y_50, y_51, y_52⟩, hc213, hx18⟩ := bind_some hx18
                  refine WO_call1 (fiducialref13_Copy_Q (y_49, y_50, y_51, y_52)) rfl rfl St_closed rfl rfl rfl rfl ⟨30, #[], #[], rfl, callable_30, fun w hw => ⟨_, hw.sat, fiducialref13_Copy_walk h_p0_3 hc213⟩⟩ (fun v218 L217 hq => ?_)
                  obtain ⟨a214, qa214, c215, rfl, hL217⟩ := hq
                  obtain rfl := OwnE.qlen hL217
                  refine WO.cls (C' := St w0 m m [[⟨b4, 29, [.int .i64 p0_0, .int .i64 p0_1, .int .i64 p0_2, .slice a_p0_3 p0_3.length c_p0_3]⟩], [⟨b185, 29, [.int .i64 0, .int .i64 0, .int .i64 0, .slice none 0 0]⟩], [⟨b206, 29, [.int .i64 0, .int .i64 0, .int .i64 0, .slice none 0 0]⟩], L211, L217]) (fun _ h => h) ?_
                  refine WO_tree rfl ?_
                  refine WT_fin ?_
                  refine WO_storeB tbok 1 [.int .i64 y_45, .int .i64 y_46, .int .i64 y_47, .slice a208 ((y_48).length) c209] rfl rfl rfl rfl rfl rfl rfl ?_
                  refine WO.cls (C' := St w0 m m [[⟨b4, 29, [.int .i64 p0_0, .int .i64 p0_1, .int .i64 p0_2, .slice a_p0_3 p0_3.length c_p0_3]⟩], [⟨b185, 29, [.int .i64 y_45, .int .i64 y_46, .int .i64 y_47, .slice a208 ((y_48).length) c209]⟩], [⟨b206, 29, [.int .i64 0, .int .i64 0, .int .i64 0, .slice none 0 0]⟩], L211, L217]) (fun _ h => h) ?_
                  refine WO_storeB tbok 2 [.int .i64 y_49, .int .i64 y_50, .int .i64 y_51, .slice a214 ((y_52).length) c215] rfl rfl rfl rfl rfl rfl rfl ?_
                  refine WO.cls (C' := St w0 m m [[⟨b4, 29, [.int .i64 p0_0, .int .i64 p0_1, .int .i64 p0_2, .slice a_p0_3 p0_3.length c_p0_3]⟩], [⟨b185, 29, [.int .i64 y_45, .int .i64 y_46, .int .i64 y_47, .slice a208 ((y_48).length) c209]⟩], [⟨b206, 29, [.int .i64 y_49, .int .i64 y_50, .int .i64 y_51, .slice a214 ((y_52).length) c215]⟩], L211, L217]) (fun _ h => h) ?_
                  refine WO_end ?_
                  cases hx18
                  refine WK.sub ?_ (hk19 ⟨a208, c209, L211, a214, c215, L217, b185, b206⟩ ⟨hL211, hL217⟩)
                  exact ⟨rfl, rfl, rfl, rfl, rfl, rfl, trivial⟩
                · exact WT_none
            · refine WT_alt rfl ?_ ?_
              · refine WO_alloc tbok [.int .i64 0, .int .i64 0, .int .i64 0, .slice none 0 0] rfl rfl St_closed rfl rfl rfl rfl (fun b219 => ?_)
                refine WO.cls (C' := St w0 m m [[⟨b4, 29, [.int .i64 p0_0, .int .i64 p0_1, .int .i64 p0_2, .slice a_p0_3 p0_3.length c_p0_3]⟩], [⟨b219, 29, [.int .i64 0, .int .i64 0, .int .i64 0, .slice none 0 0]⟩]]) (fun _ h => h) ?_
                refine WO_tree rfl ?_
                refine WT_alt rfl ?_ ?_
                · obtain ⟨⟨y_45, y_46, y_47, y_48⟩, hc220, hx18⟩ := bind_some hx18
                  refine WO_call1 (fiducialref13_Copy_Q (y_45, y_46, y_47, y_48)) rfl rfl St_closed rfl rfl rfl rfl ⟨30, #[], #[], rfl, callable_30, fun w hw => ⟨_, hw.sat, fiducialref13_Copy_walk h_p0_3 hc220⟩⟩ (fun v225 L224 hq => ?_)
                  obtain ⟨a221, qa221, c222, rfl, hL224⟩ := hq
                  obtain rfl := OwnE.qlen hL224
                  refine WO.cls (C' := St w0 m m [[⟨b4, 29, [.int .i64 p0_0, .int .i64 p0_1, .int .i64 p0_2, .slice a_p0_3 p0_3.length c_p0_3]⟩], [⟨b219, 29, [.int .i64 0, .int .i64 0, .int .i64 0, .slice none 0 0]⟩], L224]) (fun _ h => h) ?_
                  refine WO_tree rfl ?_
                  refine WT_alt rfl ?_ ?_
                  · obtain ⟨⟨y_49, y_50, y_51, y_52⟩, hc226, hx18⟩ := bind_some hx18
                    refine WO_call1 (fiducialref13_Copy_Q (y_49, y_50, y_51, y_52)) rfl rfl St_closed rfl rfl rfl rfl ⟨30, #[], #[], rfl, callable_30, fun w hw => ⟨_, hw.sat, fiducialref13_Copy_walk h_p0_3 hc226⟩⟩ (fun v231 L230 hq => ?_)
                    obtain ⟨a227, qa227, c228, rfl, hL230⟩ := hq
                    obtain rfl := OwnE.qlen hL230
                    refine WO.cls (C' := St w0 m m [[⟨b4, 29, [.int .i64 p0_0, .int .i64 p0_1, .int .i64 p0_2, .slice a_p0_3 p0_3.length c_p0_3]⟩], [⟨b219, 29, [.int .i64 0, .int .i64 0, .int .i64 0, .slice none 0 0]⟩], L224, L230]) (fun _ h => h) ?_
                    refine WO_tree rfl ?_
                    refine WT_run ?_
                    refine WO_alloc tbok [.int .i64 0, .int .i64 0, .int .i64 0, .slice none 0 0] rfl rfl St_closed rfl rfl rfl rfl (fun b232 => ?_)
                    refine WO.cls (C' := St w0 m m [[⟨b4, 29, [.int .i64 p0_0, .int .i64 p0_1, .int .i64 p0_2, .slice a_p0_3 p0_3.length c_p0_3]⟩], [⟨b219, 29, [.int .i64 0, .int .i64 0, .int .i64 0, .slice none 0 0]⟩], L224, L230, [⟨b232, 29, [.int .i64 0, .int .i64 0, .int .i64 0, .slice none 0 0]⟩]]) (fun _ h => h) ?_
                    refine WO_tree rfl ?_
                    refine WT_fin ?_
                    refine WO_storeB tbok 4 [.int .i64 y_45, .int .i64 y_46, .int .i64 y_47, .slice a221 ((y_48).length) c222] rfl rfl rfl rfl rfl rfl rfl ?_
                    refine WO.cls (C' := St w0 m m [[⟨b4, 29, [.int .i64 p0_0, .int .i64 p0_1, .int .i64 p0_2, .slice a_p0_3 p0_3.length c_p0_3]⟩], [⟨b219, 29, [.int .i64 0, .int .i64 0, .int .i64 0, .slice none 0 0]⟩], L224, L230, [⟨b232, 29, [.int .i64 y_45, .int .i64 y_46, .int .i64 y_47, .slice a221 ((y_48).length) c222]⟩]]) (fun _ h => h) ?_
                    refine WO_storeB tbok 1 [.int .i64 y_49, .int .i64 y_50, .int .i64 y_51, .slice a227 ((y_52).length) c228] rfl rfl rfl rfl rfl rfl rfl ?_
                    refine WO.cls (C' := St w0 m m [[⟨b4, 29, [.int .i64 p0_0, .int .i64 p0_1, .int .i64 p0_2, .slice a_p0_3 p0_3.length c_p0_3]⟩], [⟨b219, 29, [.int .i64 y_49, .int .i64 y_50, .int .i64 y_51, .slice a227 ((y_52).length) c228]⟩], L224, L230, [⟨b232, 29, [.int .i64 y_45, .int .i64 y_46, .int .i64 y_47, .slice a221 ((y_48).length) c222]⟩]]) (fun _ h => h) ?_
                    refine WO_end ?_
                    refine WK.cls (fun _ h => h.perm (Ls' := [[⟨b4, 29, [.int .i64 p0_0, .int .i64 p0_1, .int .i64 p0_2, .slice a_p0_3 p0_3.length c_p0_3]⟩], [⟨b232, 29, [.int .i64 y_45, .int .i64 y_46, .int .i64 y_47, .slice a221 ((y_48).length) c222]⟩], [⟨b219, 29, [.int .i64 y_49, .int .i64 y_50, .int .i64 y_51, .slice a227 ((y_52).length) c228]⟩], L224, L230]) (List.Perm.flatten (((List.Perm.cons _ (List.Perm.cons _ (List.Perm.cons _ (List.Perm.swap _ _ _)))).trans (List.Perm.cons _ (List.Perm.cons _ (List.Perm.swap _ _ _)))).trans (List.Perm.cons _ (List.Perm.swap _ _ _))))) ?_
                    cases hx18
                    refine WK.sub ?_ (hk19 ⟨a221, c222, L224, a227, c228, L230, b232, b219⟩ ⟨hL224, hL230⟩)
                    exact ⟨rfl, rfl, rfl, rfl, rfl, rfl, trivial⟩
                  · refine WT_alt rfl ?_ ?_
                    · refine WO_alloc tbok [.int .i64 0, .int .i64 0, .int .i64 0, .slice none 0 0] rfl rfl St_closed rfl rfl rfl rfl (fun b233 => ?_)
                      refine WO.cls (C' := St w0 m m [[⟨b4, 29, [.int .i64 p0_0, .int .i64 p0_1, .int .i64 p0_2, .slice a_p0_3 p0_3.length c_p0_3]⟩], [⟨b219, 29, [.int .i64 0, .int .i64 0, .int .i64 0, .slice none 0 0]⟩], L224, [⟨b233, 29, [.int .i64 0, .int .i64 0, .int .i64 0, .slice none 0 0]⟩]]) (fun _ h => h) ?_
                      refine WO_tree rfl ?_
                      refine WT_run ?_
                      obtain ⟨⟨y_49, y_50, y_51, y_52⟩, hc234, hx18⟩ := bind_some hx18
                      refine WO_call1 (fiducialref13_Copy_Q (y_49, y_50, y_51, y_52)) rfl rfl St_closed rfl rfl rfl rfl ⟨30, #[], #[], rfl, callable_30, fun w hw => ⟨_, hw.sat, fiducialref13_Copy_walk h_p0_3 hc234⟩⟩ (fun v239 L238 hq => ?_)
                      obtain ⟨a235, qa235, c236, rfl, hL238⟩ := hq
                      obtain rfl := OwnE.qlen hL238
                      refine WO.cls (C' := St w0 m m [[⟨b4, 29, [.int .i64 p0_0, .int .i64 p0_1, .int .i64 p0_2, .slice a_p0_3 p0_3.length c_p0_3]⟩], [⟨b219, 29, [.int .i64 0, .int .i64 0, .int .i64 0, .slice none 0 0]⟩], L224, [⟨b233, 29, [.int .i64 0, .int .i64 0, .int .i64 0, .slice none 0 0]⟩], L238]) (fun _ h => h) ?_
                      refine WO_tree rfl ?_
                      refine WT_fin ?_
                      refine WO_storeB tbok 3 [.int .i64 y_45, .int .i64 y_46, .int .i64 y_47, .slice a221 ((y_48).length) c222] rfl rfl rfl rfl rfl rfl rfl ?_
                      refine WO.cls (C' := St w0 m m [[⟨b4, 29, [.int .i64 p0_0, .int .i64 p0_1, .int .i64 p0_2, .slice a_p0_3 p0_3.length c_p0_3]⟩], [⟨b219, 29, [.int .i64 0, .int .i64 0, .int .i64 0, .slice none 0 0]⟩], L224, [⟨b233, 29, [.int .i64 y_45, .int .i64 y_46, .int .i64 y_47, .slice a221 ((y_48).length) c222]⟩], L238]) (fun _ h => h) ?_
                      refine WO_storeB tbok 1 [.int .i64 y_49, .int .i64 y_50, .int .i64 y_51, .slice a235 ((y_52).length) c236] rfl rfl rfl rfl rfl rfl rfl ?_
                      refine WO.cls (C' := St w0 m m [[⟨b4, 29, [.int .i64 p0_0, .int .i64 p0_1, .int .i64 p0_2, .slice a_p0_3 p0_3.length c_p0_3]⟩], [⟨b219, 29, [.int .i64 y_49, .int .i64 y_50, .int .i64 y_51, .slice a235 ((y_52).length) c236]⟩], L224, [⟨b233, 29, [.int .i64 y_45, .int .i64 y_46, .int .i64 y_47, .slice a221 ((y_48).length) c222]⟩], L238]) (fun _ h => h) ?_
                      refine WO_end ?_
                      refine WK.cls (fun _ h => h.perm (Ls' := [[⟨b4, 29, [.int .i64 p0_0, .int .i64 p0_1, .int .i64 p0_2, .slice a_p0_3 p0_3.length c_p0_3]⟩], [⟨b233, 29, [.int .i64 y_45, .int .i64 y_46, .int .i64 y_47, .slice a221 ((y_48).length) c222]⟩], [⟨b219, 29, [.int .i64 y_49, .int .i64 y_50, .int .i64 y_51, .slice a235 ((y_52).length) c236]⟩], L224, L238]) (List.Perm.flatten ((List.Perm.cons _ (List.Perm.cons _ (List.Perm.swap _ _ _))).trans (List.Perm.cons _ (List.Perm.swap _ _ _))))) ?_
                      cases hx18
                      refine WK.sub ?_ (hk19 ⟨a221, c222, L224, a235, c236, L238, b233, b219⟩ ⟨hL224, hL238⟩)
                      exact ⟨rfl, rfl, rfl, rfl, rfl, rfl, trivial⟩
                    · exact WT_none
                · refine WT_alt rfl ?_ ?_
                  · refine WO_alloc tbok [.int .i64 0, .int .i64 0, .int .i64 0, .slice none 0 0] rfl rfl St_closed rfl rfl rfl rfl (fun b240 => ?_)
                    refine WO.cls (C' := St w0 m m [[⟨b4, 29, [.int .i64 p0_0, .int .i64 p0_1, .int .i64 p0_2, .slice a_p0_3 p0_3.length c_p0_3]⟩], [⟨b219, 29, [.int .i64 0, .int .i64 0, .int .i64 0, .slice none 0 0]⟩], [⟨b240, 29, [.int .i64 0, .int .i64 0, .int .i64 0, .slice none 0 0]⟩]]) (fun _ h => h) ?_
                    refine WO_tree rfl ?_
                    refine WT_run ?_
                    obtain ⟨⟨y_45, y_46, y_47, y_48⟩, hc241, hx18⟩ := bind_some hx18
                    refine WO_call1 (fiducialref13_Copy_Q (y_45, y_46, y_47, y_48)) rfl rfl St_closed rfl rfl rfl rfl ⟨30, #[], #[], rfl, callable_30, fun w hw => ⟨_, hw.sat, fiducialref13_Copy_walk h_p0_3 hc241⟩⟩ (fun v246 L245 hq => ?_)
                    obtain ⟨a242, qa242, c243, rfl, hL245⟩ := hq
                    obtain rfl := OwnE.qlen hL245
                    refine WO.cls (C' := St w0 m m [[⟨b4, 29, [.int .i64 p0_0, .int .i64 p0_1, .int .i64 p0_2, .slice a_p0_3 p0_3.length c_p0_3]⟩], [⟨b219, 29, [.int .i64 0, .int .i64 0, .int .i64 0, .slice none 0 0]⟩], [⟨b240, 29, [.int .i64 0, .int .i64 0, .int .i64 0, .slice none 0 0]⟩], L245]) (fun _ h => h) ?_
                    obtain ⟨⟨y_49, y_50, y_51, y_52⟩, hc247, hx18⟩ := bind_some hx18
                    refine WO_call1 (fiducialref13_Copy_Q (y_49, y_50, y_51, y_52)) rfl rfl St_closed rfl rfl rfl rfl ⟨30, #[], #[], rfl, callable_30, fun w hw => ⟨_, hw.sat, fiducialref13_Copy_walk h_p0_3 hc247⟩⟩ (fun v252 L251 hq => ?_)
                    obtain ⟨a248, qa248, c249, rfl, hL251⟩ := hq
                    obtain rfl := OwnE.qlen hL251
                    refine WO.cls (C' := St w0 m m [[⟨b4, 29, [.int .i64 p0_0, .int .i64 p0_1, .int .i64 p0_2, .slice a_p0_3 p0_3.length c_p0_3]⟩], [⟨b219, 29, [.int .i64 0, .int .i64 0, .int .i64 0, .slice none 0 0]⟩], [⟨b240, 29, [.int .i64 0, .int .i64 0, .int .i64 0, .slice none 0 0]⟩], L245, L251]) (fun _ h => h) ?_
                    refine WO_tree rfl ?_
                    refine WT_fin ?_
                    refine WO_storeB tbok 2 [.int .i64 y_45, .int .i64 y_46, .int .i64 y_47, .slice a242 ((y_48).length) c243] rfl rfl rfl rfl rfl rfl rfl ?_
                    refine WO.cls (C' := St w0 m m [[⟨b4, 29, [.int .i64 p0_0, .int .i64 p0_1, .int .i64 p0_2, .slice a_p0_3 p0_3.length c_p0_3]⟩], [⟨b219, 29, [.int .i64 0, .int .i64 0, .int .i64 0, .slice none 0 0]⟩], [⟨b240, 29, [.int .i64 y_45, .int .i64 y_46, .int .i64 y_47, .slice a242 ((y_48).length) c243]⟩], L245, L251]) (fun _ h => h) ?_
                    refine WO_storeB tbok 1 [.int .i64 y_49, .int .i64 y_50, .int .i64 y_51, .slice a248 ((y_52).length) c249] rfl rfl rfl rfl rfl rfl rfl ?_
                    refine WO.cls (C' := St w0 m m [[⟨b4, 29, [.int .i64 p0_0, .int .i64 p0_1, .int .i64 p0_2, .slice a_p0_3 p0_3.length c_p0_3]⟩], [⟨b219, 29, [.int .i64 y_49, .int .i64 y_50, .int .i64 y_51, .slice a248 ((y_52).length) c249]⟩], [⟨b240, 29, [.int .i64 y_45, .int .i64 y_46, .int .i64 y_47, .slice a242 ((y_48).length) c243]⟩], L245, L251]) (fun _ h => h) ?_
                    refine WO_end ?_
                    refine WK.cls (fun _ h => h.perm (Ls' := [[⟨b4, 29, [.int .i64 p0_0, .int .i64 p0_1, .int .i64 p0_2, .slice a_p0_3 p0_3.length c_p0_3]⟩], [⟨b240, 29, [.int .i64 y_45, .int .i64 y_46, .int .i64 y_47, .slice a242 ((y_48).length) c243]⟩], [⟨b219, 29, [.int .i64 y_49, .int .i64 y_50, .int .i64 y_51, .slice a248 ((y_52).length) c249]⟩], L245, L251]) (List.Perm.flatten (List.Perm.cons _ (List.Perm.swap _ _ _)))) ?_
                    cases hx18
                    refine WK.sub ?_ (hk19 ⟨a242, c243, L245, a248, c249, L251, b240, b219⟩ ⟨hL245, hL251⟩)
                    exact ⟨rfl, rfl, rfl, rfl, rfl, rfl, trivial⟩
                  · exact WT_none
              · exact WT_none
    · refine WK_region ?_
      refine WO_loadB tbok 0 rfl rfl rfl rfl (fun _ h => h) rfl rfl ?_
      refine WO_pure tbok 1 [(1, .slice a_p1 p1.length c_p1), (2, .slice a_p2 p2.length c_p2), (3, .pointer (some ⟨b4, 0, none⟩)), (6, .bool false), (24, .agg #[.int .i64 p0_0, .int .i64 p0_1, .int .i64 p0_2, .slice a_p0_3 p0_3.length c_p0_3]), (25, .slice a_p1 p1.length c_p1)] rfl ⟨rfl, rfl, rfl, rfl, rfl, rfl, trivial⟩ ?_
      obtain ⟨y_53, hc253, hx7⟩ := bind_some hx7
      refine WO_call0 (.bool y_53) rfl rfl trivial rfl rfl rfl rfl St_closed ⟨14, #[], #[], rfl, callable_14, fun w hw => ⟨_, hw.sat, fiduciallaw21_few_walk h_p0_3 h_p1 hc253⟩⟩ ?_
      refine WO_pure tbok 2 [(1, .slice a_p1 p1.length c_p1), (2, .slice a_p2 p2.length c_p2), (3, .pointer (some ⟨b4, 0, none⟩)), (6, .bool false), (28, .bool (!y_53))] rfl ⟨rfl, rfl, rfl, rfl, rfl, trivial⟩ ?_
      refine WO_split (d := 28) (b := !y_53) rfl (fun hb254 => ?_) (fun hb254 => ?_)
      · have hx7 := ifT hb254 hx7
        refine WO_pure tbok 2 [(1, .slice a_p1 p1.length c_p1), (2, .slice a_p2 p2.length c_p2), (3, .pointer (some ⟨b4, 0, none⟩)), (6, .bool false), (28, .bool true)] rfl ⟨rfl, rfl, rfl, rfl, rfl, trivial⟩ ?_
        refine WO_skip rfl rfl ?_
        refine WO_pure tbok 17 [(1, .slice a_p1 p1.length c_p1), (2, .slice a_p2 p2.length c_p2), (3, .pointer (some ⟨b4, 0, none⟩)), (6, .bool false), (48, .bool true)] rfl ⟨rfl, rfl, rfl, rfl, rfl, trivial⟩ ?_
        refine WO_end ?_
        cases hx7
        refine WK.sub ?_ (WK.cls (fun _ h => h) hk8)
        exact ⟨rfl, rfl, rfl, rfl, rfl, trivial⟩
      · have hx7 := ifF hb254 hx7
        refine WO_loadB tbok 0 rfl rfl rfl rfl (fun _ h => h) rfl rfl ?_
        refine WO_pure tbok 1 [(1, .slice a_p1 p1.length c_p1), (2, .slice a_p2 p2.length c_p2), (3, .pointer (some ⟨b4, 0, none⟩)), (6, .bool false), (28, .bool false), (29, .agg #[.int .i64 p0_0, .int .i64 p0_1, .int .i64 p0_2, .slice a_p0_3 p0_3.length c_p0_3]), (30, .slice a_p1 p1.length c_p1)] rfl ⟨rfl, rfl, rfl, rfl, rfl, rfl, rfl, trivial⟩ ?_
        obtain ⟨y_54, hc255, hx7⟩ := bind_some hx7
        refine WO_call0 (.int .i64 y_54) rfl rfl trivial rfl rfl rfl rfl St_closed ⟨16, #[], #[], rfl, callable_16, fun w hw => ⟨_, hw.sat, fiduciallaw21_code_walk h_p0_3 h_p1 hc255⟩⟩ ?_
        refine WO_pure tbok 3 [(1, .slice a_p1 p1.length c_p1), (2, .slice a_p2 p2.length c_p2), (3, .pointer (some ⟨b4, 0, none⟩)), (6, .bool false), (34, .bool (y_54 != 0))] rfl ⟨rfl, rfl, rfl, rfl, rfl, trivial⟩ ?_
        refine WO_split (d := 34) (b := y_54 != 0) rfl (fun hb256 => ?_) (fun hb256 => ?_)
        · have hx7 := ifT hb256 hx7
          refine WO_pure tbok 14 [(1, .slice a_p1 p1.length c_p1), (2, .slice a_p2 p2.length c_p2), (3, .pointer (some ⟨b4, 0, none⟩)), (6, .bool false), (48, .bool true)] rfl ⟨rfl, rfl, rfl, rfl, rfl, trivial⟩ ?_
          refine WO_end ?_
          cases hx7
          refine WK.sub ?_ (WK.cls (fun _ h => h) hk8)
          exact ⟨rfl, rfl, rfl, rfl, rfl, trivial⟩
        · have hx7 := ifF hb256 hx7
          refine WO_pure tbok 1 [(1, .slice a_p1 p1.length c_p1), (2, .slice a_p2 p2.length c_p2), (3, .pointer (some ⟨b4, 0, none⟩)), (6, .bool false), (34, .bool false), (35, .pointer (some ⟨b4, 2, none⟩))] rfl ⟨rfl, rfl, rfl, rfl, rfl, rfl, trivial⟩ ?_
          refine WO_loadB tbok 0 rfl rfl rfl rfl (fun _ h => h) rfl rfl ?_
          refine WO_pure tbok 3 [(1, .slice a_p1 p1.length c_p1), (2, .slice a_p2 p2.length c_p2), (3, .pointer (some ⟨b4, 0, none⟩)), (6, .bool false), (39, .bool (decide (300 < p0_2)))] rfl ⟨rfl, rfl, rfl, rfl, rfl, trivial⟩ ?_
          refine WO_split (d := 39) (b := decide (300 < p0_2)) rfl (fun hb257 => ?_) (fun hb257 => ?_)
          · have hx7 := ifT hb257 hx7
            refine WO_pure tbok 9 [(1, .slice a_p1 p1.length c_p1), (2, .slice a_p2 p2.length c_p2), (3, .pointer (some ⟨b4, 0, none⟩)), (6, .bool false), (48, .bool true)] rfl ⟨rfl, rfl, rfl, rfl, rfl, trivial⟩ ?_
            refine WO_end ?_
            cases hx7
            refine WK.sub ?_ (WK.cls (fun _ h => h) hk8)
            exact ⟨rfl, rfl, rfl, rfl, rfl, trivial⟩
          · have hx7 := ifF hb257 hx7
            refine WO_pure tbok 5 [(1, .slice a_p1 p1.length c_p1), (2, .slice a_p2 p2.length c_p2), (3, .pointer (some ⟨b4, 0, none⟩)), (6, .bool false), (44, .bool (decide ((p2.length : Int) < 1)))] rfl ⟨rfl, rfl, rfl, rfl, rfl, trivial⟩ ?_
            refine WO_split (d := 44) (b := decide ((p2.length : Int) < 1)) rfl (fun hb258 => ?_) (fun hb258 => ?_)
            · have hx7 := ifT hb258 hx7
              refine WO_pure tbok 4 [(1, .slice a_p1 p1.length c_p1), (2, .slice a_p2 p2.length c_p2), (3, .pointer (some ⟨b4, 0, none⟩)), (6, .bool false), (48, .bool true)] rfl ⟨rfl, rfl, rfl, rfl, rfl, trivial⟩ ?_
              refine WO_end ?_
              cases hx7
              refine WK.sub ?_ (WK.cls (fun _ h => h) hk8)
              exact ⟨rfl, rfl, rfl, rfl, rfl, trivial⟩
            · have hx7 := ifF hb258 hx7
              refine WO_pure tbok 4 [(1, .slice a_p1 p1.length c_p1), (2, .slice a_p2 p2.length c_p2), (3, .pointer (some ⟨b4, 0, none⟩)), (6, .bool false), (48, .bool (decide (400 < (p2.length : Int))))] rfl ⟨rfl, rfl, rfl, rfl, rfl, trivial⟩ ?_
              refine WO_end ?_
              cases hx7
              refine WK.sub ?_ (WK.cls (fun _ h => h) hk8)
              exact ⟨rfl, rfl, rfl, rfl, rfl, trivial⟩
theorem slices_Max_sint_walk {m : Mu} {p0 : List Int} {a_p0 : Option Addr} {q_p0 c_p0 : Nat} (h_p0 : SlR (FE (I1 .i64)) 1 m (.slice a_p0 q_p0 c_p0) p0) {r : Int} (hm : slices_Max_sint p0 = some r) :
    Go.E.Spec Try.prog 55 [.slice a_p0 q_p0 c_p0] m (fun v _ _ => v = .int .i64 r) := by
  refine Spec_enter Try.func55 rfl rfl rfl (fun w0 => ?_)
  refine WK.sub (e' := [(0, .slice a_p0 q_p0 c_p0)]) ⟨rfl, trivial⟩ ?_
  obtain rfl := SlR.qlen h_p0
  refine WK.sub (e' := [(0, .slice a_p0 p0.length c_p0)]) ⟨rfl, trivial⟩ ?_
  unfold slices_Max_sint at hm
  refine WK_seq ?_
  refine WK_region ?_
  refine WO_pure tbok 1 [(0, .slice a_p0 p0.length c_p0), (2, .int .i64 0)] rfl ⟨rfl, rfl, trivial⟩ ?_
  refine WO_end ?_
  refine WK_seq ?_
  refine WK_seq ?_
  refine WK_region ?_
  refine WO_pure tbok 3 [(0, .slice a_p0 p0.length c_p0), (2, .int .i64 0), (7, .bool (decide ((p0.length : Int) < 1)))] rfl ⟨rfl, rfl, rfl, trivial⟩ ?_
  refine WO_end ?_
  refine WK_cond (b := decide ((p0.length : Int) < 1)) rfl (fun hb2 => ?_) (fun hb2 => ?_)
  · have hm := ifT hb2 hm
    refine WK_region ?_
    cases hm
  · have hm := ifF hb2 hm
    refine WK_skip ?_
    refine WK_seq ?_
    refine WK_region ?_
    refine WO_pure tbok 1 [(0, .slice a_p0 p0.length c_p0), (2, .int .i64 0), (9, .slice a_p0 p0.length c_p0)] rfl ⟨rfl, rfl, rfl, trivial⟩ ?_
    obtain ⟨v_1, hy3, hm⟩ := bind_some hm
    obtain ⟨hc4, hy3⟩ := ix_some hy3
    refine WO_index tbok rfl rfl rfl rfl rfl rfl rfl rfl (SlR.addr h_p0) hc4 ?_
    refine WO_loadE tbok rfl rfl rfl rfl (fun _ h => St.sat h) h_p0 hy3 rfl ?_
    refine WO_pure tbok 1 [(0, .slice a_p0 p0.length c_p0), (2, .int .i64 0), (3, .int .i64 v_1)] rfl ⟨rfl, rfl, rfl, trivial⟩ ?_
    refine WO_end ?_
    refine WK_seq ?_
    refine WK_seq ?_
    refine WK_region ?_
    refine WO_pure tbok 1 [(0, .slice a_p0 p0.length c_p0), (2, .int .i64 0), (3, .int .i64 v_1), (4, .int .i64 1)] rfl ⟨rfl, rfl, rfl, rfl, trivial⟩ ?_
    refine WO_end ?_
    obtain ⟨x5, hx6, hm⟩ := bind_some hm
    refine WK_join (β := Int × Unit) (fun p => p.1 = x5) (fun p => [(2, .int .i64 0), (3, .int .i64 p.1)]) (fun p => St w0 m m []) ?_ (fun hk7 => ?_)
    · rintro ⟨s_4, ⟨⟩⟩ hq13
      subst hq13
      refine WK.sub (e' := [(2, .int .i64 0), (3, .int .i64 s_4)]) ⟨rfl, rfl, trivial⟩ (WK.cls (C' := St w0 m m []) (fun _ h => h) ?_)
      refine WK_seq ?_
      refine WK_region ?_
      refine WO_pure tbok 2 [(2, .int .i64 s_4)] rfl ⟨rfl, trivial⟩ ?_
      refine WO_end ?_
      cases hm
      exact WK_ret (ret_out (L := []) (RLc_tmp rfl RLc_nil) (List.nil_sublist _) rfl)
    · refine WK_block ?_
      refine WK_loop (S := Int × Int) (G := Unit) (fun s => slices_Max_sint_s1 p0 s.1 s.2) (fun s g => [(0, .slice a_p0 p0.length c_p0), (2, .int .i64 0), (3, .int .i64 s.1), (4, .int .i64 s.2)]) (fun s g => St w0 m m []) (fun s g => True) FUEL (v_1, 1) () x5 hx6 trivial ⟨rfl, rfl, rfl, rfl, trivial⟩ (fun _ h => h) ?_
      rintro ⟨s_2, s_3⟩ ⟨⟩ o9 fl10 hm8 - hn11 hd12
      have hm8 : slices_Max_sint_s1 p0 s_2 s_3 = some o9 := hm8
      unfold slices_Max_sint_s1 at hm8
      refine WK.sub (e' := [(0, .slice a_p0 p0.length c_p0), (2, .int .i64 0), (3, .int .i64 s_2), (4, .int .i64 s_3)]) ⟨rfl, rfl, rfl, rfl, trivial⟩ (WK.cls (C' := St w0 m m []) (fun _ h => h) ?_)
      refine WK_seq ?_
      refine WK_seq ?_
      refine WK_region ?_
      refine WO_pure tbok 4 [(0, .slice a_p0 p0.length c_p0), (2, .int .i64 0), (3, .int .i64 s_2), (4, .int .i64 s_3), (15, .bool (decide (s_3 < (p0.length : Int))))] rfl ⟨rfl, rfl, rfl, rfl, rfl, trivial⟩ ?_
      refine WO_end ?_
      refine WK_cond (b := decide (s_3 < (p0.length : Int))) rfl (fun hb14 => ?_) (fun hb14 => ?_)
      · have hm8 := ifT hb14 hm8
        refine WK_skip ?_
        refine WK_seq ?_
        refine WK_block ?_
        refine WK_region ?_
        refine WO_pure tbok 3 [(0, .slice a_p0 p0.length c_p0), (2, .int .i64 0), (3, .int .i64 s_2), (4, .int .i64 s_3), (18, .int .i64 s_2), (19, .slice a_p0 p0.length c_p0), (20, .int .i64 s_3)] rfl ⟨rfl, rfl, rfl, rfl, rfl, rfl, rfl, trivial⟩ ?_
        obtain ⟨v_5, hy15, hm8⟩ := bind_some hm8
        obtain ⟨hc16, hy15⟩ := ix_some hy15
        refine WO_index tbok rfl rfl rfl rfl rfl rfl rfl rfl (SlR.addr h_p0) hc16 ?_
        refine WO_loadE tbok rfl rfl rfl rfl (fun _ h => St.sat h) h_p0 hy15 rfl ?_
        refine WO_pure tbok 2 [(0, .slice a_p0 p0.length c_p0), (2, .int .i64 0), (3, .int .i64 (if s_2 < v_5 then v_5 else s_2)), (4, .int .i64 s_3)] rfl ⟨rfl, rfl, rfl, rfl, trivial⟩ ?_
        refine WO_end ?_
        refine WK_blk ?_
        refine WK_region ?_
        refine WO_pure tbok 3 [(0, .slice a_p0 p0.length c_p0), (2, .int .i64 0), (3, .int .i64 (if s_2 < v_5 then v_5 else s_2)), (4, .int .i64 (w64 (s_3 + 1)))] rfl ⟨rfl, rfl, rfl, rfl, trivial⟩ ?_
        refine WO_end ?_
        cases hm8
        refine WK.sub ?_ (WK.cls (fun _ h => h) (hn11 _ () rfl trivial))
        exact ⟨rfl, rfl, rfl, rfl, trivial⟩
      · have hm8 := ifF hb14 hm8
        refine WK_exit rfl ?_
        cases hm8
        refine WK.sub ?_ (WK.cls (fun _ h => h) (hk7 (s_2, ()) (hd12 _ rfl)))
        exact ⟨rfl, rfl, trivial⟩
theorem slices_Index_sint_walk {m : Mu} {p0 : List Int} {p1 : Int} {a_p0 : Option Addr} {q_p0 c_p0 : Nat} (h_p0 : SlR (FE (I1 .i64)) 1 m (.slice a_p0 q_p0 c_p0) p0) {r : Int} (hm : slices_Index_sint p0 p1 = some r) :
    Go.E.Spec Try.prog 54 [.slice a_p0 q_p0 c_p0, .int .i64 p1] m (fun v _ _ => v = .int .i64 r) := by
  refine Spec_enter Try.func54 rfl rfl rfl (fun w0 => ?_)
  refine WK.sub (e' := [(0, .slice a_p0 q_p0 c_p0), (1, .int .i64 p1)]) ⟨rfl, rfl, trivial⟩ ?_
  obtain rfl := SlR.qlen h_p0
  refine WK.sub (e' := [(0, .slice a_p0 p0.length c_p0), (1, .int .i64 p1)]) ⟨rfl, rfl, trivial⟩ ?_
  unfold slices_Index_sint at hm
  refine WK_seq ?_
  refine WK_region ?_
  refine WO_pure tbok 1 [(0, .slice a_p0 p0.length c_p0), (1, .int .i64 p1), (4, .int .i64 0)] rfl ⟨rfl, rfl, rfl, trivial⟩ ?_
  refine WO_end ?_
  refine WK_seq ?_
  refine WK_seq ?_
  refine WK_region ?_
  refine WO_pure tbok 3 [(0, .slice a_p0 p0.length c_p0), (1, .int .i64 p1), (4, .int .i64 0), (7, .int .i64 (p0.length : Int)), (8, .int .i64 0)] rfl ⟨rfl, rfl, rfl, rfl, rfl, trivial⟩ ?_
  refine WO_end ?_
  obtain ⟨x2, hx3, hm⟩ := bind_some hm
  refine WK_join (β := Unit × Unit) (fun p => Sum.inr p.1 = x2) (fun p => [(4, .int .i64 0)]) (fun p => St w0 m m []) ?_ (fun hk4 => ?_)
  · rintro ⟨⟨⟩, ⟨⟩⟩ hq10
    subst hq10
    refine WK.sub (e' := [(4, .int .i64 0)]) ⟨rfl, trivial⟩ (WK.cls (C' := St w0 m m []) (fun _ h => h) ?_)
    refine WK_seq ?_
    refine WK_region ?_
    refine WO_pure tbok 1 [(4, .int .i64 (-1))] rfl ⟨rfl, trivial⟩ ?_
    refine WO_end ?_
    cases hm
    exact WK_ret (ret_out (L := []) (RLc_tmp rfl RLc_nil) (List.nil_sublist _) rfl)
  · refine WK_block ?_
    refine WK_loop (S := Int) (G := Unit) (fun s => slices_Index_sint_s1 p0 p1 s) (fun s g => [(0, .slice a_p0 p0.length c_p0), (1, .int .i64 p1), (4, .int .i64 0), (7, .int .i64 (p0.length : Int)), (8, .int .i64 s)]) (fun s g => St w0 m m []) (fun s g => True) FUEL 0 () x2 hx3 trivial ⟨rfl, rfl, rfl, rfl, rfl, trivial⟩ (fun _ h => h) ?_
    rintro s_1 ⟨⟩ o6 fl7 hm5 - hn8 hd9
    have hm5 : slices_Index_sint_s1 p0 p1 s_1 = some o6 := hm5
    unfold slices_Index_sint_s1 at hm5
    refine WK.sub (e' := [(0, .slice a_p0 p0.length c_p0), (1, .int .i64 p1), (4, .int .i64 0), (7, .int .i64 (p0.length : Int)), (8, .int .i64 s_1)]) ⟨rfl, rfl, rfl, rfl, rfl, trivial⟩ (WK.cls (C' := St w0 m m []) (fun _ h => h) ?_)
    refine WK_seq ?_
    refine WK_region ?_
    refine WO_pure tbok 1 [(0, .slice a_p0 p0.length c_p0), (1, .int .i64 p1), (4, .int .i64 0), (7, .int .i64 (p0.length : Int)), (8, .int .i64 s_1), (9, .bool (decide (s_1 < (p0.length : Int))))] rfl ⟨rfl, rfl, rfl, rfl, rfl, rfl, trivial⟩ ?_
    refine WO_end ?_
    refine WK_seq ?_
    refine WK_cond (b := decide (s_1 < (p0.length : Int))) rfl (fun hb11 => ?_) (fun hb11 => ?_)
    · have hm5 := ifT hb11 hm5
      refine WK_skip ?_
      refine WK_seq ?_
      refine WK_block ?_
      refine WK_seq ?_
      refine WK_region ?_
      refine WO_pure tbok 2 [(0, .slice a_p0 p0.length c_p0), (1, .int .i64 p1), (4, .int .i64 0), (5, .int .i64 s_1), (7, .int .i64 (p0.length : Int)), (8, .int .i64 s_1)] rfl ⟨rfl, rfl, rfl, rfl, rfl, rfl, trivial⟩ ?_
      refine WO_end ?_
      refine WK_seq ?_
      refine WK_region ?_
      refine WO_pure tbok 3 [(0, .slice a_p0 p0.length c_p0), (1, .int .i64 p1), (4, .int .i64 0), (5, .int .i64 s_1), (7, .int .i64 (p0.length : Int)), (8, .int .i64 s_1), (11, .int .i64 p1), (12, .slice a_p0 p0.length c_p0), (13, .int .i64 s_1)] rfl ⟨rfl, rfl, rfl, rfl, rfl, rfl, rfl, rfl, rfl, trivial⟩ ?_
      obtain ⟨v_2, hy12, hm5⟩ := bind_some hm5
      obtain ⟨hc13, hy12⟩ := ix_some hy12
      refine WO_index tbok rfl rfl rfl rfl rfl rfl rfl rfl (SlR.addr h_p0) hc13 ?_
      refine WO_loadE tbok rfl rfl rfl rfl (fun _ h => St.sat h) h_p0 hy12 rfl ?_
      refine WO_pure tbok 1 [(0, .slice a_p0 p0.length c_p0), (1, .int .i64 p1), (4, .int .i64 0), (5, .int .i64 s_1), (7, .int .i64 (p0.length : Int)), (8, .int .i64 s_1), (16, .bool (p1 == v_2))] rfl ⟨rfl, rfl, rfl, rfl, rfl, rfl, rfl, trivial⟩ ?_
      refine WO_end ?_
      refine WK_cond (b := p1 == v_2) rfl (fun hb14 => ?_) (fun hb14 => ?_)
      · have hm5 := ifT hb14 hm5
        refine WK_seq ?_
        refine WK_region ?_
        refine WO_pure tbok 2 [(0, .slice a_p0 p0.length c_p0), (1, .int .i64 p1), (4, .int .i64 s_1), (7, .int .i64 (p0.length : Int)), (8, .int .i64 s_1)] rfl ⟨rfl, rfl, rfl, rfl, rfl, trivial⟩ ?_
        refine WO_end ?_
        cases hm5
        have hq := hd9 _ rfl
        subst hq
        have hm : some _ = some _ := hm
        cases hm
        exact WK_ret (ret_out (L := []) (RLc_tmp rfl RLc_nil) (List.nil_sublist _) rfl)
      · have hm5 := ifF hb14 hm5
        refine WK_skip ?_
        refine WK_blk ?_
        refine WK_region ?_
        refine WO_pure tbok 2 [(0, .slice a_p0 p0.length c_p0), (1, .int .i64 p1), (4, .int .i64 0), (7, .int .i64 (p0.length : Int)), (8, .int .i64 (w64 (s_1 + 1)))] rfl ⟨rfl, rfl, rfl, rfl, rfl, trivial⟩ ?_
        refine WO_end ?_
        cases hm5
        refine WK.sub ?_ (WK.cls (fun _ h => h) (hn8 _ () rfl trivial))
        exact ⟨rfl, rfl, rfl, rfl, rfl, trivial⟩
    · have hm5 := ifF hb11 hm5
      refine WK_exit rfl ?_
      cases hm5
      refine WK.sub ?_ (WK.cls (fun _ h => h) (hk4 ((), ()) (hd9 _ rfl)))
      exact ⟨rfl, trivial⟩
theorem slices_Contains_sint_walk {m : Mu} {p0 : List Int} {p1 : Int} {a_p0 : Option Addr} {q_p0 c_p0 : Nat} (h_p0 : SlR (FE (I1 .i64)) 1 m (.slice a_p0 q_p0 c_p0) p0) {r : Bool} (hm : slices_Contains_sint p0 p1 = some r) :
    Go.E.Spec Try.prog 56 [.slice a_p0 q_p0 c_p0, .int .i64 p1] m (fun v _ _ => v = .bool r) := by
  refine Spec_enter Try.func56 rfl rfl rfl (fun w0 => ?_)
  refine WK.sub (e' := [(0, .slice a_p0 q_p0 c_p0), (1, .int .i64 p1)]) ⟨rfl, rfl, trivial⟩ ?_
  obtain rfl := SlR.qlen h_p0
  refine WK.sub (e' := [(0, .slice a_p0 p0.length c_p0), (1, .int .i64 p1)]) ⟨rfl, rfl, trivial⟩ ?_
  unfold slices_Contains_sint at hm
  refine WK_seq ?_
  refine WK_region ?_
  refine WO_pure tbok 1 [(0, .slice a_p0 p0.length c_p0), (1, .int .i64 p1), (4, .bool false)] rfl ⟨rfl, rfl, rfl, trivial⟩ ?_
  refine WO_end ?_
  refine WK_seq ?_
  refine WK_region ?_
  refine WO_pure tbok 2 [(4, .bool false), (5, .slice a_p0 p0.length c_p0), (6, .int .i64 p1)] rfl ⟨rfl, rfl, rfl, trivial⟩ ?_
  obtain ⟨y_1, hc2, hm⟩ := bind_some hm
  refine WO_call0 (.int .i64 y_1) rfl rfl trivial rfl rfl rfl rfl St_closed ⟨54, #[], #[], rfl, callable_54, fun w hw => ⟨_, hw.sat, slices_Index_sint_walk h_p0 hc2⟩⟩ ?_
  refine WO_pure tbok 2 [(4, .bool (decide (0 ≤ y_1)))] rfl ⟨rfl, trivial⟩ ?_
  refine WO_end ?_
  cases hm
  exact WK_ret (ret_out (L := []) (RLc_tmp rfl RLc_nil) (List.nil_sublist _) rfl)
theorem fiducial_descriptor_image_quarter_walk {m : Mu} {p0_0 : Int} {p0_1 : Int} {p0_2 : Int} {p0_3 : List Int} {p0_4 : List (List Int)} {p1 : Int} {p2 : Int} {p3 : Int} {a_p0_3 : Option Addr} {q_p0_3 c_p0_3 : Nat} {a_p0_4 : Option Addr} {q_p0_4 c_p0_4 : Nat} (h_p0_3 : SlR (FE (I1 .i64)) 1 m (.slice a_p0_3 q_p0_3 c_p0_3) p0_3) (h_p0_4 : SlR (RowE (FE (I1 .i64)) 1) 1 m (.slice a_p0_4 q_p0_4 c_p0_4) p0_4) {r : Int × Int} (hm : fiducial_descriptor_image_quarter p0_0 p0_1 p0_2 p0_3 p0_4 p1 p2 p3 = some r) :
    Go.E.Spec Try.prog 50 [.agg #[.int .i64 p0_0, .int .i64 p0_1, .int .i64 p0_2, .slice a_p0_3 q_p0_3 c_p0_3, .slice a_p0_4 q_p0_4 c_p0_4], .int .i64 p1, .int .i64 p2, .int .i64 p3] m (fun v _ _ => v = .tuple #[.int .i64 r.1, .int .i64 r.2]) := by
  refine Spec_enter Try.func50 rfl rfl rfl (fun w0 => ?_)
  refine WK.sub (e' := [(0, .agg #[.int .i64 p0_0, .int .i64 p0_1, .int .i64 p0_2, .slice a_p0_3 q_p0_3 c_p0_3, .slice a_p0_4 q_p0_4 c_p0_4]), (1, .int .i64 p1), (2, .int .i64 p2), (3, .int .i64 p3)]) ⟨rfl, rfl, rfl, rfl, trivial⟩ ?_
  obtain rfl := SlR.qlen h_p0_3
  obtain rfl := SlR.qlen h_p0_4
  refine WK.sub (e' := [(0, .agg #[.int .i64 p0_0, .int .i64 p0_1, .int .i64 p0_2, .slice a_p0_3 p0_3.length c_p0_3, .slice a_p0_4 p0_4.length c_p0_4]), (1, .int .i64 p1), (2, .int .i64 p2), (3, .int .i64 p3)]) ⟨rfl, rfl, rfl, rfl, trivial⟩ ?_
  unfold fiducial_descriptor_image_quarter at hm
  refine WK_seq ?_
  refine WK_region ?_
  refine WO_box [.int .i64 p0_0, .int .i64 p0_1, .int .i64 p0_2, .slice a_p0_3 p0_3.length c_p0_3, .slice a_p0_4 p0_4.length c_p0_4] rfl rfl trivial rfl rfl rfl (fun b3 => ?_)
  refine WO.cls (C' := St w0 m m [[⟨b3, 74, [.int .i64 p0_0, .int .i64 p0_1, .int .i64 p0_2, .slice a_p0_3 p0_3.length c_p0_3, .slice a_p0_4 p0_4.length c_p0_4]⟩]]) (fun _ h => h) ?_
  refine WO_pure tbok 2 [(1, .int .i64 p1), (2, .int .i64 p2), (3, .int .i64 p3), (4, .pointer (some ⟨b3, 0, none⟩)), (8, .int .i64 0), (9, .int .i64 0)] rfl ⟨rfl, rfl, rfl, rfl, rfl, rfl, trivial⟩ ?_
  refine WO_end ?_
  refine WK_seq ?_
  refine WK_seq ?_
  obtain ⟨s_1, hx4, hm⟩ := bind_some hm
  refine WK_meet [(1, .int .i64 p1), (2, .int .i64 p2), (3, .int .i64 p3), (4, .pointer (some ⟨b3, 0, none⟩)), (8, .int .i64 0), (9, .int .i64 0), (29, .bool s_1)] (St w0 m m [[⟨b3, 74, [.int .i64 p0_0, .int .i64 p0_1, .int .i64 p0_2, .slice a_p0_3 p0_3.length c_p0_3, .slice a_p0_4 p0_4.length c_p0_4]⟩]]) ?_ (fun hk5 => ?_)
  · refine WK_cond (b := s_1) rfl (fun hb6 => ?_) (fun hb6 => ?_)
    · have hm := ifT hb6 hm
      refine WK_seq ?_
      refine WK_region ?_
      refine WO_pure tbok 2 [(1, .int .i64 p1), (2, .int .i64 p2), (3, .int .i64 p3), (4, .pointer (some ⟨b3, 0, none⟩)), (8, .int .i64 0), (9, .int .i64 2)] rfl ⟨rfl, rfl, rfl, rfl, rfl, rfl, trivial⟩ ?_
      refine WO_end ?_
      cases hm
      exact WK_ret (ret_out (L := []) (RLc_tmp rfl (RLc_tmp rfl RLc_nil)) (List.nil_sublist _) rfl)
    · have hm := ifF hb6 hm
      refine WK_skip ?_
      refine WK_seq ?_
      refine WK_region ?_
      refine WO_pure tbok 1 [(1, .int .i64 p1), (2, .int .i64 p2), (3, .int .i64 p3), (4, .pointer (some ⟨b3, 0, none⟩)), (8, .int .i64 0), (9, .int .i64 0), (10, .slice none 0 0)] rfl ⟨rfl, rfl, rfl, rfl, rfl, rfl, rfl, trivial⟩ ?_
      refine WO_end ?_
      refine WK_seq ?_
      refine WK_region ?_
      refine WO_pure tbok 4 [(1, .int .i64 p1), (2, .int .i64 p2), (3, .int .i64 p3), (4, .pointer (some ⟨b3, 0, none⟩)), (8, .int .i64 0), (9, .int .i64 0), (10, .slice none 0 0), (11, .int .i64 (w64 ((w64 (2 * p3)) + 1)))] rfl ⟨rfl, rfl, rfl, rfl, rfl, rfl, rfl, rfl, trivial⟩ ?_
      refine WO_end ?_
      refine WK_seq ?_
      refine WK_seq ?_
      refine WK_region ?_
      refine WO_pure tbok 34 [(4, .pointer (some ⟨b3, 0, none⟩)), (8, .int .i64 0), (9, .int .i64 0), (10, .slice none 0 0), (40, .agg #[.int .i64 (w64 (p1 + 1)), .int .i64 (w64 (p2 - p3)), .int .i64 p3, .int .i64 (w64 ((w64 (2 * p3)) + 1))]), (49, .agg #[.int .i64 (w64 (p1 - p3)), .int .i64 (w64 (p2 - p3)), .int .i64 (w64 ((w64 (2 * p3)) + 1)), .int .i64 p3]), (58, .agg #[.int .i64 (w64 (p1 - p3)), .int .i64 (w64 (p2 - p3)), .int .i64 p3, .int .i64 (w64 ((w64 (2 * p3)) + 1))]), (66, .agg #[.int .i64 (w64 (p1 - p3)), .int .i64 (w64 (p2 + 1)), .int .i64 (w64 ((w64 (2 * p3)) + 1)), .int .i64 p3])] rfl ⟨rfl, rfl, rfl, rfl, rfl, rfl, rfl, rfl, trivial⟩ ?_
      refine WO_bslice (E := T4) tbok (fun _ => rfl) (by decide) [.agg #[.int .i64 (w64 (p1 + 1)), .int .i64 (w64 (p2 - p3)), .int .i64 p3, .int .i64 (w64 ((w64 (2 * p3)) + 1))], .agg #[.int .i64 (w64 (p1 - p3)), .int .i64 (w64 (p2 - p3)), .int .i64 (w64 ((w64 (2 * p3)) + 1)), .int .i64 p3], .agg #[.int .i64 (w64 (p1 - p3)), .int .i64 (w64 (p2 - p3)), .int .i64 p3, .int .i64 (w64 ((w64 (2 * p3)) + 1))], .agg #[.int .i64 (w64 (p1 - p3)), .int .i64 (w64 (p2 + 1)), .int .i64 (w64 ((w64 (2 * p3)) + 1)), .int .i64 p3]] ([(w64 (p1 + 1), w64 (p2 - p3), p3, w64 ((w64 (2 * p3)) + 1)), (w64 (p1 - p3), w64 (p2 - p3), w64 ((w64 (2 * p3)) + 1), p3), (w64 (p1 - p3), w64 (p2 - p3), p3, w64 ((w64 (2 * p3)) + 1)), (w64 (p1 - p3), w64 (p2 + 1), w64 ((w64 (2 * p3)) + 1), p3)] : List (Int × Int × Int × Int)) rfl rfl trivial rfl rfl rfl rfl rfl rfl rfl rfl rfl rfl rfl rfl (fun b7 hb7 => ?_)
      refine WO.cls (C' := St w0 m m [[⟨b3, 74, [.int .i64 p0_0, .int .i64 p0_1, .int .i64 p0_2, .slice a_p0_3 p0_3.length c_p0_3, .slice a_p0_4 p0_4.length c_p0_4]⟩], [⟨b7, 44, ([(w64 (p1 + 1), w64 (p2 - p3), p3, w64 ((w64 (2 * p3)) + 1)), (w64 (p1 - p3), w64 (p2 - p3), w64 ((w64 (2 * p3)) + 1), p3), (w64 (p1 - p3), w64 (p2 - p3), p3, w64 ((w64 (2 * p3)) + 1)), (w64 (p1 - p3), w64 (p2 + 1), w64 ((w64 (2 * p3)) + 1), p3)] : List (Int × Int × Int × Int)).flatMap T4⟩]]) (fun _ h => h) ?_
      refine WO_pure tbok 2 [(4, .pointer (some ⟨b3, 0, none⟩)), (8, .int .i64 0), (9, .int .i64 0), (10, .slice none 0 0), (67, .slice (some ⟨b7, 0, none⟩) 4 4), (68, .int .i64 4), (69, .int .i64 0)] rfl ⟨rfl, rfl, rfl, rfl, rfl, rfl, rfl, trivial⟩ ?_
      refine WO_end ?_
      refine WK_pad ?_
      obtain ⟨x20, hx21, hm⟩ := bind_some hm
      refine WK_join (β := (List Int) × (Option Addr × Nat × Nat × List Ent)) (fun p => Sum.inr p.1 = x20 ∧ OwnE 3 1 (I1 .i64) (.slice p.2.1 p.2.2.1 p.2.2.2.1) p.1 p.2.2.2.2) (fun p => [(8, .int .i64 0), (9, .int .i64 0), (10, .slice p.2.1 p.2.2.1 p.2.2.2.1)]) (fun p => St w0 m m [[⟨b3, 74, [.int .i64 p0_0, .int .i64 p0_1, .int .i64 p0_2, .slice a_p0_3 p0_3.length c_p0_3, .slice a_p0_4 p0_4.length c_p0_4]⟩], [⟨b7, 44, ([(w64 (p1 + 1), w64 (p2 - p3), p3, w64 ((w64 (2 * p3)) + 1)), (w64 (p1 - p3), w64 (p2 - p3), w64 ((w64 (2 * p3)) + 1), p3), (w64 (p1 - p3), w64 (p2 - p3), p3, w64 ((w64 (2 * p3)) + 1)), (w64 (p1 - p3), w64 (p2 + 1), w64 ((w64 (2 * p3)) + 1), p3)] : List (Int × Int × Int × Int)).flatMap T4⟩], p.2.2.2.2]) ?_ (fun hk22 => ?_)
      · rintro ⟨l_4, ⟨a17, q18, c19, L16⟩⟩ ⟨hq28, hL16⟩
        subst hq28
        have hqq : q18 = l_4.length := OwnE.qlen hL16
        subst hqq
        refine WK.sub (e' := [(8, .int .i64 0), (9, .int .i64 0), (10, .slice a17 ((l_4).length) c19)]) ⟨rfl, rfl, rfl, trivial⟩ (WK.cls (C' := St w0 m m [[⟨b3, 74, [.int .i64 p0_0, .int .i64 p0_1, .int .i64 p0_2, .slice a_p0_3 p0_3.length c_p0_3, .slice a_p0_4 p0_4.length c_p0_4]⟩], [⟨b7, 44, ([(w64 (p1 + 1), w64 (p2 - p3), p3, w64 ((w64 (2 * p3)) + 1)), (w64 (p1 - p3), w64 (p2 - p3), w64 ((w64 (2 * p3)) + 1), p3), (w64 (p1 - p3), w64 (p2 - p3), p3, w64 ((w64 (2 * p3)) + 1)), (w64 (p1 - p3), w64 (p2 + 1), w64 ((w64 (2 * p3)) + 1), p3)] : List (Int × Int × Int × Int)).flatMap T4⟩], L16]) (fun _ h => h) ?_)
        refine WK_seq ?_
        refine WK_region ?_
        refine WO_pure tbok 2 [(8, .int .i64 0), (9, .int .i64 0), (10, .slice a17 ((l_4).length) c19), (93, .slice a17 ((l_4).length) c19), (94, .slice a17 ((l_4).length) c19)] rfl ⟨rfl, rfl, rfl, rfl, rfl, trivial⟩ ?_
        obtain ⟨y_5, hc29, hm⟩ := bind_some hm
        refine WO_call0 (.int .i64 y_5) rfl rfl trivial rfl rfl rfl rfl St_closed ⟨55, #[], #[], rfl, callable_55, fun w hw => ⟨_, hw.satV, slices_Max_sint_walk (OwnE.rd (E := (I1 .i64)) (k := 1) (fun _ => rfl) hL16 (fun _ hx => hw.memV (i := 2) rfl hx)) hc29⟩⟩ ?_
        obtain ⟨y_6, hc30, hm⟩ := bind_some hm
        refine WO_call0 (.int .i64 y_6) rfl rfl trivial rfl rfl rfl rfl St_closed ⟨54, #[], #[], rfl, callable_54, fun w hw => ⟨_, hw.satV, slices_Index_sint_walk (OwnE.rd (E := (I1 .i64)) (k := 1) (fun _ => rfl) hL16 (fun _ hx => hw.memV (i := 2) rfl hx)) hc30⟩⟩ ?_
        refine WO_pure tbok 1 [(8, .int .i64 0), (9, .int .i64 0), (10, .slice a17 ((l_4).length) c19), (16, .int .i64 y_6)] rfl ⟨rfl, rfl, rfl, rfl, trivial⟩ ?_
        refine WO_end ?_
        refine WK_seq ?_
        refine WK_seq ?_
        refine WK_draw 9 [0, 1, 2, 3, 4, 5, 6, 7, 8] follows_ok (by kernel_rfl) St_closed ?_
        refine WO_pure tbok 3 [(8, .int .i64 0), (9, .int .i64 0), (10, .slice a17 ((l_4).length) c19), (16, .int .i64 y_6), (97, .slice a17 ((l_4).length) c19), (99, .int .i64 (w64 (y_6 + 1)))] rfl ⟨rfl, rfl, rfl, rfl, rfl, rfl, trivial⟩ ?_
        obtain ⟨hc31, hm⟩ := chk_some hm
        have hc31 : 0 ≤ (w64 (y_6 + 1) : Int) ∧ (w64 (y_6 + 1) : Int) ≤ (l_4.length : Int) ∧ (l_4.length : Int) ≤ (l_4.length : Int) := hc31
        have hz35 : OwnE 3 1 (I1 .i64) (.slice a17 ((l_4).length) c19) l_4 L16 := hL16
        refine WO_sliceV (E := (I1 .i64)) tbok (fun _ => rfl) (some (w64 (y_6 + 1) : Int)) none (w64 (y_6 + 1) : Int).toNat l_4.length rfl rfl rfl rfl rfl rfl rfl rfl rfl rfl hz35 (by simp only [Option.getD_some]; omega) (by simp only [Option.getD_none]) (by omega) (by omega) (fun a32 c33 h34 => ?_)
        refine WO_pure tbok 2 [(8, .int .i64 0), (9, .int .i64 0), (16, .int .i64 y_6), (100, .slice a32 (((l_4.take l_4.length).drop (w64 (y_6 + 1) : Int).toNat).length) c33), (101, .slice a17 ((l_4).length) c19), (102, .int .i64 y_6)] rfl ⟨rfl, rfl, rfl, rfl, rfl, rfl, trivial⟩ ?_
        obtain ⟨v_7, hy37, hm⟩ := bind_some hm
        obtain ⟨hc38, hy37⟩ := ix_some hy37
        refine WO_index tbok rfl rfl rfl rfl rfl rfl rfl rfl (OwnE.addr hL16) (by simpa using hc38) ?_
        refine WO_loadO (E := (I1 .i64)) tbok (fun _ => rfl) 2 rfl rfl rfl rfl (fun _ h => h) hL16 rfl hy37 rfl ?_
        obtain ⟨y_8, hc39, hm⟩ := bind_some hm
        refine WO_call0 (.bool y_8) rfl rfl St_closed rfl rfl rfl rfl St_closed ⟨56, #[], #[], rfl, callable_56, fun w hw => ⟨_, hw.satV, slices_Contains_sint_walk (h34 _ (fun _ hx => hw.memV (i := 2) rfl hx)) hc39⟩⟩ ?_
        refine WO_tail ?_
        refine WO_end ?_
        refine WK_cond (b := y_8) rfl (fun hb40 => ?_) (fun hb40 => ?_)
        · have hm := ifT hb40 hm
          refine WK_seq ?_
          refine WK_region ?_
          refine WO_pure tbok 2 [(8, .int .i64 0), (9, .int .i64 13), (16, .int .i64 y_6)] rfl ⟨rfl, rfl, rfl, trivial⟩ ?_
          refine WO_end ?_
          cases hm
          exact WK_ret (ret_out (L := []) (RLc_tmp rfl (RLc_tmp rfl RLc_nil)) (List.nil_sublist _) rfl)
        · have hm := ifF hb40 hm
          refine WK_skip ?_
          refine WK_seq ?_
          refine WK_region ?_
          refine WO_pure tbok 3 [(8, .int .i64 y_6), (9, .int .i64 0)] rfl ⟨rfl, rfl, trivial⟩ ?_
          refine WO_end ?_
          cases hm
          exact WK_ret (ret_out (L := []) (RLc_tmp rfl (RLc_tmp rfl RLc_nil)) (List.nil_sublist _) rfl)
      · refine WK_block ?_
        refine WK_loop (S := List Int × Int) (G := Option Addr × Nat × Nat × List Ent) (fun s => fiducial_descriptor_image_quarter_s1 p0_0 p0_1 p0_2 p0_3 p0_4 p1 p2 p3 s.1 s.2) (fun s g => [(4, .pointer (some ⟨b3, 0, none⟩)), (8, .int .i64 0), (9, .int .i64 0), (10, .slice g.1 g.2.1 g.2.2.1), (67, .slice (some ⟨b7, 0, none⟩) 4 4), (68, .int .i64 4), (69, .int .i64 s.2)]) (fun s g => St w0 m m [[⟨b3, 74, [.int .i64 p0_0, .int .i64 p0_1, .int .i64 p0_2, .slice a_p0_3 p0_3.length c_p0_3, .slice a_p0_4 p0_4.length c_p0_4]⟩], [⟨b7, 44, ([(w64 (p1 + 1), w64 (p2 - p3), p3, w64 ((w64 (2 * p3)) + 1)), (w64 (p1 - p3), w64 (p2 - p3), w64 ((w64 (2 * p3)) + 1), p3), (w64 (p1 - p3), w64 (p2 - p3), p3, w64 ((w64 (2 * p3)) + 1)), (w64 (p1 - p3), w64 (p2 + 1), w64 ((w64 (2 * p3)) + 1), p3)] : List (Int × Int × Int × Int)).flatMap T4⟩], g.2.2.2]) (fun s g => OwnE 3 1 (I1 .i64) (.slice g.1 g.2.1 g.2.2.1) s.1 g.2.2.2) FUEL (([] : List Int), 0) (none, 0, 0, []) x20 hx21 (OwnE.nil (T := 3) (k := 1) (E := (I1 .i64)) none) ⟨rfl, rfl, rfl, rfl, rfl, rfl, rfl, trivial⟩ (fun _ h => h) ?_
        rintro ⟨l_2, s_3⟩ ⟨a12, q13, c14, L11⟩ o24 fl25 hm23 hL11 hn26 hd27
        have hm23 : fiducial_descriptor_image_quarter_s1 p0_0 p0_1 p0_2 p0_3 p0_4 p1 p2 p3 l_2 s_3 = some o24 := hm23
        unfold fiducial_descriptor_image_quarter_s1 at hm23
        have hqq : q13 = l_2.length := OwnE.qlen hL11
        subst hqq
        refine WK.sub (e' := [(4, .pointer (some ⟨b3, 0, none⟩)), (8, .int .i64 0), (9, .int .i64 0), (10, .slice a12 ((l_2).length) c14), (67, .slice (some ⟨b7, 0, none⟩) 4 4), (68, .int .i64 4), (69, .int .i64 s_3)]) ⟨rfl, rfl, rfl, rfl, rfl, rfl, rfl, trivial⟩ (WK.cls (C' := St w0 m m [[⟨b3, 74, [.int .i64 p0_0, .int .i64 p0_1, .int .i64 p0_2, .slice a_p0_3 p0_3.length c_p0_3, .slice a_p0_4 p0_4.length c_p0_4]⟩], [⟨b7, 44, ([(w64 (p1 + 1), w64 (p2 - p3), p3, w64 ((w64 (2 * p3)) + 1)), (w64 (p1 - p3), w64 (p2 - p3), w64 ((w64 (2 * p3)) + 1), p3), (w64 (p1 - p3), w64 (p2 - p3), p3, w64 ((w64 (2 * p3)) + 1)), (w64 (p1 - p3), w64 (p2 + 1), w64 ((w64 (2 * p3)) + 1), p3)] : List (Int × Int × Int × Int)).flatMap T4⟩], L11]) (fun _ h => h) ?_)
        refine WK_seq ?_
        refine WK_region ?_
        refine WO_pure tbok 1 [(4, .pointer (some ⟨b3, 0, none⟩)), (8, .int .i64 0), (9, .int .i64 0), (10, .slice a12 ((l_2).length) c14), (67, .slice (some ⟨b7, 0, none⟩) 4 4), (68, .int .i64 4), (69, .int .i64 s_3), (70, .bool (decide (s_3 < 4)))] rfl ⟨rfl, rfl, rfl, rfl, rfl, rfl, rfl, rfl, trivial⟩ ?_
        refine WO_end ?_
        refine WK_seq ?_
        refine WK_cond (b := decide (s_3 < 4)) rfl (fun hb41 => ?_) (fun hb41 => ?_)
        · have hm23 := ifT hb41 hm23
          refine WK_skip ?_
          refine WK_seq ?_
          refine WK_block ?_
          refine WK_seq ?_
          refine WK_region ?_
          obtain ⟨v_9, hy42, hm23⟩ := bind_some hm23
          obtain ⟨hc43, hy42⟩ := ix_some hy42
          refine WO_index tbok rfl rfl rfl rfl rfl rfl rfl rfl (OwnE.addr hb7) (by simpa using hc43) ?_
          refine WO_loadO (E := T4) tbok (fun _ => rfl) 1 rfl rfl rfl rfl (fun _ h => h) hb7 rfl hy42 rfl ?_
          refine WO_alloc tbok [.int .i64 0, .int .i64 0, .int .i64 0, .int .i64 0] rfl rfl trivial rfl rfl rfl rfl (fun b44 => ?_)
          refine WO.cls (C' := St w0 m m [[⟨b3, 74, [.int .i64 p0_0, .int .i64 p0_1, .int .i64 p0_2, .slice a_p0_3 p0_3.length c_p0_3, .slice a_p0_4 p0_4.length c_p0_4]⟩], [⟨b7, 44, ([(w64 (p1 + 1), w64 (p2 - p3), p3, w64 ((w64 (2 * p3)) + 1)), (w64 (p1 - p3), w64 (p2 - p3), w64 ((w64 (2 * p3)) + 1), p3), (w64 (p1 - p3), w64 (p2 - p3), p3, w64 ((w64 (2 * p3)) + 1)), (w64 (p1 - p3), w64 (p2 + 1), w64 ((w64 (2 * p3)) + 1), p3)] : List (Int × Int × Int × Int)).flatMap T4⟩], L11, [⟨b44, 44, [.int .i64 0, .int .i64 0, .int .i64 0, .int .i64 0]⟩]]) (fun _ h => h) ?_
          refine WO_storeB tbok 3 [.int .i64 v_9.1, .int .i64 v_9.2.1, .int .i64 v_9.2.2.1, .int .i64 v_9.2.2.2] rfl rfl rfl rfl rfl rfl rfl ?_
          refine WO.cls (C' := St w0 m m [[⟨b3, 74, [.int .i64 p0_0, .int .i64 p0_1, .int .i64 p0_2, .slice a_p0_3 p0_3.length c_p0_3, .slice a_p0_4 p0_4.length c_p0_4]⟩], [⟨b7, 44, ([(w64 (p1 + 1), w64 (p2 - p3), p3, w64 ((w64 (2 * p3)) + 1)), (w64 (p1 - p3), w64 (p2 - p3), w64 ((w64 (2 * p3)) + 1), p3), (w64 (p1 - p3), w64 (p2 - p3), p3, w64 ((w64 (2 * p3)) + 1)), (w64 (p1 - p3), w64 (p2 + 1), w64 ((w64 (2 * p3)) + 1), p3)] : List (Int × Int × Int × Int)).flatMap T4⟩], L11, [⟨b44, 44, [.int .i64 v_9.1, .int .i64 v_9.2.1, .int .i64 v_9.2.2.1, .int .i64 v_9.2.2.2]⟩]]) (fun _ h => h) ?_
          refine WO_end ?_
          refine WK_seq ?_
          refine WK_region ?_
          refine WO_loadB tbok 0 rfl rfl rfl rfl (fun _ h => h) rfl rfl ?_
          refine WO_pure tbok 1 [(4, .pointer (some ⟨b3, 0, none⟩)), (8, .int .i64 0), (9, .int .i64 0), (10, .slice a12 ((l_2).length) c14), (13, .pointer (some ⟨b44, 0, none⟩)), (67, .slice (some ⟨b7, 0, none⟩) 4 4), (68, .int .i64 4), (69, .int .i64 s_3), (74, .agg #[.int .i64 p0_0, .int .i64 p0_1, .int .i64 p0_2, .slice a_p0_3 p0_3.length c_p0_3, .slice a_p0_4 p0_4.length c_p0_4]), (75, .pointer (some ⟨b44, 0, none⟩))] rfl ⟨rfl, rfl, rfl, rfl, rfl, rfl, rfl, rfl, rfl, rfl, trivial⟩ ?_
          refine WO_loadB tbok 3 rfl rfl rfl rfl (fun _ h => h) rfl rfl ?_
          refine WO_pure tbok 1 [(4, .pointer (some ⟨b3, 0, none⟩)), (8, .int .i64 0), (9, .int .i64 0), (10, .slice a12 ((l_2).length) c14), (13, .pointer (some ⟨b44, 0, none⟩)), (67, .slice (some ⟨b7, 0, none⟩) 4 4), (68, .int .i64 4), (69, .int .i64 s_3), (74, .agg #[.int .i64 p0_0, .int .i64 p0_1, .int .i64 p0_2, .slice a_p0_3 p0_3.length c_p0_3, .slice a_p0_4 p0_4.length c_p0_4]), (76, .int .i64 v_9.1), (77, .pointer (some ⟨b44, 1, none⟩))] rfl ⟨rfl, rfl, rfl, rfl, rfl, rfl, rfl, rfl, rfl, rfl, rfl, trivial⟩ ?_
          refine WO_loadB tbok 3 rfl rfl rfl rfl (fun _ h => h) rfl rfl ?_
          refine WO_pure tbok 1 [(4, .pointer (some ⟨b3, 0, none⟩)), (8, .int .i64 0), (9, .int .i64 0), (10, .slice a12 ((l_2).length) c14), (13, .pointer (some ⟨b44, 0, none⟩)), (67, .slice (some ⟨b7, 0, none⟩) 4 4), (68, .int .i64 4), (69, .int .i64 s_3), (74, .agg #[.int .i64 p0_0, .int .i64 p0_1, .int .i64 p0_2, .slice a_p0_3 p0_3.length c_p0_3, .slice a_p0_4 p0_4.length c_p0_4]), (76, .int .i64 v_9.1), (78, .int .i64 v_9.2.1), (79, .pointer (some ⟨b44, 2, none⟩))] rfl ⟨rfl, rfl, rfl, rfl, rfl, rfl, rfl, rfl, rfl, rfl, rfl, rfl, trivial⟩ ?_
          refine WO_loadB tbok 3 rfl rfl rfl rfl (fun _ h => h) rfl rfl ?_
          refine WO_pure tbok 1 [(4, .pointer (some ⟨b3, 0, none⟩)), (8, .int .i64 0), (9, .int .i64 0), (10, .slice a12 ((l_2).length) c14), (67, .slice (some ⟨b7, 0, none⟩) 4 4), (68, .int .i64 4), (69, .int .i64 s_3), (74, .agg #[.int .i64 p0_0, .int .i64 p0_1, .int .i64 p0_2, .slice a_p0_3 p0_3.length c_p0_3, .slice a_p0_4 p0_4.length c_p0_4]), (76, .int .i64 v_9.1), (78, .int .i64 v_9.2.1), (80, .int .i64 v_9.2.2.1), (81, .pointer (some ⟨b44, 3, none⟩))] rfl ⟨rfl, rfl, rfl, rfl, rfl, rfl, rfl, rfl, rfl, rfl, rfl, rfl, trivial⟩ ?_
          refine WO_loadB tbok 3 rfl rfl rfl rfl (fun _ h => h) rfl rfl ?_
          obtain ⟨⟨y_10, y_11⟩, hc45, hm23⟩ := bind_some hm23
          refine WO_call0 (.tuple #[.int .i64 y_10, .bool y_11]) rfl rfl trivial rfl rfl rfl rfl St_closed ⟨52, #[], #[], rfl, callable_52, fun w hw => ⟨_, hw.sat, fiducial_descriptor_image_sum_walk h_p0_3 h_p0_4 hc45⟩⟩ ?_
          refine WO_pure tbok 5 [(4, .pointer (some ⟨b3, 0, none⟩)), (8, .int .i64 0), (9, .int .i64 0), (10, .slice a12 ((l_2).length) c14), (14, .int .i64 y_10), (15, .bool y_11), (67, .slice (some ⟨b7, 0, none⟩) 4 4), (68, .int .i64 4), (69, .int .i64 s_3)] rfl ⟨rfl, rfl, rfl, rfl, rfl, rfl, rfl, rfl, rfl, trivial⟩ ?_
          refine WO_end ?_
          refine WK_seq ?_
          refine WK_seq ?_
          refine WK_region ?_
          refine WO_pure tbok 2 [(4, .pointer (some ⟨b3, 0, none⟩)), (8, .int .i64 0), (9, .int .i64 0), (10, .slice a12 ((l_2).length) c14), (14, .int .i64 y_10), (67, .slice (some ⟨b7, 0, none⟩) 4 4), (68, .int .i64 4), (69, .int .i64 s_3), (87, .bool (!y_11))] rfl ⟨rfl, rfl, rfl, rfl, rfl, rfl, rfl, rfl, rfl, trivial⟩ ?_
          refine WO_end ?_
          refine WK_cond (b := !y_11) rfl (fun hb46 => ?_) (fun hb46 => ?_)
          · have hm23 := ifT hb46 hm23
            refine WK_seq ?_
            refine WK_region ?_
            refine WO_pure tbok 2 [(4, .pointer (some ⟨b3, 0, none⟩)), (8, .int .i64 0), (9, .int .i64 15), (10, .slice a12 ((l_2).length) c14), (14, .int .i64 y_10), (67, .slice (some ⟨b7, 0, none⟩) 4 4), (68, .int .i64 4), (69, .int .i64 s_3)] rfl ⟨rfl, rfl, rfl, rfl, rfl, rfl, rfl, rfl, trivial⟩ ?_
            refine WO_end ?_
            cases hm23
            have hq := hd27 _ rfl
            subst hq
            have hm : some _ = some _ := hm
            cases hm
            exact WK_ret (ret_out (L := []) (RLc_tmp rfl (RLc_tmp rfl RLc_nil)) (List.nil_sublist _) rfl)
          · have hm23 := ifF hb46 hm23
            refine WK_skip ?_
            refine WK_region ?_
            refine WO_pure tbok 2 [(4, .pointer (some ⟨b3, 0, none⟩)), (8, .int .i64 0), (9, .int .i64 0), (10, .slice a12 ((l_2).length) c14), (67, .slice (some ⟨b7, 0, none⟩) 4 4), (68, .int .i64 4), (69, .int .i64 s_3), (88, .slice a12 ((l_2).length) c14), (89, .int .i64 y_10)] rfl ⟨rfl, rfl, rfl, rfl, rfl, rfl, rfl, rfl, rfl, trivial⟩ ?_
            refine WO_bslice (E := (I1 .i64)) tbok (fun _ => rfl) (by decide) [.int .i64 y_10] ([y_10] : List Int) rfl rfl trivial rfl rfl rfl rfl rfl rfl rfl rfl rfl rfl rfl rfl (fun b47 hb47 => ?_)
            refine WO.cls (C' := St w0 m m [[⟨b3, 74, [.int .i64 p0_0, .int .i64 p0_1, .int .i64 p0_2, .slice a_p0_3 p0_3.length c_p0_3, .slice a_p0_4 p0_4.length c_p0_4]⟩], [⟨b7, 44, ([(w64 (p1 + 1), w64 (p2 - p3), p3, w64 ((w64 (2 * p3)) + 1)), (w64 (p1 - p3), w64 (p2 - p3), w64 ((w64 (2 * p3)) + 1), p3), (w64 (p1 - p3), w64 (p2 - p3), p3, w64 ((w64 (2 * p3)) + 1)), (w64 (p1 - p3), w64 (p2 + 1), w64 ((w64 (2 * p3)) + 1), p3)] : List (Int × Int × Int × Int)).flatMap T4⟩], L11, [⟨b44, 44, [.int .i64 v_9.1, .int .i64 v_9.2.1, .int .i64 v_9.2.2.1, .int .i64 v_9.2.2.2]⟩], [⟨b47, 3, ([y_10] : List Int).flatMap (I1 .i64)⟩]]) (fun _ h => h) ?_
            obtain ⟨hc49, hm23⟩ := chk_some hm23
            refine WO_append (E := (I1 .i64)) tbok (fun _ => rfl) 2 ([y_10] : List Int) (fun _ _ => rfl) rfl rfl rfl rfl rfl rfl rfl rfl rfl rfl rfl rfl hL11 rfl (src_seg (j := 4) rfl) (ap_ok (by decide) hc49) (ap_max hc49) (fun a50 c51 L52 hL52 => ?_)
            refine WO.cls (C' := St w0 m m [[⟨b3, 74, [.int .i64 p0_0, .int .i64 p0_1, .int .i64 p0_2, .slice a_p0_3 p0_3.length c_p0_3, .slice a_p0_4 p0_4.length c_p0_4]⟩], [⟨b7, 44, ([(w64 (p1 + 1), w64 (p2 - p3), p3, w64 ((w64 (2 * p3)) + 1)), (w64 (p1 - p3), w64 (p2 - p3), w64 ((w64 (2 * p3)) + 1), p3), (w64 (p1 - p3), w64 (p2 - p3), p3, w64 ((w64 (2 * p3)) + 1)), (w64 (p1 - p3), w64 (p2 + 1), w64 ((w64 (2 * p3)) + 1), p3)] : List (Int × Int × Int × Int)).flatMap T4⟩], L52, [⟨b44, 44, [.int .i64 v_9.1, .int .i64 v_9.2.1, .int .i64 v_9.2.2.1, .int .i64 v_9.2.2.2]⟩], [⟨b47, 3, ([y_10] : List Int).flatMap (I1 .i64)⟩]]) (fun _ h => h) ?_
            refine WO_pure tbok 1 [(4, .pointer (some ⟨b3, 0, none⟩)), (8, .int .i64 0), (9, .int .i64 0), (10, .slice a50 ((l_2 ++ ([y_10] : List Int)).length) c51), (67, .slice (some ⟨b7, 0, none⟩) 4 4), (68, .int .i64 4), (69, .int .i64 s_3)] rfl ⟨rfl, rfl, rfl, rfl, rfl, rfl, rfl, trivial⟩ ?_
            refine WO_end ?_
            refine WK_blk ?_
            refine WK_region ?_
            refine WO_pure tbok 2 [(4, .pointer (some ⟨b3, 0, none⟩)), (8, .int .i64 0), (9, .int .i64 0), (10, .slice a50 ((l_2 ++ ([y_10] : List Int)).length) c51), (67, .slice (some ⟨b7, 0, none⟩) 4 4), (68, .int .i64 4), (69, .int .i64 (w64 (s_3 + 1)))] rfl ⟨rfl, rfl, rfl, rfl, rfl, rfl, rfl, trivial⟩ ?_
            refine WO_end ?_
            cases hm23
            refine WK.sub ?_ (WK.cls (fun _ h => St.take 3 h) (hn26 _ (a50, (l_2 ++ ([y_10] : List Int)).length, c51, L52) rfl hL52))
            exact ⟨rfl, rfl, rfl, rfl, rfl, rfl, rfl, trivial⟩
        · have hm23 := ifF hb41 hm23
          refine WK_exit rfl ?_
          cases hm23
          refine WK.sub ?_ (WK.cls (fun _ h => h) (hk22 (l_2, (a12, (l_2).length, c14, L11)) ⟨(hd27 _ rfl), hL11⟩))
          exact ⟨rfl, rfl, rfl, trivial⟩
  · refine WK_region ?_
    refine WO_loadB tbok 0 rfl rfl rfl rfl (fun _ h => h) rfl rfl ?_
    refine WO_pure tbok 2 [(1, .int .i64 p1), (2, .int .i64 p2), (3, .int .i64 p3), (4, .pointer (some ⟨b3, 0, none⟩)), (8, .int .i64 0), (9, .int .i64 0), (17, .agg #[.int .i64 p0_0, .int .i64 p0_1, .int .i64 p0_2, .slice a_p0_3 p0_3.length c_p0_3, .slice a_p0_4 p0_4.length c_p0_4]), (18, .int .i64 p1), (19, .int .i64 p2)] rfl ⟨rfl, rfl, rfl, rfl, rfl, rfl, rfl, rfl, rfl, trivial⟩ ?_
    obtain ⟨y_12, hc54, hx4⟩ := bind_some hx4
    refine WO_call0 (.bool y_12) rfl rfl trivial rfl rfl rfl rfl St_closed ⟨37, #[], #[], rfl, callable_37, fun w hw => ⟨_, hw.sat, fiducial_descriptor_image_pixel_walk h_p0_3 h_p0_4 hc54⟩⟩ ?_
    refine WO_pure tbok 2 [(1, .int .i64 p1), (2, .int .i64 p2), (3, .int .i64 p3), (4, .pointer (some ⟨b3, 0, none⟩)), (8, .int .i64 0), (9, .int .i64 0), (22, .bool (!y_12))] rfl ⟨rfl, rfl, rfl, rfl, rfl, rfl, rfl, trivial⟩ ?_
    refine WO_split (d := 22) (b := !y_12) rfl (fun hb55 => ?_) (fun hb55 => ?_)
    · have hx4 := ifT hb55 hx4
      refine WO_pure tbok 7 [(1, .int .i64 p1), (2, .int .i64 p2), (3, .int .i64 p3), (4, .pointer (some ⟨b3, 0, none⟩)), (8, .int .i64 0), (9, .int .i64 0), (29, .bool true)] rfl ⟨rfl, rfl, rfl, rfl, rfl, rfl, rfl, trivial⟩ ?_
      refine WO_end ?_
      cases hx4
      refine WK.sub ?_ (WK.cls (fun _ h => h) hk5)
      exact ⟨rfl, rfl, rfl, rfl, rfl, rfl, rfl, trivial⟩
    · have hx4 := ifF hb55 hx4
      refine WO_pure tbok 4 [(1, .int .i64 p1), (2, .int .i64 p2), (3, .int .i64 p3), (4, .pointer (some ⟨b3, 0, none⟩)), (8, .int .i64 0), (9, .int .i64 0), (26, .bool (decide (p3 < 1)))] rfl ⟨rfl, rfl, rfl, rfl, rfl, rfl, rfl, trivial⟩ ?_
      refine WO_split (d := 26) (b := decide (p3 < 1)) rfl (fun hb56 => ?_) (fun hb56 => ?_)
      · have hx4 := ifT hb56 hx4
        refine WO_pure tbok 3 [(1, .int .i64 p1), (2, .int .i64 p2), (3, .int .i64 p3), (4, .pointer (some ⟨b3, 0, none⟩)), (8, .int .i64 0), (9, .int .i64 0), (29, .bool true)] rfl ⟨rfl, rfl, rfl, rfl, rfl, rfl, rfl, trivial⟩ ?_
        refine WO_end ?_
        cases hx4
        refine WK.sub ?_ (WK.cls (fun _ h => h) hk5)
        exact ⟨rfl, rfl, rfl, rfl, rfl, rfl, rfl, trivial⟩
      · have hx4 := ifF hb56 hx4
        refine WO_pure tbok 3 [(1, .int .i64 p1), (2, .int .i64 p2), (3, .int .i64 p3), (4, .pointer (some ⟨b3, 0, none⟩)), (8, .int .i64 0), (9, .int .i64 0), (29, .bool (decide (16 < p3)))] rfl ⟨rfl, rfl, rfl, rfl, rfl, rfl, rfl, trivial⟩ ?_
        refine WO_end ?_
        cases hx4
        refine WK.sub ?_ (WK.cls (fun _ h => h) hk5)
        exact ⟨rfl, rfl, rfl, rfl, rfl, rfl, rfl, trivial⟩
theorem descriptor_Quarter_walk {m : Mu} {p0_0 : Int} {p0_1 : Int} {p0_2 : Int} {p0_3 : List Int} {p1 : Int} {p2 : Int} {p3 : Int} {a_p0_3 : Option Addr} {q_p0_3 c_p0_3 : Nat} (h_p0_3 : SlR (FE (I1 .i64)) 1 m (.slice a_p0_3 q_p0_3 c_p0_3) p0_3) {r : Int × Int} (hm : descriptor_Quarter p0_0 p0_1 p0_2 p0_3 p1 p2 p3 = some r) :
    Go.E.Spec Try.prog 33 [.agg #[.int .i64 p0_0, .int .i64 p0_1, .int .i64 p0_2, .slice a_p0_3 q_p0_3 c_p0_3], .int .i64 p1, .int .i64 p2, .int .i64 p3] m (fun v _ _ => v = .tuple #[.int .i64 r.1, .int .i64 r.2]) := by
  refine Spec_enter Try.func33 rfl rfl rfl (fun w0 => ?_)
  refine WK.sub (e' := [(0, .agg #[.int .i64 p0_0, .int .i64 p0_1, .int .i64 p0_2, .slice a_p0_3 q_p0_3 c_p0_3]), (1, .int .i64 p1), (2, .int .i64 p2), (3, .int .i64 p3)]) ⟨rfl, rfl, rfl, rfl, trivial⟩ ?_
  obtain rfl := SlR.qlen h_p0_3
  refine WK.sub (e' := [(0, .agg #[.int .i64 p0_0, .int .i64 p0_1, .int .i64 p0_2, .slice a_p0_3 p0_3.length c_p0_3]), (1, .int .i64 p1), (2, .int .i64 p2), (3, .int .i64 p3)]) ⟨rfl, rfl, rfl, rfl, trivial⟩ ?_
  unfold descriptor_Quarter at hm
  refine WK_seq ?_
  refine WK_region ?_
  refine WO_box [.int .i64 p0_0, .int .i64 p0_1, .int .i64 p0_2, .slice a_p0_3 p0_3.length c_p0_3] rfl rfl trivial rfl rfl rfl (fun b2 => ?_)
  refine WO.cls (C' := St w0 m m [[⟨b2, 29, [.int .i64 p0_0, .int .i64 p0_1, .int .i64 p0_2, .slice a_p0_3 p0_3.length c_p0_3]⟩]]) (fun _ h => h) ?_
  refine WO_pure tbok 2 [(1, .int .i64 p1), (2, .int .i64 p2), (3, .int .i64 p3), (4, .pointer (some ⟨b2, 0, none⟩)), (8, .int .i64 0), (9, .int .i64 0)] rfl ⟨rfl, rfl, rfl, rfl, rfl, rfl, trivial⟩ ?_
  refine WO_end ?_
  refine WK_seq ?_
  refine WK_region ?_
  refine WO_loadB tbok 0 rfl rfl rfl rfl (fun _ h => h) rfl rfl ?_
  obtain ⟨⟨y_1, y_2, y_3, y_4, y_5, y_6⟩, hc3, hm⟩ := bind_some hm
  refine WO_call2 (descriptor_open_Q (y_1, y_2, y_3, y_4, y_5, y_6)) rfl rfl trivial rfl rfl rfl rfl ⟨49, #[], #[], rfl, callable_49, descriptor_open_walk h_p0_3 hc3⟩ (fun v11 m12 L10 hle13 hq => ?_)
  obtain ⟨a4, qa4, c5, a7, qa7, c8, rfl, h14, h15⟩ := hq
  obtain rfl := SlR.qlen h14
  obtain rfl := SlR.qlen h15
  refine WO.cls (C' := St w0 m m12 [[⟨b2, 29, [.int .i64 p0_0, .int .i64 p0_1, .int .i64 p0_2, .slice a_p0_3 p0_3.length c_p0_3]⟩], L10]) (fun _ h => h.sub (by simp)) ?_
  refine WO_pure tbok 3 [(1, .int .i64 p1), (2, .int .i64 p2), (3, .int .i64 p3), (8, .int .i64 0), (9, .int .i64 0), (15, .agg #[.int .i64 y_1, .int .i64 y_2, .int .i64 y_3, .slice a4 ((y_4).length) c5, .slice a7 ((y_5).length) c8]), (16, .int .i64 y_6)] rfl ⟨rfl, rfl, rfl, rfl, rfl, rfl, rfl, trivial⟩ ?_
  refine WO_alloc tbok [.int .i64 0, .int .i64 0, .int .i64 0, .slice none 0 0, .slice none 0 0] rfl rfl trivial rfl rfl rfl rfl (fun b16 => ?_)
  refine WO.cls (C' := St w0 m m12 [[⟨b2, 29, [.int .i64 p0_0, .int .i64 p0_1, .int .i64 p0_2, .slice a_p0_3 p0_3.length c_p0_3]⟩], L10, [⟨b16, 74, [.int .i64 0, .int .i64 0, .int .i64 0, .slice none 0 0, .slice none 0 0]⟩]]) (fun _ h => h) ?_
  refine WO_storeB tbok 2 [.int .i64 y_1, .int .i64 y_2, .int .i64 y_3, .slice a4 ((y_4).length) c5, .slice a7 ((y_5).length) c8] rfl rfl rfl rfl rfl rfl rfl ?_
  refine WO.cls (C' := St w0 m m12 [[⟨b2, 29, [.int .i64 p0_0, .int .i64 p0_1, .int .i64 p0_2, .slice a_p0_3 p0_3.length c_p0_3]⟩], L10, [⟨b16, 74, [.int .i64 y_1, .int .i64 y_2, .int .i64 y_3, .slice a4 ((y_4).length) c5, .slice a7 ((y_5).length) c8]⟩]]) (fun _ h => h) ?_
  refine WO_pure tbok 1 [(1, .int .i64 p1), (2, .int .i64 p2), (3, .int .i64 p3), (8, .int .i64 0), (9, .int .i64 0), (10, .pointer (some ⟨b16, 0, none⟩)), (11, .int .i64 y_6)] rfl ⟨rfl, rfl, rfl, rfl, rfl, rfl, rfl, trivial⟩ ?_
  refine WO_end ?_
  refine WK_seq ?_
  refine WK_seq ?_
  refine WK_region ?_
  refine WO_pure tbok 2 [(1, .int .i64 p1), (2, .int .i64 p2), (3, .int .i64 p3), (8, .int .i64 0), (9, .int .i64 0), (10, .pointer (some ⟨b16, 0, none⟩)), (11, .int .i64 y_6), (18, .bool (y_6 != 0))] rfl ⟨rfl, rfl, rfl, rfl, rfl, rfl, rfl, rfl, trivial⟩ ?_
  refine WO_end ?_
  refine WK_cond (b := y_6 != 0) rfl (fun hb17 => ?_) (fun hb17 => ?_)
  · have hm := ifT hb17 hm
    refine WK_seq ?_
    refine WK_region ?_
    refine WO_pure tbok 3 [(1, .int .i64 p1), (2, .int .i64 p2), (3, .int .i64 p3), (8, .int .i64 0), (9, .int .i64 y_6), (10, .pointer (some ⟨b16, 0, none⟩))] rfl ⟨rfl, rfl, rfl, rfl, rfl, rfl, trivial⟩ ?_
    refine WO_end ?_
    cases hm
    exact WK_ret (ret_out (L := []) (RLc_tmp rfl (RLc_tmp rfl RLc_nil)) (List.nil_sublist _) rfl)
  · have hm := ifF hb17 hm
    refine WK_skip ?_
    refine WK_seq ?_
    refine WK_region ?_
    refine WO_loadB tbok 2 rfl rfl rfl rfl (fun _ h => h) rfl rfl ?_
    refine WO_pure tbok 3 [(8, .int .i64 0), (9, .int .i64 0), (20, .agg #[.int .i64 y_1, .int .i64 y_2, .int .i64 y_3, .slice a4 ((y_4).length) c5, .slice a7 ((y_5).length) c8]), (21, .int .i64 p1), (22, .int .i64 p2), (23, .int .i64 p3)] rfl ⟨rfl, rfl, rfl, rfl, rfl, rfl, trivial⟩ ?_
    obtain ⟨⟨y_7, y_8⟩, hc18, hm⟩ := bind_some hm
    refine WO_call0 (.tuple #[.int .i64 y_7, .int .i64 y_8]) rfl rfl trivial rfl rfl rfl rfl St_closed ⟨50, #[], #[], rfl, callable_50, fun w hw => ⟨_, hw.sat, fiducial_descriptor_image_quarter_walk h14 h15 hc18⟩⟩ ?_
    refine WO_pure tbok 4 [(8, .int .i64 y_7), (9, .int .i64 y_8)] rfl ⟨rfl, rfl, trivial⟩ ?_
    refine WO_end ?_
    cases hm
    exact WK_ret (ret_out (L := []) (RLc_tmp rfl (RLc_tmp rfl RLc_nil)) (List.nil_sublist _) rfl)
theorem fiduciallaw21_side_walk {m : Mu} {p0 : Int} {p1 : Int}   {r : Int × Int × Int × Int} (hm : fiduciallaw21_side p0 p1 = some r) :
    Go.E.Spec Try.prog 51 [.int .i64 p0, .int .i64 p1] m (fun v _ _ => v = .agg #[.int .i64 r.1, .int .i64 r.2.1, .int .i64 r.2.2.1, .int .i64 r.2.2.2]) := by
  refine Spec_enter Try.func51 rfl rfl rfl (fun w0 => ?_)
  refine WK.sub (e' := [(0, .int .i64 p0), (1, .int .i64 p1)]) ⟨rfl, rfl, trivial⟩ ?_
  refine WK.sub (e' := [(0, .int .i64 p0), (1, .int .i64 p1)]) ⟨rfl, rfl, trivial⟩ ?_
  unfold fiduciallaw21_side at hm
  refine WK_seq ?_
  refine WK_region ?_
  refine WO_alloc tbok [.int .i64 0, .int .i64 0, .int .i64 0, .int .i64 0] rfl rfl trivial rfl rfl rfl rfl (fun b1 => ?_)
  refine WO.cls (C' := St w0 m m [[⟨b1, 44, [.int .i64 0, .int .i64 0, .int .i64 0, .int .i64 0]⟩]]) (fun _ h => h) ?_
  refine WO_end ?_
  refine WK_seq ?_
  refine WK_seq ?_
  refine WK_region ?_
  refine WO_pure tbok 1 [(1, .int .i64 p1), (4, .pointer (some ⟨b1, 0, none⟩)), (5, .int .i64 p0)] rfl ⟨rfl, rfl, rfl, trivial⟩ ?_
  refine WO_end ?_
  refine WK_block ?_
  refine WK_seq ?_
  refine WK_region ?_
  refine WO_pure tbok 2 [(1, .int .i64 p1), (4, .pointer (some ⟨b1, 0, none⟩)), (5, .int .i64 p0), (6, .bool (p0 == 0))] rfl ⟨rfl, rfl, rfl, rfl, trivial⟩ ?_
  refine WO_end ?_
  refine WK_cond (b := p0 == 0) rfl (fun hb2 => ?_) (fun hb2 => ?_)
  · have hm := ifT hb2 hm
    refine WK_seq ?_
    refine WK_region ?_
    refine WO_pure tbok 7 [(1, .int .i64 p1), (4, .pointer (some ⟨b1, 0, none⟩)), (14, .agg #[.int .i64 1, .int .i64 (w64 (0 - p1)), .int .i64 p1, .int .i64 (w64 ((w64 (2 * p1)) + 1))])] rfl ⟨rfl, rfl, rfl, trivial⟩ ?_
    refine WO_storeB tbok 0 [.int .i64 1, .int .i64 (w64 (0 - p1)), .int .i64 p1, .int .i64 (w64 ((w64 (2 * p1)) + 1))] rfl rfl rfl rfl rfl rfl rfl ?_
    refine WO.cls (C' := St w0 m m [[⟨b1, 44, [.int .i64 1, .int .i64 (w64 (0 - p1)), .int .i64 p1, .int .i64 (w64 ((w64 (2 * p1)) + 1))]⟩]]) (fun _ h => h) ?_
    refine WO_end ?_
    cases hm
    exact WK_ret (ret_out (L := []) (RLc_cell tbok 0 rfl rfl rfl RLc_nil) (List.nil_sublist _) rfl)
  · have hm := ifF hb2 hm
    refine WK_seq ?_
    refine WK_region ?_
    refine WO_pure tbok 2 [(1, .int .i64 p1), (4, .pointer (some ⟨b1, 0, none⟩)), (5, .int .i64 p0), (15, .bool (p0 == 1))] rfl ⟨rfl, rfl, rfl, rfl, trivial⟩ ?_
    refine WO_end ?_
    refine WK_cond (b := p0 == 1) rfl (fun hb3 => ?_) (fun hb3 => ?_)
    · have hm := ifT hb3 hm
      refine WK_seq ?_
      refine WK_region ?_
      refine WO_pure tbok 9 [(1, .int .i64 p1), (4, .pointer (some ⟨b1, 0, none⟩)), (25, .agg #[.int .i64 (w64 (0 - p1)), .int .i64 (w64 (0 - p1)), .int .i64 (w64 ((w64 (2 * p1)) + 1)), .int .i64 p1])] rfl ⟨rfl, rfl, rfl, trivial⟩ ?_
      refine WO_storeB tbok 0 [.int .i64 (w64 (0 - p1)), .int .i64 (w64 (0 - p1)), .int .i64 (w64 ((w64 (2 * p1)) + 1)), .int .i64 p1] rfl rfl rfl rfl rfl rfl rfl ?_
      refine WO.cls (C' := St w0 m m [[⟨b1, 44, [.int .i64 (w64 (0 - p1)), .int .i64 (w64 (0 - p1)), .int .i64 (w64 ((w64 (2 * p1)) + 1)), .int .i64 p1]⟩]]) (fun _ h => h) ?_
      refine WO_end ?_
      cases hm
      exact WK_ret (ret_out (L := []) (RLc_cell tbok 0 rfl rfl rfl RLc_nil) (List.nil_sublist _) rfl)
    · have hm := ifF hb3 hm
      refine WK_seq ?_
      refine WK_region ?_
      refine WO_pure tbok 2 [(1, .int .i64 p1), (4, .pointer (some ⟨b1, 0, none⟩)), (26, .bool (p0 == 2))] rfl ⟨rfl, rfl, rfl, trivial⟩ ?_
      refine WO_end ?_
      refine WK_cond (b := p0 == 2) rfl (fun hb4 => ?_) (fun hb4 => ?_)
      · have hm := ifT hb4 hm
        refine WK_seq ?_
        refine WK_region ?_
        refine WO_pure tbok 9 [(1, .int .i64 p1), (4, .pointer (some ⟨b1, 0, none⟩)), (36, .agg #[.int .i64 (w64 (0 - p1)), .int .i64 (w64 (0 - p1)), .int .i64 p1, .int .i64 (w64 ((w64 (2 * p1)) + 1))])] rfl ⟨rfl, rfl, rfl, trivial⟩ ?_
        refine WO_storeB tbok 0 [.int .i64 (w64 (0 - p1)), .int .i64 (w64 (0 - p1)), .int .i64 p1, .int .i64 (w64 ((w64 (2 * p1)) + 1))] rfl rfl rfl rfl rfl rfl rfl ?_
        refine WO.cls (C' := St w0 m m [[⟨b1, 44, [.int .i64 (w64 (0 - p1)), .int .i64 (w64 (0 - p1)), .int .i64 p1, .int .i64 (w64 ((w64 (2 * p1)) + 1))]⟩]]) (fun _ h => h) ?_
        refine WO_end ?_
        cases hm
        exact WK_ret (ret_out (L := []) (RLc_cell tbok 0 rfl rfl rfl RLc_nil) (List.nil_sublist _) rfl)
      · have hm := ifF hb4 hm
        refine WK_skip ?_
        refine WK_blk ?_
        refine WK_seq ?_
        refine WK_region ?_
        refine WO_pure tbok 7 [(4, .pointer (some ⟨b1, 0, none⟩)), (43, .agg #[.int .i64 (w64 (0 - p1)), .int .i64 1, .int .i64 (w64 ((w64 (2 * p1)) + 1)), .int .i64 p1])] rfl ⟨rfl, rfl, trivial⟩ ?_
        refine WO_storeB tbok 0 [.int .i64 (w64 (0 - p1)), .int .i64 1, .int .i64 (w64 ((w64 (2 * p1)) + 1)), .int .i64 p1] rfl rfl rfl rfl rfl rfl rfl ?_
        refine WO.cls (C' := St w0 m m [[⟨b1, 44, [.int .i64 (w64 (0 - p1)), .int .i64 1, .int .i64 (w64 ((w64 (2 * p1)) + 1)), .int .i64 p1]⟩]]) (fun _ h => h) ?_
        refine WO_end ?_
        cases hm
        exact WK_ret (ret_out (L := []) (RLc_cell tbok 0 rfl rfl rfl RLc_nil) (List.nil_sublist _) rfl)
theorem fiduciallaw21_quarter_walk {m : Mu} {p0_0 : Int} {p0_1 : Int} {p0_2 : Int} {p0_3 : List Int} {p1 : Int} {p2 : Int} {p3 : Int} {a_p0_3 : Option Addr} {q_p0_3 c_p0_3 : Nat} (h_p0_3 : SlR (FE (I1 .i64)) 1 m (.slice a_p0_3 q_p0_3 c_p0_3) p0_3) {r : Int × Int} (hm : fiduciallaw21_quarter p0_0 p0_1 p0_2 p0_3 p1 p2 p3 = some r) :
    Go.E.Spec Try.prog 34 [.agg #[.int .i64 p0_0, .int .i64 p0_1, .int .i64 p0_2, .slice a_p0_3 q_p0_3 c_p0_3], .int .i64 p1, .int .i64 p2, .int .i64 p3] m (fun v _ _ => v = .tuple #[.int .i64 r.1, .int .i64 r.2]) := by
  refine Spec_enter Try.func34 rfl rfl rfl (fun w0 => ?_)
  refine WK.sub (e' := [(0, .agg #[.int .i64 p0_0, .int .i64 p0_1, .int .i64 p0_2, .slice a_p0_3 q_p0_3 c_p0_3]), (1, .int .i64 p1), (2, .int .i64 p2), (3, .int .i64 p3)]) ⟨rfl, rfl, rfl, rfl, trivial⟩ ?_
  obtain rfl := SlR.qlen h_p0_3
  refine WK.sub (e' := [(0, .agg #[.int .i64 p0_0, .int .i64 p0_1, .int .i64 p0_2, .slice a_p0_3 p0_3.length c_p0_3]), (1, .int .i64 p1), (2, .int .i64 p2), (3, .int .i64 p3)]) ⟨rfl, rfl, rfl, rfl, trivial⟩ ?_
  unfold fiduciallaw21_quarter at hm
  refine WK_seq ?_
  refine WK_region ?_
  refine WO_box [.int .i64 p0_0, .int .i64 p0_1, .int .i64 p0_2, .slice a_p0_3 p0_3.length c_p0_3] rfl rfl trivial rfl rfl rfl (fun b2 => ?_)
  refine WO.cls (C' := St w0 m m [[⟨b2, 29, [.int .i64 p0_0, .int .i64 p0_1, .int .i64 p0_2, .slice a_p0_3 p0_3.length c_p0_3]⟩]]) (fun _ h => h) ?_
  refine WO_pure tbok 2 [(1, .int .i64 p1), (2, .int .i64 p2), (3, .int .i64 p3), (4, .pointer (some ⟨b2, 0, none⟩)), (8, .int .i64 0), (9, .int .i64 0)] rfl ⟨rfl, rfl, rfl, rfl, rfl, rfl, trivial⟩ ?_
  refine WO_end ?_
  refine WK_seq ?_
  refine WK_seq ?_
  obtain ⟨s_1, hx3, hm⟩ := bind_some hm
  refine WK_meet [(1, .int .i64 p1), (2, .int .i64 p2), (3, .int .i64 p3), (4, .pointer (some ⟨b2, 0, none⟩)), (8, .int .i64 0), (9, .int .i64 0), (28, .bool s_1)] (St w0 m m [[⟨b2, 29, [.int .i64 p0_0, .int .i64 p0_1, .int .i64 p0_2, .slice a_p0_3 p0_3.length c_p0_3]⟩]]) ?_ (fun hk4 => ?_)
  · refine WK_cond (b := s_1) rfl (fun hb5 => ?_) (fun hb5 => ?_)
    · have hm := ifT hb5 hm
      refine WK_seq ?_
      refine WK_region ?_
      refine WO_pure tbok 2 [(1, .int .i64 p1), (2, .int .i64 p2), (3, .int .i64 p3), (4, .pointer (some ⟨b2, 0, none⟩)), (8, .int .i64 0), (9, .int .i64 2)] rfl ⟨rfl, rfl, rfl, rfl, rfl, rfl, trivial⟩ ?_
      refine WO_end ?_
      cases hm
      exact WK_ret (ret_out (L := []) (RLc_tmp rfl (RLc_tmp rfl RLc_nil)) (List.nil_sublist _) rfl)
    · have hm := ifF hb5 hm
      refine WK_skip ?_
      refine WK_seq ?_
      refine WK_region ?_
      refine WO_pure tbok 3 [(1, .int .i64 p1), (2, .int .i64 p2), (3, .int .i64 p3), (4, .pointer (some ⟨b2, 0, none⟩)), (8, .int .i64 0), (9, .int .i64 0), (10, .int .i64 0), (11, .int .i64 (-1)), (12, .int .i64 0)] rfl ⟨rfl, rfl, rfl, rfl, rfl, rfl, rfl, rfl, rfl, trivial⟩ ?_
      refine WO_end ?_
      refine WK_seq ?_
      refine WK_seq ?_
      refine WK_region ?_
      refine WO_pure tbok 1 [(1, .int .i64 p1), (2, .int .i64 p2), (3, .int .i64 p3), (4, .pointer (some ⟨b2, 0, none⟩)), (8, .int .i64 0), (9, .int .i64 0), (10, .int .i64 0), (11, .int .i64 (-1)), (12, .int .i64 0), (29, .int .i64 0)] rfl ⟨rfl, rfl, rfl, rfl, rfl, rfl, rfl, rfl, rfl, rfl, trivial⟩ ?_
      refine WO_end ?_
      obtain ⟨x6, hx7, hm⟩ := bind_some hm
      refine WK_join (β := (Int × Int) × Unit) (fun p => Sum.inr p.1 = x6) (fun p => [(8, .int .i64 0), (9, .int .i64 0), (10, .int .i64 p.1.2), (12, .int .i64 p.1.1)]) (fun p => St w0 m m [[⟨b2, 29, [.int .i64 p0_0, .int .i64 p0_1, .int .i64 p0_2, .slice a_p0_3 p0_3.length c_p0_3]⟩]]) ?_ (fun hk8 => ?_)
      · rintro ⟨⟨s_6, s_7⟩, ⟨⟩⟩ hq14
        subst hq14
        refine WK.sub (e' := [(8, .int .i64 0), (9, .int .i64 0), (10, .int .i64 s_7), (12, .int .i64 s_6)]) ⟨rfl, rfl, rfl, rfl, trivial⟩ (WK.cls (C' := St w0 m m [[⟨b2, 29, [.int .i64 p0_0, .int .i64 p0_1, .int .i64 p0_2, .slice a_p0_3 p0_3.length c_p0_3]⟩]]) (fun _ h => h) ?_)
        refine WK_seq ?_
        refine WK_seq ?_
        refine WK_region ?_
        refine WO_pure tbok 2 [(8, .int .i64 0), (9, .int .i64 0), (10, .int .i64 s_7), (67, .bool (decide (1 < s_6)))] rfl ⟨rfl, rfl, rfl, rfl, trivial⟩ ?_
        refine WO_end ?_
        refine WK_cond (b := decide (1 < s_6)) rfl (fun hb15 => ?_) (fun hb15 => ?_)
        · have hm := ifT hb15 hm
          refine WK_seq ?_
          refine WK_region ?_
          refine WO_pure tbok 2 [(8, .int .i64 0), (9, .int .i64 13), (10, .int .i64 s_7)] rfl ⟨rfl, rfl, rfl, trivial⟩ ?_
          refine WO_end ?_
          cases hm
          exact WK_ret (ret_out (L := []) (RLc_tmp rfl (RLc_tmp rfl RLc_nil)) (List.nil_sublist _) rfl)
        · have hm := ifF hb15 hm
          refine WK_skip ?_
          refine WK_seq ?_
          refine WK_region ?_
          refine WO_pure tbok 3 [(8, .int .i64 s_7), (9, .int .i64 0)] rfl ⟨rfl, rfl, trivial⟩ ?_
          refine WO_end ?_
          cases hm
          exact WK_ret (ret_out (L := []) (RLc_tmp rfl (RLc_tmp rfl RLc_nil)) (List.nil_sublist _) rfl)
      · refine WK_block ?_
        refine WK_loop (S := Int × Int × Int × Int) (G := Unit) (fun s => fiduciallaw21_quarter_s1 p0_0 p0_1 p0_2 p0_3 p1 p2 p3 s.1 s.2.1 s.2.2.1 s.2.2.2) (fun s g => [(1, .int .i64 p1), (2, .int .i64 p2), (3, .int .i64 p3), (4, .pointer (some ⟨b2, 0, none⟩)), (8, .int .i64 0), (9, .int .i64 0), (10, .int .i64 s.2.2.2), (11, .int .i64 s.1), (12, .int .i64 s.2.1), (29, .int .i64 s.2.2.1)]) (fun s g => St w0 m m [[⟨b2, 29, [.int .i64 p0_0, .int .i64 p0_1, .int .i64 p0_2, .slice a_p0_3 p0_3.length c_p0_3]⟩]]) (fun s g => True) FUEL ((-1), 0, 0, 0) () x6 hx7 trivial ⟨rfl, rfl, rfl, rfl, rfl, rfl, rfl, rfl, rfl, rfl, trivial⟩ (fun _ h => h) ?_
        rintro ⟨s_2, s_3, s_4, s_5⟩ ⟨⟩ o10 fl11 hm9 - hn12 hd13
        have hm9 : fiduciallaw21_quarter_s1 p0_0 p0_1 p0_2 p0_3 p1 p2 p3 s_2 s_3 s_4 s_5 = some o10 := hm9
        unfold fiduciallaw21_quarter_s1 at hm9
        refine WK.sub (e' := [(1, .int .i64 p1), (2, .int .i64 p2), (3, .int .i64 p3), (4, .pointer (some ⟨b2, 0, none⟩)), (8, .int .i64 0), (9, .int .i64 0), (10, .int .i64 s_5), (11, .int .i64 s_2), (12, .int .i64 s_3), (29, .int .i64 s_4)]) ⟨rfl, rfl, rfl, rfl, rfl, rfl, rfl, rfl, rfl, rfl, trivial⟩ (WK.cls (C' := St w0 m m [[⟨b2, 29, [.int .i64 p0_0, .int .i64 p0_1, .int .i64 p0_2, .slice a_p0_3 p0_3.length c_p0_3]⟩]]) (fun _ h => h) ?_)
        refine WK_seq ?_
        refine WK_region ?_
        refine WO_pure tbok 1 [(1, .int .i64 p1), (2, .int .i64 p2), (3, .int .i64 p3), (4, .pointer (some ⟨b2, 0, none⟩)), (8, .int .i64 0), (9, .int .i64 0), (10, .int .i64 s_5), (11, .int .i64 s_2), (12, .int .i64 s_3), (29, .int .i64 s_4), (30, .bool (decide (s_4 < 4)))] rfl ⟨rfl, rfl, rfl, rfl, rfl, rfl, rfl, rfl, rfl, rfl, rfl, trivial⟩ ?_
        refine WO_end ?_
        refine WK_seq ?_
        refine WK_cond (b := decide (s_4 < 4)) rfl (fun hb16 => ?_) (fun hb16 => ?_)
        · have hm9 := ifT hb16 hm9
          refine WK_skip ?_
          refine WK_seq ?_
          refine WK_block ?_
          refine WK_seq ?_
          refine WK_region ?_
          refine WO_pure tbok 2 [(1, .int .i64 p1), (2, .int .i64 p2), (3, .int .i64 p3), (4, .pointer (some ⟨b2, 0, none⟩)), (8, .int .i64 0), (9, .int .i64 0), (10, .int .i64 s_5), (11, .int .i64 s_2), (12, .int .i64 s_3), (13, .int .i64 s_4), (29, .int .i64 s_4)] rfl ⟨rfl, rfl, rfl, rfl, rfl, rfl, rfl, rfl, rfl, rfl, rfl, trivial⟩ ?_
          refine WO_end ?_
          refine WK_seq ?_
          refine WK_region ?_
          refine WO_pure tbok 2 [(1, .int .i64 p1), (2, .int .i64 p2), (3, .int .i64 p3), (4, .pointer (some ⟨b2, 0, none⟩)), (8, .int .i64 0), (9, .int .i64 0), (10, .int .i64 s_5), (11, .int .i64 s_2), (12, .int .i64 s_3), (13, .int .i64 s_4), (29, .int .i64 s_4), (32, .int .i64 s_4), (33, .int .i64 p3)] rfl ⟨rfl, rfl, rfl, rfl, rfl, rfl, rfl, rfl, rfl, rfl, rfl, rfl, rfl, trivial⟩ ?_
          obtain ⟨⟨y_8, y_9, y_10, y_11⟩, hc17, hm9⟩ := bind_some hm9
          refine WO_call0 (.agg #[.int .i64 y_8, .int .i64 y_9, .int .i64 y_10, .int .i64 y_11]) rfl rfl trivial rfl rfl rfl rfl St_closed ⟨51, #[], #[], rfl, callable_51, fun w hw => ⟨_, hw.sat, fiduciallaw21_side_walk hc17⟩⟩ ?_
          refine WO_alloc tbok [.int .i64 0, .int .i64 0, .int .i64 0, .int .i64 0] rfl rfl trivial rfl rfl rfl rfl (fun b18 => ?_)
          refine WO.cls (C' := St w0 m m [[⟨b2, 29, [.int .i64 p0_0, .int .i64 p0_1, .int .i64 p0_2, .slice a_p0_3 p0_3.length c_p0_3]⟩], [⟨b18, 44, [.int .i64 0, .int .i64 0, .int .i64 0, .int .i64 0]⟩]]) (fun _ h => h) ?_
          refine WO_storeB tbok 1 [.int .i64 y_8, .int .i64 y_9, .int .i64 y_10, .int .i64 y_11] rfl rfl rfl rfl rfl rfl rfl ?_
          refine WO.cls (C' := St w0 m m [[⟨b2, 29, [.int .i64 p0_0, .int .i64 p0_1, .int .i64 p0_2, .slice a_p0_3 p0_3.length c_p0_3]⟩], [⟨b18, 44, [.int .i64 y_8, .int .i64 y_9, .int .i64 y_10, .int .i64 y_11]⟩]]) (fun _ h => h) ?_
          refine WO_end ?_
          refine WK_seq ?_
          refine WK_seq ?_
          refine WK_region ?_
          refine WO_loadB tbok 0 rfl rfl rfl rfl (fun _ h => h) rfl rfl ?_
          refine WO_loadB tbok 1 rfl rfl rfl rfl (fun _ h => h) rfl rfl ?_
          refine WO_pure tbok 2 [(1, .int .i64 p1), (2, .int .i64 p2), (3, .int .i64 p3), (4, .pointer (some ⟨b2, 0, none⟩)), (8, .int .i64 0), (9, .int .i64 0), (10, .int .i64 s_5), (11, .int .i64 s_2), (12, .int .i64 s_3), (13, .int .i64 s_4), (14, .pointer (some ⟨b18, 0, none⟩)), (29, .int .i64 s_4), (35, .agg #[.int .i64 p0_0, .int .i64 p0_1, .int .i64 p0_2, .slice a_p0_3 p0_3.length c_p0_3]), (36, .agg #[.int .i64 y_8, .int .i64 y_9, .int .i64 y_10, .int .i64 y_11]), (37, .int .i64 p1), (38, .int .i64 p2)] rfl ⟨rfl, rfl, rfl, rfl, rfl, rfl, rfl, rfl, rfl, rfl, rfl, rfl, rfl, rfl, rfl, rfl, trivial⟩ ?_
          obtain ⟨y_12, hc19, hm9⟩ := bind_some hm9
          refine WO_call0 (.bool y_12) rfl rfl trivial rfl rfl rfl rfl St_closed ⟨39, #[], #[], rfl, callable_39, fun w hw => ⟨_, hw.sat, fiduciallaw21_fits_walk h_p0_3 hc19⟩⟩ ?_
          refine WO_pure tbok 1 [(1, .int .i64 p1), (2, .int .i64 p2), (3, .int .i64 p3), (4, .pointer (some ⟨b2, 0, none⟩)), (8, .int .i64 0), (9, .int .i64 0), (10, .int .i64 s_5), (11, .int .i64 s_2), (12, .int .i64 s_3), (13, .int .i64 s_4), (14, .pointer (some ⟨b18, 0, none⟩)), (29, .int .i64 s_4), (40, .bool (!y_12))] rfl ⟨rfl, rfl, rfl, rfl, rfl, rfl, rfl, rfl, rfl, rfl, rfl, rfl, rfl, trivial⟩ ?_
          refine WO_end ?_
          refine WK_cond (b := !y_12) rfl (fun hb20 => ?_) (fun hb20 => ?_)
          · have hm9 := ifT hb20 hm9
            refine WK_seq ?_
            refine WK_region ?_
            refine WO_pure tbok 2 [(1, .int .i64 p1), (2, .int .i64 p2), (3, .int .i64 p3), (4, .pointer (some ⟨b2, 0, none⟩)), (8, .int .i64 0), (9, .int .i64 15), (10, .int .i64 s_5), (11, .int .i64 s_2), (12, .int .i64 s_3), (13, .int .i64 s_4), (14, .pointer (some ⟨b18, 0, none⟩)), (29, .int .i64 s_4)] rfl ⟨rfl, rfl, rfl, rfl, rfl, rfl, rfl, rfl, rfl, rfl, rfl, rfl, trivial⟩ ?_
            refine WO_end ?_
            cases hm9
            have hq := hd13 _ rfl
            subst hq
            have hm : some _ = some _ := hm
            cases hm
            exact WK_ret (ret_out (L := []) (RLc_tmp rfl (RLc_tmp rfl RLc_nil)) (List.nil_sublist _) rfl)
          · have hm9 := ifF hb20 hm9
            refine WK_skip ?_
            refine WK_seq ?_
            refine WK_region ?_
            refine WO_loadB tbok 0 rfl rfl rfl rfl (fun _ h => h) rfl rfl ?_
            refine WO_pure tbok 2 [(1, .int .i64 p1), (2, .int .i64 p2), (3, .int .i64 p3), (4, .pointer (some ⟨b2, 0, none⟩)), (8, .int .i64 0), (9, .int .i64 0), (10, .int .i64 s_5), (11, .int .i64 s_2), (12, .int .i64 s_3), (13, .int .i64 s_4), (14, .pointer (some ⟨b18, 0, none⟩)), (29, .int .i64 s_4), (41, .agg #[.int .i64 p0_0, .int .i64 p0_1, .int .i64 p0_2, .slice a_p0_3 p0_3.length c_p0_3]), (42, .int .i64 p1), (43, .pointer (some ⟨b18, 0, none⟩))] rfl ⟨rfl, rfl, rfl, rfl, rfl, rfl, rfl, rfl, rfl, rfl, rfl, rfl, rfl, rfl, rfl, trivial⟩ ?_
            refine WO_loadB tbok 1 rfl rfl rfl rfl (fun _ h => h) rfl rfl ?_
            refine WO_pure tbok 3 [(1, .int .i64 p1), (2, .int .i64 p2), (3, .int .i64 p3), (4, .pointer (some ⟨b2, 0, none⟩)), (8, .int .i64 0), (9, .int .i64 0), (10, .int .i64 s_5), (11, .int .i64 s_2), (12, .int .i64 s_3), (13, .int .i64 s_4), (14, .pointer (some ⟨b18, 0, none⟩)), (29, .int .i64 s_4), (41, .agg #[.int .i64 p0_0, .int .i64 p0_1, .int .i64 p0_2, .slice a_p0_3 p0_3.length c_p0_3]), (45, .int .i64 (w64 (p1 + y_8))), (46, .int .i64 p2), (47, .pointer (some ⟨b18, 1, none⟩))] rfl ⟨rfl, rfl, rfl, rfl, rfl, rfl, rfl, rfl, rfl, rfl, rfl, rfl, rfl, rfl, rfl, rfl, trivial⟩ ?_
            refine WO_loadB tbok 1 rfl rfl rfl rfl (fun _ h => h) rfl rfl ?_
            refine WO_pure tbok 2 [(1, .int .i64 p1), (2, .int .i64 p2), (3, .int .i64 p3), (4, .pointer (some ⟨b2, 0, none⟩)), (8, .int .i64 0), (9, .int .i64 0), (10, .int .i64 s_5), (11, .int .i64 s_2), (12, .int .i64 s_3), (13, .int .i64 s_4), (14, .pointer (some ⟨b18, 0, none⟩)), (29, .int .i64 s_4), (41, .agg #[.int .i64 p0_0, .int .i64 p0_1, .int .i64 p0_2, .slice a_p0_3 p0_3.length c_p0_3]), (45, .int .i64 (w64 (p1 + y_8))), (49, .int .i64 (w64 (p2 + y_9))), (50, .pointer (some ⟨b18, 2, none⟩))] rfl ⟨rfl, rfl, rfl, rfl, rfl, rfl, rfl, rfl, rfl, rfl, rfl, rfl, rfl, rfl, rfl, rfl, trivial⟩ ?_
            refine WO_loadB tbok 1 rfl rfl rfl rfl (fun _ h => h) rfl rfl ?_
            refine WO_pure tbok 1 [(1, .int .i64 p1), (2, .int .i64 p2), (3, .int .i64 p3), (4, .pointer (some ⟨b2, 0, none⟩)), (8, .int .i64 0), (9, .int .i64 0), (10, .int .i64 s_5), (11, .int .i64 s_2), (12, .int .i64 s_3), (13, .int .i64 s_4), (29, .int .i64 s_4), (41, .agg #[.int .i64 p0_0, .int .i64 p0_1, .int .i64 p0_2, .slice a_p0_3 p0_3.length c_p0_3]), (45, .int .i64 (w64 (p1 + y_8))), (49, .int .i64 (w64 (p2 + y_9))), (51, .int .i64 y_10), (52, .pointer (some ⟨b18, 3, none⟩))] rfl ⟨rfl, rfl, rfl, rfl, rfl, rfl, rfl, rfl, rfl, rfl, rfl, rfl, rfl, rfl, rfl, rfl, trivial⟩ ?_
            refine WO_loadB tbok 1 rfl rfl rfl rfl (fun _ h => h) rfl rfl ?_
            obtain ⟨y_13, hc21, hm9⟩ := bind_some hm9
            refine WO_call0 (.int .i64 y_13) rfl rfl trivial rfl rfl rfl rfl St_closed ⟨40, #[], #[], rfl, callable_40, fun w hw => ⟨_, hw.sat, fiducialref13_Sum_walk h_p0_3 hc21⟩⟩ ?_
            refine WO_pure tbok 1 [(1, .int .i64 p1), (2, .int .i64 p2), (3, .int .i64 p3), (4, .pointer (some ⟨b2, 0, none⟩)), (8, .int .i64 0), (9, .int .i64 0), (10, .int .i64 s_5), (11, .int .i64 s_2), (12, .int .i64 s_3), (13, .int .i64 s_4), (15, .int .i64 y_13), (29, .int .i64 s_4)] rfl ⟨rfl, rfl, rfl, rfl, rfl, rfl, rfl, rfl, rfl, rfl, rfl, rfl, trivial⟩ ?_
            refine WO_end ?_
            refine WK_seq ?_
            refine WK_seq ?_
            refine WK_region ?_
            refine WO_pure tbok 3 [(1, .int .i64 p1), (2, .int .i64 p2), (3, .int .i64 p3), (4, .pointer (some ⟨b2, 0, none⟩)), (8, .int .i64 0), (9, .int .i64 0), (10, .int .i64 s_5), (11, .int .i64 s_2), (12, .int .i64 s_3), (13, .int .i64 s_4), (15, .int .i64 y_13), (29, .int .i64 s_4), (57, .bool (decide (s_2 < y_13)))] rfl ⟨rfl, rfl, rfl, rfl, rfl, rfl, rfl, rfl, rfl, rfl, rfl, rfl, rfl, trivial⟩ ?_
            refine WO_end ?_
            obtain ⟨⟨s_14, s_15, s_16⟩, hx22, hm9⟩ := bind_some hm9
            refine WK_meet [(1, .int .i64 p1), (2, .int .i64 p2), (3, .int .i64 p3), (4, .pointer (some ⟨b2, 0, none⟩)), (8, .int .i64 0), (9, .int .i64 0), (10, .int .i64 s_14), (11, .int .i64 s_15), (12, .int .i64 s_16), (15, .int .i64 y_13), (29, .int .i64 s_4)] (St w0 m m [[⟨b2, 29, [.int .i64 p0_0, .int .i64 p0_1, .int .i64 p0_2, .slice a_p0_3 p0_3.length c_p0_3]⟩], [⟨b18, 44, [.int .i64 y_8, .int .i64 y_9, .int .i64 y_10, .int .i64 y_11]⟩]]) ?_ (fun hk23 => ?_)
            · refine WK_seq ?_
              refine WK_region ?_
              refine WO_pure tbok 3 [(1, .int .i64 p1), (2, .int .i64 p2), (3, .int .i64 p3), (4, .pointer (some ⟨b2, 0, none⟩)), (8, .int .i64 0), (9, .int .i64 0), (10, .int .i64 s_14), (11, .int .i64 s_15), (12, .int .i64 s_16), (29, .int .i64 s_4), (62, .bool (y_13 == s_15))] rfl ⟨rfl, rfl, rfl, rfl, rfl, rfl, rfl, rfl, rfl, rfl, rfl, trivial⟩ ?_
              refine WO_end ?_
              obtain ⟨s_17, hx24, hm9⟩ := bind_some hm9
              refine WK_meet [(1, .int .i64 p1), (2, .int .i64 p2), (3, .int .i64 p3), (4, .pointer (some ⟨b2, 0, none⟩)), (8, .int .i64 0), (9, .int .i64 0), (10, .int .i64 s_14), (11, .int .i64 s_15), (12, .int .i64 s_17), (29, .int .i64 s_4)] (St w0 m m [[⟨b2, 29, [.int .i64 p0_0, .int .i64 p0_1, .int .i64 p0_2, .slice a_p0_3 p0_3.length c_p0_3]⟩], [⟨b18, 44, [.int .i64 y_8, .int .i64 y_9, .int .i64 y_10, .int .i64 y_11]⟩]]) ?_ (fun hk25 => ?_)
              · refine WK_blk ?_
                refine WK_region ?_
                refine WO_pure tbok 2 [(1, .int .i64 p1), (2, .int .i64 p2), (3, .int .i64 p3), (4, .pointer (some ⟨b2, 0, none⟩)), (8, .int .i64 0), (9, .int .i64 0), (10, .int .i64 s_14), (11, .int .i64 s_15), (12, .int .i64 s_17), (29, .int .i64 (w64 (s_4 + 1)))] rfl ⟨rfl, rfl, rfl, rfl, rfl, rfl, rfl, rfl, rfl, rfl, trivial⟩ ?_
                refine WO_end ?_
                cases hm9
                refine WK.sub ?_ (WK.cls (fun _ h => St.take 1 h) (hn12 _ () rfl trivial))
                exact ⟨rfl, rfl, rfl, rfl, rfl, rfl, rfl, rfl, rfl, rfl, trivial⟩
              · refine WK_cond (b := y_13 == s_15) rfl (fun hb26 => ?_) (fun hb26 => ?_)
                · have hx24 := ifT hb26 hx24
                  refine WK_region ?_
                  refine WO_pure tbok 3 [(1, .int .i64 p1), (2, .int .i64 p2), (3, .int .i64 p3), (4, .pointer (some ⟨b2, 0, none⟩)), (8, .int .i64 0), (9, .int .i64 0), (10, .int .i64 s_14), (11, .int .i64 s_15), (12, .int .i64 (w64 (s_16 + 1))), (29, .int .i64 s_4)] rfl ⟨rfl, rfl, rfl, rfl, rfl, rfl, rfl, rfl, rfl, rfl, trivial⟩ ?_
                  refine WO_end ?_
                  cases hx24
                  refine WK.sub ?_ (WK.cls (fun _ h => h) hk25)
                  exact ⟨rfl, rfl, rfl, rfl, rfl, rfl, rfl, rfl, rfl, rfl, trivial⟩
                · have hx24 := ifF hb26 hx24
                  refine WK_skip ?_
                  cases hx24
                  refine WK.sub ?_ (WK.cls (fun _ h => h) hk25)
                  exact ⟨rfl, rfl, rfl, rfl, rfl, rfl, rfl, rfl, rfl, rfl, trivial⟩
            · refine WK_cond (b := decide (s_2 < y_13)) rfl (fun hb27 => ?_) (fun hb27 => ?_)
              · have hx22 := ifT hb27 hx22
                refine WK_region ?_
                refine WO_pure tbok 5 [(1, .int .i64 p1), (2, .int .i64 p2), (3, .int .i64 p3), (4, .pointer (some ⟨b2, 0, none⟩)), (8, .int .i64 0), (9, .int .i64 0), (10, .int .i64 s_4), (11, .int .i64 y_13), (12, .int .i64 0), (15, .int .i64 y_13), (29, .int .i64 s_4)] rfl ⟨rfl, rfl, rfl, rfl, rfl, rfl, rfl, rfl, rfl, rfl, rfl, trivial⟩ ?_
                refine WO_end ?_
                cases hx22
                refine WK.sub ?_ (WK.cls (fun _ h => h) hk23)
                exact ⟨rfl, rfl, rfl, rfl, rfl, rfl, rfl, rfl, rfl, rfl, rfl, trivial⟩
              · have hx22 := ifF hb27 hx22
                refine WK_skip ?_
                cases hx22
                refine WK.sub ?_ (WK.cls (fun _ h => h) hk23)
                exact ⟨rfl, rfl, rfl, rfl, rfl, rfl, rfl, rfl, rfl, rfl, rfl, trivial⟩
        · have hm9 := ifF hb16 hm9
          refine WK_exit rfl ?_
          cases hm9
          refine WK.sub ?_ (WK.cls (fun _ h => h) (hk8 ((s_3, s_5), ()) (hd13 _ rfl)))
          exact ⟨rfl, rfl, rfl, rfl, trivial⟩
  · refine WK_region ?_
    refine WO_loadB tbok 0 rfl rfl rfl rfl (fun _ h => h) rfl rfl ?_
    refine WO_pure tbok 2 [(1, .int .i64 p1), (2, .int .i64 p2), (3, .int .i64 p3), (4, .pointer (some ⟨b2, 0, none⟩)), (8, .int .i64 0), (9, .int .i64 0), (16, .agg #[.int .i64 p0_0, .int .i64 p0_1, .int .i64 p0_2, .slice a_p0_3 p0_3.length c_p0_3]), (17, .int .i64 p1), (18, .int .i64 p2)] rfl ⟨rfl, rfl, rfl, rfl, rfl, rfl, rfl, rfl, rfl, trivial⟩ ?_
    obtain ⟨y_18, hc28, hx3⟩ := bind_some hx3
    refine WO_call0 (.bool y_18) rfl rfl trivial rfl rfl rfl rfl St_closed ⟨17, #[], #[], rfl, callable_17, fun w hw => ⟨_, hw.sat, fiducialref13_Inside_walk h_p0_3 hc28⟩⟩ ?_
    refine WO_pure tbok 2 [(1, .int .i64 p1), (2, .int .i64 p2), (3, .int .i64 p3), (4, .pointer (some ⟨b2, 0, none⟩)), (8, .int .i64 0), (9, .int .i64 0), (21, .bool (!y_18))] rfl ⟨rfl, rfl, rfl, rfl, rfl, rfl, rfl, trivial⟩ ?_
    refine WO_split (d := 21) (b := !y_18) rfl (fun hb29 => ?_) (fun hb29 => ?_)
    · have hx3 := ifT hb29 hx3
      refine WO_pure tbok 7 [(1, .int .i64 p1), (2, .int .i64 p2), (3, .int .i64 p3), (4, .pointer (some ⟨b2, 0, none⟩)), (8, .int .i64 0), (9, .int .i64 0), (28, .bool true)] rfl ⟨rfl, rfl, rfl, rfl, rfl, rfl, rfl, trivial⟩ ?_
      refine WO_end ?_
      cases hx3
      refine WK.sub ?_ (WK.cls (fun _ h => h) hk4)
      exact ⟨rfl, rfl, rfl, rfl, rfl, rfl, rfl, trivial⟩
    · have hx3 := ifF hb29 hx3
      refine WO_pure tbok 4 [(1, .int .i64 p1), (2, .int .i64 p2), (3, .int .i64 p3), (4, .pointer (some ⟨b2, 0, none⟩)), (8, .int .i64 0), (9, .int .i64 0), (25, .bool (decide (p3 < 1)))] rfl ⟨rfl, rfl, rfl, rfl, rfl, rfl, rfl, trivial⟩ ?_
      refine WO_split (d := 25) (b := decide (p3 < 1)) rfl (fun hb30 => ?_) (fun hb30 => ?_)
      · have hx3 := ifT hb30 hx3
        refine WO_pure tbok 3 [(1, .int .i64 p1), (2, .int .i64 p2), (3, .int .i64 p3), (4, .pointer (some ⟨b2, 0, none⟩)), (8, .int .i64 0), (9, .int .i64 0), (28, .bool true)] rfl ⟨rfl, rfl, rfl, rfl, rfl, rfl, rfl, trivial⟩ ?_
        refine WO_end ?_
        cases hx3
        refine WK.sub ?_ (WK.cls (fun _ h => h) hk4)
        exact ⟨rfl, rfl, rfl, rfl, rfl, rfl, rfl, trivial⟩
      · have hx3 := ifF hb30 hx3
        refine WO_pure tbok 3 [(1, .int .i64 p1), (2, .int .i64 p2), (3, .int .i64 p3), (4, .pointer (some ⟨b2, 0, none⟩)), (8, .int .i64 0), (9, .int .i64 0), (28, .bool (decide (16 < p3)))] rfl ⟨rfl, rfl, rfl, rfl, rfl, rfl, rfl, trivial⟩ ?_
        refine WO_end ?_
        cases hx3
        refine WK.sub ?_ (WK.cls (fun _ h => h) hk4)
        exact ⟨rfl, rfl, rfl, rfl, rfl, rfl, rfl, trivial⟩
end Go.Proofs.Ytdgmeplpkehdnaa
