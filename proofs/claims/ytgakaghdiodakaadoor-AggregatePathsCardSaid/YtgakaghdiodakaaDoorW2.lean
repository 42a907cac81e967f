import Derived.Test.YtgakaghdiodakaaDoorTab
import Derived.Test.YtgakaghdiodakaaDoorM
import Derived.Test.YtgakaghdiodakaaDoorW1
set_option linter.unusedVariables false
set_option maxRecDepth 100000
set_option maxHeartbeats 4000000
namespace Go.Proofs.YtgakaghdiodakaaDoor
open Go.E Go.RowKit
attribute [local irreducible] Go.E.WO Go.E.WK
theorem aggregate_Prove_walk {m : Mu} {p0 : List (List Int)} {p1 : Int} {p2 : Int} {p3 : List (List Int)} {p4 : Int} {a_p0 : Option Addr} {q_p0 c_p0 : Nat} {a_p3 : Option Addr} {q_p3 c_p3 : Nat} (h_p0 : SlR (RowE (FE (I1 .i64)) 1) 1 m (.slice a_p0 q_p0 c_p0) p0) (h_p3 : SlR (RowE (FE (I1 .i64)) 1) 1 m (.slice a_p3 q_p3 c_p3) p3) {r : Int} (hm : aggregate_Prove p0 p1 p2 p3 p4 = some r) :
    Go.E.Spec Tryd.prog 15 [.slice a_p0 q_p0 c_p0, .int .i64 p1, .int .i64 p2, .slice a_p3 q_p3 c_p3, .int .i64 p4] m (fun v _ _ => v = .int .i64 r) := by
  refine Spec_enter Tryd.func15 rfl rfl rfl (fun w0 => ?_)
  refine WK.sub (e' := [(0, .slice a_p0 q_p0 c_p0), (1, .int .i64 p1), (2, .int .i64 p2), (3, .slice a_p3 q_p3 c_p3), (4, .int .i64 p4)]) ⟨rfl, rfl, rfl, rfl, rfl, trivial⟩ ?_
  obtain rfl := SlR.qlen h_p0
  obtain rfl := SlR.qlen h_p3
  refine WK.sub (e' := [(0, .slice a_p0 p0.length c_p0), (1, .int .i64 p1), (2, .int .i64 p2), (3, .slice a_p3 p3.length c_p3), (4, .int .i64 p4)]) ⟨rfl, rfl, rfl, rfl, rfl, trivial⟩ ?_
  unfold aggregate_Prove at hm
  refine WK_seq ?_
  refine WK_region ?_
  refine WO_box [.slice a_p0 p0.length c_p0] rfl rfl trivial rfl rfl rfl (fun b1 => ?_)
  refine WO.cls (C' := St w0 m m [[⟨b1, 37, [.slice a_p0 p0.length c_p0]⟩]]) (fun _ h => h) ?_
  refine WO_pure tbok 1 [(1, .int .i64 p1), (2, .int .i64 p2), (3, .slice a_p3 p3.length c_p3), (4, .int .i64 p4), (5, .pointer (some ⟨b1, 0, none⟩)), (10, .int .i64 0)] rfl ⟨rfl, rfl, rfl, rfl, rfl, rfl, trivial⟩ ?_
  refine WO_end ?_
  refine WK_seq ?_
  refine WK_seq ?_
  refine WK_region ?_
  refine WO_loadB tbok 0 rfl rfl rfl rfl (fun _ h => h) rfl rfl ?_
  refine WO_pure tbok 2 [(1, .int .i64 p1), (2, .int .i64 p2), (3, .slice a_p3 p3.length c_p3), (4, .int .i64 p4), (5, .pointer (some ⟨b1, 0, none⟩)), (10, .int .i64 0), (19, .slice a_p0 p0.length c_p0), (20, .int .i64 p1), (21, .int .i64 p2)] rfl ⟨rfl, rfl, rfl, rfl, rfl, rfl, rfl, rfl, rfl, trivial⟩ ?_
  obtain ⟨y_1, hc2, hm⟩ := bind_some hm
  refine WO_call0 (.int .i64 y_1) rfl rfl trivial rfl rfl rfl rfl St_closed ⟨27, #[], #[], rfl, callable_27, fun w hw => ⟨_, hw.sat, aggregate_checked_walk h_p0 hc2⟩⟩ ?_
  refine WO_pure tbok 1 [(1, .int .i64 p1), (2, .int .i64 p2), (3, .slice a_p3 p3.length c_p3), (4, .int .i64 p4), (5, .pointer (some ⟨b1, 0, none⟩)), (10, .int .i64 0), (11, .int .i64 y_1)] rfl ⟨rfl, rfl, rfl, rfl, rfl, rfl, rfl, trivial⟩ ?_
  refine WO_end ?_
  refine WK_seq ?_
  refine WK_region ?_
  refine WO_pure tbok 2 [(1, .int .i64 p1), (2, .int .i64 p2), (3, .slice a_p3 p3.length c_p3), (4, .int .i64 p4), (5, .pointer (some ⟨b1, 0, none⟩)), (10, .int .i64 0), (11, .int .i64 y_1), (24, .bool (y_1 != 0))] rfl ⟨rfl, rfl, rfl, rfl, rfl, rfl, rfl, rfl, trivial⟩ ?_
  refine WO_end ?_
  refine WK_cond (b := y_1 != 0) rfl (fun hb3 => ?_) (fun hb3 => ?_)
  · have hm := ifT hb3 hm
    refine WK_seq ?_
    refine WK_region ?_
    refine WO_pure tbok 2 [(1, .int .i64 p1), (2, .int .i64 p2), (3, .slice a_p3 p3.length c_p3), (4, .int .i64 p4), (5, .pointer (some ⟨b1, 0, none⟩)), (10, .int .i64 y_1)] rfl ⟨rfl, rfl, rfl, rfl, rfl, rfl, trivial⟩ ?_
    refine WO_end ?_
    cases hm
    exact WK_ret (ret_out (L := []) (RLc_tmp rfl RLc_nil) (List.nil_sublist _) rfl)
  · have hm := ifF hb3 hm
    refine WK_skip ?_
    refine WK_seq ?_
    refine WK_seq ?_
    obtain ⟨s_2, hx4, hm⟩ := bind_some hm
    refine WK_meet [(1, .int .i64 p1), (2, .int .i64 p2), (3, .slice a_p3 p3.length c_p3), (4, .int .i64 p4), (5, .pointer (some ⟨b1, 0, none⟩)), (10, .int .i64 0), (35, .bool s_2)] (St w0 m m [[⟨b1, 37, [.slice a_p0 p0.length c_p0]⟩]]) ?_ (fun hk5 => ?_)
    · refine WK_cond (b := s_2) rfl (fun hb6 => ?_) (fun hb6 => ?_)
      · have hm := ifT hb6 hm
        refine WK_seq ?_
        refine WK_region ?_
        refine WO_pure tbok 1 [(1, .int .i64 p1), (2, .int .i64 p2), (3, .slice a_p3 p3.length c_p3), (4, .int .i64 p4), (5, .pointer (some ⟨b1, 0, none⟩)), (10, .int .i64 4)] rfl ⟨rfl, rfl, rfl, rfl, rfl, rfl, trivial⟩ ?_
        refine WO_end ?_
        cases hm
        exact WK_ret (ret_out (L := []) (RLc_tmp rfl RLc_nil) (List.nil_sublist _) rfl)
      · have hm := ifF hb6 hm
        refine WK_skip ?_
        refine WK_seq ?_
        refine WK_seq ?_
        refine WK_region ?_
        refine WO_pure tbok 3 [(1, .int .i64 p1), (2, .int .i64 p2), (3, .slice a_p3 p3.length c_p3), (4, .int .i64 p4), (5, .pointer (some ⟨b1, 0, none⟩)), (10, .int .i64 0), (36, .slice a_p3 p3.length c_p3), (37, .int .i64 (p3.length : Int)), (38, .int .i64 0)] rfl ⟨rfl, rfl, rfl, rfl, rfl, rfl, rfl, rfl, rfl, trivial⟩ ?_
        refine WO_end ?_
        obtain ⟨x7, hx8, hm⟩ := bind_some hm
        refine WK_join (β := Unit × Unit) (fun p => Sum.inr p.1 = x7) (fun p => [(1, .int .i64 p1), (2, .int .i64 p2), (3, .slice a_p3 p3.length c_p3), (4, .int .i64 p4), (5, .pointer (some ⟨b1, 0, none⟩)), (10, .int .i64 0)]) (fun p => St w0 m m [[⟨b1, 37, [.slice a_p0 p0.length c_p0]⟩]]) ?_ (fun hk9 => ?_)
        · rintro ⟨⟨⟩, ⟨⟩⟩ hq15
          subst hq15
          refine WK.sub (e' := [(1, .int .i64 p1), (2, .int .i64 p2), (3, .slice a_p3 p3.length c_p3), (4, .int .i64 p4), (5, .pointer (some ⟨b1, 0, none⟩)), (10, .int .i64 0)]) ⟨rfl, rfl, rfl, rfl, rfl, rfl, trivial⟩ (WK.cls (C' := St w0 m m [[⟨b1, 37, [.slice a_p0 p0.length c_p0]⟩]]) (fun _ h => h) ?_)
          refine WK_seq ?_
          refine WK_seq ?_
          refine WK_region ?_
          refine WO_pure tbok 3 [(1, .int .i64 p1), (2, .int .i64 p2), (3, .slice a_p3 p3.length c_p3), (4, .int .i64 p4), (5, .pointer (some ⟨b1, 0, none⟩)), (10, .int .i64 0), (51, .slice a_p3 p3.length c_p3), (52, .int .i64 (p3.length : Int)), (53, .int .i64 0)] rfl ⟨rfl, rfl, rfl, rfl, rfl, rfl, rfl, rfl, rfl, trivial⟩ ?_
          refine WO_end ?_
          obtain ⟨x16, hx17, hm⟩ := bind_some hm
          refine WK_join (β := Unit × Unit) (fun p => Sum.inr p.1 = x16) (fun p => [(3, .slice a_p3 p3.length c_p3), (4, .int .i64 p4), (10, .int .i64 0)]) (fun p => St w0 m m [[⟨b1, 37, [.slice a_p0 p0.length c_p0]⟩]]) ?_ (fun hk18 => ?_)
          · rintro ⟨⟨⟩, ⟨⟩⟩ hq24
            subst hq24
            refine WK.sub (e' := [(3, .slice a_p3 p3.length c_p3), (4, .int .i64 p4), (10, .int .i64 0)]) ⟨rfl, rfl, rfl, trivial⟩ (WK.cls (C' := St w0 m m [[⟨b1, 37, [.slice a_p0 p0.length c_p0]⟩]]) (fun _ h => h) ?_)
            refine WK_seq ?_
            refine WK_seq ?_
            refine WK_region ?_
            refine WO_pure tbok 4 [(4, .int .i64 p4), (10, .int .i64 0), (94, .slice a_p3 p3.length c_p3), (97, .int .i64 (w64 ((p3.length : Int) - 1)))] rfl ⟨rfl, rfl, rfl, rfl, trivial⟩ ?_
            obtain ⟨v_5, hy25, hm⟩ := bind_some hm
            obtain ⟨hc26, hy25⟩ := ix_some hy25
            refine WO_index tbok rfl rfl rfl rfl rfl rfl rfl rfl (SlR.addr h_p3) hc26 ?_
            refine WO_loadR tbok rfl rfl rfl rfl (fun _ h => St.sat h) h_p3 hy25 rfl rfl (fun a27 c28 h29 => ?_)
            obtain ⟨y_6, hc30, hm⟩ := bind_some hm
            refine WO_call0 (.int .i64 y_6) rfl rfl trivial rfl rfl rfl rfl St_closed ⟨26, #[], #[], rfl, callable_26, fun w hw => ⟨_, hw.sat, slices_Min_sint_walk h29 hc30⟩⟩ ?_
            refine WO_pure tbok 2 [(10, .int .i64 0), (102, .bool (decide (y_6 < p4)))] rfl ⟨rfl, rfl, trivial⟩ ?_
            refine WO_end ?_
            refine WK_cond (b := decide (y_6 < p4)) rfl (fun hb31 => ?_) (fun hb31 => ?_)
            · have hm := ifT hb31 hm
              refine WK_seq ?_
              refine WK_region ?_
              refine WO_pure tbok 1 [(10, .int .i64 12)] rfl ⟨rfl, trivial⟩ ?_
              refine WO_end ?_
              cases hm
              exact WK_ret (ret_out (L := []) (RLc_tmp rfl RLc_nil) (List.nil_sublist _) rfl)
            · have hm := ifF hb31 hm
              refine WK_skip ?_
              refine WK_seq ?_
              refine WK_region ?_
              refine WO_pure tbok 1 [(10, .int .i64 0)] rfl ⟨rfl, trivial⟩ ?_
              refine WO_end ?_
              cases hm
              exact WK_ret (ret_out (L := []) (RLc_tmp rfl RLc_nil) (List.nil_sublist _) rfl)
          · refine WK_block ?_
            refine WK_loop (S := Int) (G := Unit) (fun s => aggregate_Prove_s2 p0 p1 p2 p3 s) (fun s g => [(1, .int .i64 p1), (2, .int .i64 p2), (3, .slice a_p3 p3.length c_p3), (4, .int .i64 p4), (5, .pointer (some ⟨b1, 0, none⟩)), (10, .int .i64 0), (51, .slice a_p3 p3.length c_p3), (52, .int .i64 (p3.length : Int)), (53, .int .i64 s)]) (fun s g => St w0 m m [[⟨b1, 37, [.slice a_p0 p0.length c_p0]⟩]]) (fun s g => True) FUEL 0 () x16 hx17 trivial ⟨rfl, rfl, rfl, rfl, rfl, rfl, rfl, rfl, rfl, trivial⟩ (fun _ h => h) ?_
            rintro s_4 ⟨⟩ o20 fl21 hm19 - hn22 hd23
            have hm19 : aggregate_Prove_s2 p0 p1 p2 p3 s_4 = some o20 := hm19
            unfold aggregate_Prove_s2 at hm19
            refine WK.sub (e' := [(1, .int .i64 p1), (2, .int .i64 p2), (3, .slice a_p3 p3.length c_p3), (4, .int .i64 p4), (5, .pointer (some ⟨b1, 0, none⟩)), (10, .int .i64 0), (51, .slice a_p3 p3.length c_p3), (52, .int .i64 (p3.length : Int)), (53, .int .i64 s_4)]) ⟨rfl, rfl, rfl, rfl, rfl, rfl, rfl, rfl, rfl, trivial⟩ (WK.cls (C' := St w0 m m [[⟨b1, 37, [.slice a_p0 p0.length c_p0]⟩]]) (fun _ h => h) ?_)
            refine WK_seq ?_
            refine WK_region ?_
            refine WO_pure tbok 1 [(1, .int .i64 p1), (2, .int .i64 p2), (3, .slice a_p3 p3.length c_p3), (4, .int .i64 p4), (5, .pointer (some ⟨b1, 0, none⟩)), (10, .int .i64 0), (51, .slice a_p3 p3.length c_p3), (52, .int .i64 (p3.length : Int)), (53, .int .i64 s_4), (54, .bool (decide (s_4 < (p3.length : Int))))] rfl ⟨rfl, rfl, rfl, rfl, rfl, rfl, rfl, rfl, rfl, rfl, trivial⟩ ?_
            refine WO_end ?_
            refine WK_seq ?_
            refine WK_cond (b := decide (s_4 < (p3.length : Int))) rfl (fun hb32 => ?_) (fun hb32 => ?_)
            · have hm19 := ifT hb32 hm19
              refine WK_skip ?_
              refine WK_seq ?_
              refine WK_block ?_
              refine WK_seq ?_
              refine WK_region ?_
              refine WO_pure tbok 1 [(1, .int .i64 p1), (2, .int .i64 p2), (3, .slice a_p3 p3.length c_p3), (4, .int .i64 p4), (5, .pointer (some ⟨b1, 0, none⟩)), (10, .int .i64 0), (51, .slice a_p3 p3.length c_p3), (52, .int .i64 (p3.length : Int)), (53, .int .i64 s_4), (55, .int .i64 s_4)] rfl ⟨rfl, rfl, rfl, rfl, rfl, rfl, rfl, rfl, rfl, rfl, trivial⟩ ?_
              obtain ⟨v_7, hy33, hm19⟩ := bind_some hm19
              obtain ⟨hc34, hy33⟩ := ix_some hy33
              refine WO_index tbok rfl rfl rfl rfl rfl rfl rfl rfl (SlR.addr h_p3) hc34 ?_
              refine WO_loadR tbok rfl rfl rfl rfl (fun _ h => St.sat h) h_p3 hy33 rfl rfl (fun a35 c36 h37 => ?_)
              refine WO_pure tbok 2 [(1, .int .i64 p1), (2, .int .i64 p2), (3, .slice a_p3 p3.length c_p3), (4, .int .i64 p4), (5, .pointer (some ⟨b1, 0, none⟩)), (10, .int .i64 0), (14, .int .i64 s_4), (15, .slice a35 ((v_7).length) c36), (51, .slice a_p3 p3.length c_p3), (52, .int .i64 (p3.length : Int)), (53, .int .i64 s_4)] rfl ⟨rfl, rfl, rfl, rfl, rfl, rfl, rfl, rfl, rfl, rfl, rfl, trivial⟩ ?_
              refine WO_end ?_
              refine WK_seq ?_
              refine WK_region ?_
              refine WO_pure tbok 2 [(1, .int .i64 p1), (2, .int .i64 p2), (3, .slice a_p3 p3.length c_p3), (4, .int .i64 p4), (5, .pointer (some ⟨b1, 0, none⟩)), (10, .int .i64 0), (14, .int .i64 s_4), (15, .slice a35 ((v_7).length) c36), (51, .slice a_p3 p3.length c_p3), (52, .int .i64 (p3.length : Int)), (53, .int .i64 s_4), (59, .int .i64 ((v_7).length : Int))] rfl ⟨rfl, rfl, rfl, rfl, rfl, rfl, rfl, rfl, rfl, rfl, rfl, rfl, trivial⟩ ?_
              obtain ⟨hc38, hm19⟩ := chk_some hm19
              refine WO_make (E := (I1 .i64)) tbok (fun _ => rfl) (by decide) (0 : Int) rfl rfl trivial rfl rfl rfl rfl rfl rfl rfl rfl rfl (mk_ok (by decide) hc38) (fun b39 c40 L41 hL41 => ?_)
              refine WO.cls (C' := St w0 m m [[⟨b1, 37, [.slice a_p0 p0.length c_p0]⟩], L41]) (fun _ h => h) ?_
              refine WO_pure tbok 1 [(1, .int .i64 p1), (2, .int .i64 p2), (3, .slice a_p3 p3.length c_p3), (4, .int .i64 p4), (5, .pointer (some ⟨b1, 0, none⟩)), (10, .int .i64 0), (14, .int .i64 s_4), (15, .slice a35 ((v_7).length) c36), (16, .slice (some ⟨b39, 0, none⟩) ((List.replicate ((v_7).length : Int).toNat (0 : Int)).length) c40), (51, .slice a_p3 p3.length c_p3), (52, .int .i64 (p3.length : Int)), (53, .int .i64 s_4)] rfl ⟨rfl, rfl, rfl, rfl, rfl, rfl, rfl, rfl, rfl, rfl, rfl, rfl, trivial⟩ ?_
              refine WO_end ?_
              refine WK_seq ?_
              refine WK_seq ?_
              refine WK_region ?_
              refine WO_pure tbok 2 [(1, .int .i64 p1), (2, .int .i64 p2), (3, .slice a_p3 p3.length c_p3), (4, .int .i64 p4), (5, .pointer (some ⟨b1, 0, none⟩)), (10, .int .i64 0), (14, .int .i64 s_4), (15, .slice a35 ((v_7).length) c36), (16, .slice (some ⟨b39, 0, none⟩) ((List.replicate ((v_7).length : Int).toNat (0 : Int)).length) c40), (51, .slice a_p3 p3.length c_p3), (52, .int .i64 (p3.length : Int)), (53, .int .i64 s_4), (62, .bool (decide (0 < s_4)))] rfl ⟨rfl, rfl, rfl, rfl, rfl, rfl, rfl, rfl, rfl, rfl, rfl, rfl, rfl, trivial⟩ ?_
              refine WO_end ?_
              obtain ⟨l_8, hx46, hm19⟩ := bind_some hm19
              refine WK_join (β := Option Addr × Nat × Nat × List Ent) (fun p => OwnE 3 1 (I1 .i64) (.slice p.1 p.2.1 p.2.2.1) l_8 p.2.2.2) (fun p => [(1, .int .i64 p1), (2, .int .i64 p2), (3, .slice a_p3 p3.length c_p3), (4, .int .i64 p4), (5, .pointer (some ⟨b1, 0, none⟩)), (10, .int .i64 0), (14, .int .i64 s_4), (15, .slice a35 ((v_7).length) c36), (16, .slice p.1 p.2.1 p.2.2.1), (51, .slice a_p3 p3.length c_p3), (52, .int .i64 (p3.length : Int)), (53, .int .i64 s_4)]) (fun p => St w0 m m [[⟨b1, 37, [.slice a_p0 p0.length c_p0]⟩], p.2.2.2]) ?_ (fun hk47 => ?_)
              · rintro ⟨a43, q44, c45, L42⟩ hL42
                have hqq : q44 = l_8.length := OwnE.qlen hL42
                subst hqq
                refine WK.sub (e' := [(1, .int .i64 p1), (2, .int .i64 p2), (3, .slice a_p3 p3.length c_p3), (4, .int .i64 p4), (5, .pointer (some ⟨b1, 0, none⟩)), (10, .int .i64 0), (14, .int .i64 s_4), (15, .slice a35 ((v_7).length) c36), (16, .slice a43 ((l_8).length) c45), (51, .slice a_p3 p3.length c_p3), (52, .int .i64 (p3.length : Int)), (53, .int .i64 s_4)]) ⟨rfl, rfl, rfl, rfl, rfl, rfl, rfl, rfl, rfl, rfl, rfl, rfl, trivial⟩ (WK.cls (C' := St w0 m m [[⟨b1, 37, [.slice a_p0 p0.length c_p0]⟩], L42]) (fun _ h => h) ?_)
                refine WK_seq ?_
                refine WK_region ?_
                refine WO_pure tbok 3 [(1, .int .i64 p1), (2, .int .i64 p2), (3, .slice a_p3 p3.length c_p3), (4, .int .i64 p4), (5, .pointer (some ⟨b1, 0, none⟩)), (10, .int .i64 0), (14, .int .i64 s_4), (16, .slice a43 ((l_8).length) c45), (51, .slice a_p3 p3.length c_p3), (52, .int .i64 (p3.length : Int)), (53, .int .i64 s_4), (71, .slice a35 ((v_7).length) c36), (72, .int .i64 ((v_7).length : Int)), (73, .int .i64 0)] rfl ⟨rfl, rfl, rfl, rfl, rfl, rfl, rfl, rfl, rfl, rfl, rfl, rfl, rfl, rfl, trivial⟩ ?_
                refine WO_end ?_
                obtain ⟨x48, hx49, hm19⟩ := bind_some hm19
                refine WK_join (β := Unit × Unit) (fun p => Sum.inr p.1 = x48) (fun p => [(1, .int .i64 p1), (2, .int .i64 p2), (3, .slice a_p3 p3.length c_p3), (4, .int .i64 p4), (5, .pointer (some ⟨b1, 0, none⟩)), (10, .int .i64 0), (51, .slice a_p3 p3.length c_p3), (52, .int .i64 (p3.length : Int)), (53, .int .i64 s_4)]) (fun p => St w0 m m [[⟨b1, 37, [.slice a_p0 p0.length c_p0]⟩], L42]) ?_ (fun hk50 => ?_)
                · rintro ⟨⟨⟩, ⟨⟩⟩ hq56
                  subst hq56
                  refine WK.sub (e' := [(1, .int .i64 p1), (2, .int .i64 p2), (3, .slice a_p3 p3.length c_p3), (4, .int .i64 p4), (5, .pointer (some ⟨b1, 0, none⟩)), (10, .int .i64 0), (51, .slice a_p3 p3.length c_p3), (52, .int .i64 (p3.length : Int)), (53, .int .i64 s_4)]) ⟨rfl, rfl, rfl, rfl, rfl, rfl, rfl, rfl, rfl, trivial⟩ (WK.cls (C' := St w0 m m [[⟨b1, 37, [.slice a_p0 p0.length c_p0]⟩], L42]) (fun _ h => h) ?_)
                  refine WK_blk ?_
                  refine WK_region ?_
                  refine WO_pure tbok 2 [(1, .int .i64 p1), (2, .int .i64 p2), (3, .slice a_p3 p3.length c_p3), (4, .int .i64 p4), (5, .pointer (some ⟨b1, 0, none⟩)), (10, .int .i64 0), (51, .slice a_p3 p3.length c_p3), (52, .int .i64 (p3.length : Int)), (53, .int .i64 (w64 (s_4 + 1)))] rfl ⟨rfl, rfl, rfl, rfl, rfl, rfl, rfl, rfl, rfl, trivial⟩ ?_
                  refine WO_end ?_
                  cases hm19
                  refine WK.sub ?_ (WK.cls (fun _ h => St.take 1 h) (hn22 _ () rfl trivial))
                  exact ⟨rfl, rfl, rfl, rfl, rfl, rfl, rfl, rfl, rfl, trivial⟩
                · refine WK_block ?_
                  refine WK_loop (S := Int) (G := Unit) (fun s => aggregate_Prove_s3 p0 s_4 v_7 l_8 s) (fun s g => [(1, .int .i64 p1), (2, .int .i64 p2), (3, .slice a_p3 p3.length c_p3), (4, .int .i64 p4), (5, .pointer (some ⟨b1, 0, none⟩)), (10, .int .i64 0), (14, .int .i64 s_4), (16, .slice a43 ((l_8).length) c45), (51, .slice a_p3 p3.length c_p3), (52, .int .i64 (p3.length : Int)), (53, .int .i64 s_4), (71, .slice a35 ((v_7).length) c36), (72, .int .i64 ((v_7).length : Int)), (73, .int .i64 s)]) (fun s g => St w0 m m [[⟨b1, 37, [.slice a_p0 p0.length c_p0]⟩], L42]) (fun s g => True) FUEL 0 () x48 hx49 trivial ⟨rfl, rfl, rfl, rfl, rfl, rfl, rfl, rfl, rfl, rfl, rfl, rfl, rfl, rfl, trivial⟩ (fun _ h => h) ?_
                  rintro s_9 ⟨⟩ o52 fl53 hm51 - hn54 hd55
                  have hm51 : aggregate_Prove_s3 p0 s_4 v_7 l_8 s_9 = some o52 := hm51
                  unfold aggregate_Prove_s3 at hm51
                  refine WK.sub (e' := [(1, .int .i64 p1), (2, .int .i64 p2), (3, .slice a_p3 p3.length c_p3), (4, .int .i64 p4), (5, .pointer (some ⟨b1, 0, none⟩)), (10, .int .i64 0), (14, .int .i64 s_4), (16, .slice a43 ((l_8).length) c45), (51, .slice a_p3 p3.length c_p3), (52, .int .i64 (p3.length : Int)), (53, .int .i64 s_4), (71, .slice a35 ((v_7).length) c36), (72, .int .i64 ((v_7).length : Int)), (73, .int .i64 s_9)]) ⟨rfl, rfl, rfl, rfl, rfl, rfl, rfl, rfl, rfl, rfl, rfl, rfl, rfl, rfl, trivial⟩ (WK.cls (C' := St w0 m m [[⟨b1, 37, [.slice a_p0 p0.length c_p0]⟩], L42]) (fun _ h => h) ?_)
                  refine WK_seq ?_
                  refine WK_region ?_
                  refine WO_pure tbok 1 [(1, .int .i64 p1), (2, .int .i64 p2), (3, .slice a_p3 p3.length c_p3), (4, .int .i64 p4), (5, .pointer (some ⟨b1, 0, none⟩)), (10, .int .i64 0), (14, .int .i64 s_4), (16, .slice a43 ((l_8).length) c45), (51, .slice a_p3 p3.length c_p3), (52, .int .i64 (p3.length : Int)), (53, .int .i64 s_4), (71, .slice a35 ((v_7).length) c36), (72, .int .i64 ((v_7).length : Int)), (73, .int .i64 s_9), (74, .bool (decide (s_9 < ((v_7).length : Int))))] rfl ⟨rfl, rfl, rfl, rfl, rfl, rfl, rfl, rfl, rfl, rfl, rfl, rfl, rfl, rfl, rfl, trivial⟩ ?_
                  refine WO_end ?_
                  refine WK_seq ?_
                  refine WK_cond (b := decide (s_9 < ((v_7).length : Int))) rfl (fun hb57 => ?_) (fun hb57 => ?_)
                  · have hm51 := ifT hb57 hm51
                    refine WK_skip ?_
                    refine WK_seq ?_
                    refine WK_block ?_
                    refine WK_seq ?_
                    refine WK_region ?_
                    refine WO_pure tbok 1 [(1, .int .i64 p1), (2, .int .i64 p2), (3, .slice a_p3 p3.length c_p3), (4, .int .i64 p4), (5, .pointer (some ⟨b1, 0, none⟩)), (10, .int .i64 0), (14, .int .i64 s_4), (16, .slice a43 ((l_8).length) c45), (51, .slice a_p3 p3.length c_p3), (52, .int .i64 (p3.length : Int)), (53, .int .i64 s_4), (71, .slice a35 ((v_7).length) c36), (72, .int .i64 ((v_7).length : Int)), (73, .int .i64 s_9), (75, .int .i64 s_9)] rfl ⟨rfl, rfl, rfl, rfl, rfl, rfl, rfl, rfl, rfl, rfl, rfl, rfl, rfl, rfl, rfl, trivial⟩ ?_
                    obtain ⟨v_10, hy58, hm51⟩ := bind_some hm51
                    obtain ⟨hc59, hy58⟩ := ix_some hy58
                    refine WO_index tbok rfl rfl rfl rfl rfl rfl rfl rfl (SlR.addr h37) hc59 ?_
                    refine WO_loadE tbok rfl rfl rfl rfl (fun _ h => St.sat h) h37 hy58 rfl ?_
                    refine WO_pure tbok 2 [(1, .int .i64 p1), (2, .int .i64 p2), (3, .slice a_p3 p3.length c_p3), (4, .int .i64 p4), (5, .pointer (some ⟨b1, 0, none⟩)), (10, .int .i64 0), (14, .int .i64 s_4), (16, .slice a43 ((l_8).length) c45), (17, .int .i64 s_9), (18, .int .i64 v_10), (51, .slice a_p3 p3.length c_p3), (52, .int .i64 (p3.length : Int)), (53, .int .i64 s_4), (71, .slice a35 ((v_7).length) c36), (72, .int .i64 ((v_7).length : Int)), (73, .int .i64 s_9)] rfl ⟨rfl, rfl, rfl, rfl, rfl, rfl, rfl, rfl, rfl, rfl, rfl, rfl, rfl, rfl, rfl, rfl, trivial⟩ ?_
                    refine WO_end ?_
                    refine WK_seq ?_
                    refine WK_draw 14 [0, 1, 2, 3, 4, 5, 6, 7, 8, 9, 10, 11, 12, 13] follows_ok (by kernel_rfl) St_closed ?_
                    refine WO_pure tbok 3 [(1, .int .i64 p1), (2, .int .i64 p2), (3, .slice a_p3 p3.length c_p3), (4, .int .i64 p4), (5, .pointer (some ⟨b1, 0, none⟩)), (10, .int .i64 0), (14, .int .i64 s_4), (16, .slice a43 ((l_8).length) c45), (17, .int .i64 s_9), (51, .slice a_p3 p3.length c_p3), (52, .int .i64 (p3.length : Int)), (53, .int .i64 s_4), (71, .slice a35 ((v_7).length) c36), (72, .int .i64 ((v_7).length : Int)), (73, .int .i64 s_9), (78, .int .i64 v_10), (79, .slice a43 ((l_8).length) c45), (80, .int .i64 s_9)] rfl ⟨rfl, rfl, rfl, rfl, rfl, rfl, rfl, rfl, rfl, rfl, rfl, rfl, rfl, rfl, rfl, rfl, rfl, rfl, trivial⟩ ?_
                    obtain ⟨v_11, hy60, hm51⟩ := bind_some hm51
                    obtain ⟨hc61, hy60⟩ := ix_some hy60
                    refine WO_index tbok rfl rfl rfl rfl rfl rfl rfl rfl (OwnE.addr hL42) (by simpa using hc61) ?_
                    refine WO_loadO (E := (I1 .i64)) tbok (fun _ => rfl) 1 rfl rfl rfl rfl (fun _ h => h) hL42 rfl hy60 rfl ?_
                    refine WO_loadB tbok 0 rfl rfl rfl rfl (fun _ h => h) rfl rfl ?_
                    refine WO_pure tbok 1 [(1, .int .i64 p1), (2, .int .i64 p2), (3, .slice a_p3 p3.length c_p3), (4, .int .i64 p4), (5, .pointer (some ⟨b1, 0, none⟩)), (10, .int .i64 0), (14, .int .i64 s_4), (16, .slice a43 ((l_8).length) c45), (17, .int .i64 s_9), (51, .slice a_p3 p3.length c_p3), (52, .int .i64 (p3.length : Int)), (53, .int .i64 s_4), (71, .slice a35 ((v_7).length) c36), (72, .int .i64 ((v_7).length : Int)), (73, .int .i64 s_9), (78, .int .i64 v_10), (82, .int .i64 v_11), (83, .slice a_p0 p0.length c_p0), (84, .int .i64 s_4)] rfl ⟨rfl, rfl, rfl, rfl, rfl, rfl, rfl, rfl, rfl, rfl, rfl, rfl, rfl, rfl, rfl, rfl, rfl, rfl, rfl, trivial⟩ ?_
                    obtain ⟨v_12, hy62, hm51⟩ := bind_some hm51
                    obtain ⟨hc63, hy62⟩ := ix_some hy62
                    refine WO_index tbok rfl rfl rfl rfl rfl rfl rfl rfl (SlR.addr h_p0) hc63 ?_
                    refine WO_loadR tbok rfl rfl rfl rfl (fun _ h => St.sat h) h_p0 hy62 rfl rfl (fun a64 c65 h66 => ?_)
                    refine WO_pure tbok 1 [(1, .int .i64 p1), (2, .int .i64 p2), (3, .slice a_p3 p3.length c_p3), (4, .int .i64 p4), (5, .pointer (some ⟨b1, 0, none⟩)), (10, .int .i64 0), (14, .int .i64 s_4), (16, .slice a43 ((l_8).length) c45), (51, .slice a_p3 p3.length c_p3), (52, .int .i64 (p3.length : Int)), (53, .int .i64 s_4), (71, .slice a35 ((v_7).length) c36), (72, .int .i64 ((v_7).length : Int)), (73, .int .i64 s_9), (78, .int .i64 v_10), (82, .int .i64 v_11), (86, .slice a64 ((v_12).length) c65), (87, .int .i64 s_9)] rfl ⟨rfl, rfl, rfl, rfl, rfl, rfl, rfl, rfl, rfl, rfl, rfl, rfl, rfl, rfl, rfl, rfl, rfl, rfl, trivial⟩ ?_
                    obtain ⟨v_13, hy67, hm51⟩ := bind_some hm51
                    obtain ⟨hc68, hy67⟩ := ix_some hy67
                    refine WO_index tbok rfl rfl rfl rfl rfl rfl rfl rfl (SlR.addr h66) hc68 ?_
                    refine WO_loadE tbok rfl rfl rfl rfl (fun _ h => St.sat h) h66 hy67 rfl ?_
                    refine WO_pure tbok 2 [(1, .int .i64 p1), (2, .int .i64 p2), (3, .slice a_p3 p3.length c_p3), (4, .int .i64 p4), (5, .pointer (some ⟨b1, 0, none⟩)), (10, .int .i64 0), (14, .int .i64 s_4), (16, .slice a43 ((l_8).length) c45), (51, .slice a_p3 p3.length c_p3), (52, .int .i64 (p3.length : Int)), (53, .int .i64 s_4), (71, .slice a35 ((v_7).length) c36), (72, .int .i64 ((v_7).length : Int)), (73, .int .i64 s_9), (91, .bool (decide ((w64 (v_11 + v_13)) < v_10)))] rfl ⟨rfl, rfl, rfl, rfl, rfl, rfl, rfl, rfl, rfl, rfl, rfl, rfl, rfl, rfl, rfl, trivial⟩ ?_
                    refine WO_tail ?_
                    refine WO_end ?_
                    refine WK_cond (b := decide ((w64 (v_11 + v_13)) < v_10)) rfl (fun hb69 => ?_) (fun hb69 => ?_)
                    · have hm51 := ifT hb69 hm51
                      refine WK_seq ?_
                      refine WK_region ?_
                      refine WO_pure tbok 1 [(1, .int .i64 p1), (2, .int .i64 p2), (3, .slice a_p3 p3.length c_p3), (4, .int .i64 p4), (5, .pointer (some ⟨b1, 0, none⟩)), (10, .int .i64 12), (14, .int .i64 s_4), (16, .slice a43 ((l_8).length) c45), (51, .slice a_p3 p3.length c_p3), (52, .int .i64 (p3.length : Int)), (53, .int .i64 s_4), (71, .slice a35 ((v_7).length) c36), (72, .int .i64 ((v_7).length : Int)), (73, .int .i64 s_9)] rfl ⟨rfl, rfl, rfl, rfl, rfl, rfl, rfl, rfl, rfl, rfl, rfl, rfl, rfl, rfl, trivial⟩ ?_
                      refine WO_end ?_
                      cases hm51
                      have hq := hd55 _ rfl
                      subst hq
                      have hm19 : some _ = some _ := hm19
                      cases hm19
                      have hq := hd23 _ rfl
                      subst hq
                      have hm : some _ = some _ := hm
                      cases hm
                      exact WK_ret (ret_out (L := []) (RLc_tmp rfl RLc_nil) (List.nil_sublist _) rfl)
                    · have hm51 := ifF hb69 hm51
                      refine WK_skip ?_
                      refine WK_blk ?_
                      refine WK_region ?_
                      refine WO_pure tbok 2 [(1, .int .i64 p1), (2, .int .i64 p2), (3, .slice a_p3 p3.length c_p3), (4, .int .i64 p4), (5, .pointer (some ⟨b1, 0, none⟩)), (10, .int .i64 0), (14, .int .i64 s_4), (16, .slice a43 ((l_8).length) c45), (51, .slice a_p3 p3.length c_p3), (52, .int .i64 (p3.length : Int)), (53, .int .i64 s_4), (71, .slice a35 ((v_7).length) c36), (72, .int .i64 ((v_7).length : Int)), (73, .int .i64 (w64 (s_9 + 1)))] rfl ⟨rfl, rfl, rfl, rfl, rfl, rfl, rfl, rfl, rfl, rfl, rfl, rfl, rfl, rfl, trivial⟩ ?_
                      refine WO_end ?_
                      cases hm51
                      refine WK.sub ?_ (WK.cls (fun _ h => h) (hn54 _ () rfl trivial))
                      exact ⟨rfl, rfl, rfl, rfl, rfl, rfl, rfl, rfl, rfl, rfl, rfl, rfl, rfl, rfl, trivial⟩
                  · have hm51 := ifF hb57 hm51
                    refine WK_exit rfl ?_
                    cases hm51
                    refine WK.sub ?_ (WK.cls (fun _ h => h) (hk50 ((), ()) (hd55 _ rfl)))
                    exact ⟨rfl, rfl, rfl, rfl, rfl, rfl, rfl, rfl, rfl, trivial⟩
              · refine WK_cond (b := decide (0 < s_4)) rfl (fun hb70 => ?_) (fun hb70 => ?_)
                · have hx46 := ifT hb70 hx46
                  refine WK_region ?_
                  refine WO_pure tbok 3 [(1, .int .i64 p1), (2, .int .i64 p2), (3, .slice a_p3 p3.length c_p3), (4, .int .i64 p4), (5, .pointer (some ⟨b1, 0, none⟩)), (10, .int .i64 0), (14, .int .i64 s_4), (15, .slice a35 ((v_7).length) c36), (16, .slice (some ⟨b39, 0, none⟩) ((List.replicate ((v_7).length : Int).toNat (0 : Int)).length) c40), (51, .slice a_p3 p3.length c_p3), (52, .int .i64 (p3.length : Int)), (53, .int .i64 s_4), (63, .slice a_p3 p3.length c_p3), (65, .int .i64 (w64 (s_4 - 1)))] rfl ⟨rfl, rfl, rfl, rfl, rfl, rfl, rfl, rfl, rfl, rfl, rfl, rfl, rfl, rfl, trivial⟩ ?_
                  obtain ⟨v_14, hy71, hx46⟩ := bind_some hx46
                  obtain ⟨hc72, hy71⟩ := ix_some hy71
                  refine WO_index tbok rfl rfl rfl rfl rfl rfl rfl rfl (SlR.addr h_p3) hc72 ?_
                  refine WO_loadR tbok rfl rfl rfl rfl (fun _ h => St.sat h) h_p3 hy71 rfl rfl (fun a73 c74 h75 => ?_)
                  refine WO_pure tbok 2 [(1, .int .i64 p1), (2, .int .i64 p2), (3, .slice a_p3 p3.length c_p3), (4, .int .i64 p4), (5, .pointer (some ⟨b1, 0, none⟩)), (10, .int .i64 0), (14, .int .i64 s_4), (15, .slice a35 ((v_7).length) c36), (16, .slice (some ⟨b39, 0, none⟩) ((List.replicate ((v_7).length : Int).toNat (0 : Int)).length) c40), (51, .slice a_p3 p3.length c_p3), (52, .int .i64 (p3.length : Int)), (53, .int .i64 s_4), (67, .slice a73 ((v_14).length) c74), (68, .int .i64 p1), (69, .int .i64 p2)] rfl ⟨rfl, rfl, rfl, rfl, rfl, rfl, rfl, rfl, rfl, rfl, rfl, rfl, rfl, rfl, rfl, trivial⟩ ?_
                  obtain ⟨y_15, hc76, hx46⟩ := bind_some hx46
                  refine WO_call1 (aggregate_reached_Q y_15) rfl rfl trivial rfl rfl rfl rfl ⟨35, #[], #[], rfl, callable_35, fun w hw => ⟨_, hw.sat, aggregate_reached_walk h75 hc76⟩⟩ (fun v80 L79 hq => ?_)
                  obtain ⟨a77, qa77, c78, rfl, hL79⟩ := hq
                  obtain rfl := OwnE.qlen hL79
                  refine WO.cls (C' := St w0 m m [[⟨b1, 37, [.slice a_p0 p0.length c_p0]⟩], L41, L79]) (fun _ h => h) ?_
                  refine WO_pure tbok 1 [(1, .int .i64 p1), (2, .int .i64 p2), (3, .slice a_p3 p3.length c_p3), (4, .int .i64 p4), (5, .pointer (some ⟨b1, 0, none⟩)), (10, .int .i64 0), (14, .int .i64 s_4), (15, .slice a35 ((v_7).length) c36), (16, .slice a77 ((y_15).length) c78), (51, .slice a_p3 p3.length c_p3), (52, .int .i64 (p3.length : Int)), (53, .int .i64 s_4)] rfl ⟨rfl, rfl, rfl, rfl, rfl, rfl, rfl, rfl, rfl, rfl, rfl, rfl, trivial⟩ ?_
                  refine WO_end ?_
                  refine WK_move 1 2 rfl rfl rfl ?_
                  refine WK.cls (C' := St w0 m m [[⟨b1, 37, [.slice a_p0 p0.length c_p0]⟩], L79, []]) (fun _ h => h) ?_
                  cases hx46
                  refine WK.sub ?_ (WK.cls (fun _ h => St.take 2 h) (hk47 ⟨a77, _, c78, L79⟩ hL79))
                  exact ⟨rfl, rfl, rfl, rfl, rfl, rfl, rfl, rfl, rfl, rfl, rfl, rfl, trivial⟩
                · have hx46 := ifF hb70 hx46
                  refine WK_skip ?_
                  cases hx46
                  refine WK.sub ?_ (WK.cls (fun _ h => h) (hk47 ⟨some ⟨b39, 0, none⟩, (List.replicate ((v_7).length : Int).toNat (0 : Int)).length, c40, L41⟩ hL41))
                  exact ⟨rfl, rfl, rfl, rfl, rfl, rfl, rfl, rfl, rfl, rfl, rfl, rfl, trivial⟩
            · have hm19 := ifF hb32 hm19
              refine WK_exit rfl ?_
              cases hm19
              refine WK.sub ?_ (WK.cls (fun _ h => h) (hk18 ((), ()) (hd23 _ rfl)))
              exact ⟨rfl, rfl, rfl, trivial⟩
        · refine WK_block ?_
          refine WK_loop (S := Int) (G := Unit) (fun s => aggregate_Prove_s1 p3 s) (fun s g => [(1, .int .i64 p1), (2, .int .i64 p2), (3, .slice a_p3 p3.length c_p3), (4, .int .i64 p4), (5, .pointer (some ⟨b1, 0, none⟩)), (10, .int .i64 0), (36, .slice a_p3 p3.length c_p3), (37, .int .i64 (p3.length : Int)), (38, .int .i64 s)]) (fun s g => St w0 m m [[⟨b1, 37, [.slice a_p0 p0.length c_p0]⟩]]) (fun s g => True) FUEL 0 () x7 hx8 trivial ⟨rfl, rfl, rfl, rfl, rfl, rfl, rfl, rfl, rfl, trivial⟩ (fun _ h => h) ?_
          rintro s_3 ⟨⟩ o11 fl12 hm10 - hn13 hd14
          have hm10 : aggregate_Prove_s1 p3 s_3 = some o11 := hm10
          unfold aggregate_Prove_s1 at hm10
          refine WK.sub (e' := [(1, .int .i64 p1), (2, .int .i64 p2), (3, .slice a_p3 p3.length c_p3), (4, .int .i64 p4), (5, .pointer (some ⟨b1, 0, none⟩)), (10, .int .i64 0), (36, .slice a_p3 p3.length c_p3), (37, .int .i64 (p3.length : Int)), (38, .int .i64 s_3)]) ⟨rfl, rfl, rfl, rfl, rfl, rfl, rfl, rfl, rfl, trivial⟩ (WK.cls (C' := St w0 m m [[⟨b1, 37, [.slice a_p0 p0.length c_p0]⟩]]) (fun _ h => h) ?_)
          refine WK_seq ?_
          refine WK_region ?_
          refine WO_pure tbok 1 [(1, .int .i64 p1), (2, .int .i64 p2), (3, .slice a_p3 p3.length c_p3), (4, .int .i64 p4), (5, .pointer (some ⟨b1, 0, none⟩)), (10, .int .i64 0), (36, .slice a_p3 p3.length c_p3), (37, .int .i64 (p3.length : Int)), (38, .int .i64 s_3), (39, .bool (decide (s_3 < (p3.length : Int))))] rfl ⟨rfl, rfl, rfl, rfl, rfl, rfl, rfl, rfl, rfl, rfl, trivial⟩ ?_
          refine WO_end ?_
          refine WK_seq ?_
          refine WK_cond (b := decide (s_3 < (p3.length : Int))) rfl (fun hb81 => ?_) (fun hb81 => ?_)
          · have hm10 := ifT hb81 hm10
            refine WK_skip ?_
            refine WK_seq ?_
            refine WK_block ?_
            refine WK_seq ?_
            refine WK_region ?_
            obtain ⟨v_16, hy82, hm10⟩ := bind_some hm10
            obtain ⟨hc83, hy82⟩ := ix_some hy82
            refine WO_index tbok rfl rfl rfl rfl rfl rfl rfl rfl (SlR.addr h_p3) hc83 ?_
            refine WO_loadR tbok rfl rfl rfl rfl (fun _ h => St.sat h) h_p3 hy82 rfl rfl (fun a84 c85 h86 => ?_)
            refine WO_pure tbok 1 [(1, .int .i64 p1), (2, .int .i64 p2), (3, .slice a_p3 p3.length c_p3), (4, .int .i64 p4), (5, .pointer (some ⟨b1, 0, none⟩)), (10, .int .i64 0), (13, .slice a84 ((v_16).length) c85), (36, .slice a_p3 p3.length c_p3), (37, .int .i64 (p3.length : Int)), (38, .int .i64 s_3)] rfl ⟨rfl, rfl, rfl, rfl, rfl, rfl, rfl, rfl, rfl, rfl, trivial⟩ ?_
            refine WO_end ?_
            refine WK_seq ?_
            obtain ⟨s_17, hx87, hm10⟩ := bind_some hm10
            refine WK_meet [(1, .int .i64 p1), (2, .int .i64 p2), (3, .slice a_p3 p3.length c_p3), (4, .int .i64 p4), (5, .pointer (some ⟨b1, 0, none⟩)), (10, .int .i64 0), (36, .slice a_p3 p3.length c_p3), (37, .int .i64 (p3.length : Int)), (38, .int .i64 s_3), (49, .bool s_17)] (St w0 m m [[⟨b1, 37, [.slice a_p0 p0.length c_p0]⟩]]) ?_ (fun hk88 => ?_)
            · refine WK_cond (b := s_17) rfl (fun hb89 => ?_) (fun hb89 => ?_)
              · have hm10 := ifT hb89 hm10
                refine WK_seq ?_
                refine WK_region ?_
                refine WO_pure tbok 1 [(1, .int .i64 p1), (2, .int .i64 p2), (3, .slice a_p3 p3.length c_p3), (4, .int .i64 p4), (5, .pointer (some ⟨b1, 0, none⟩)), (10, .int .i64 2), (36, .slice a_p3 p3.length c_p3), (37, .int .i64 (p3.length : Int)), (38, .int .i64 s_3)] rfl ⟨rfl, rfl, rfl, rfl, rfl, rfl, rfl, rfl, rfl, trivial⟩ ?_
                refine WO_end ?_
                cases hm10
                have hq := hd14 _ rfl
                subst hq
                have hm : some _ = some _ := hm
                cases hm
                exact WK_ret (ret_out (L := []) (RLc_tmp rfl RLc_nil) (List.nil_sublist _) rfl)
              · have hm10 := ifF hb89 hm10
                refine WK_skip ?_
                refine WK_blk ?_
                refine WK_region ?_
                refine WO_pure tbok 2 [(1, .int .i64 p1), (2, .int .i64 p2), (3, .slice a_p3 p3.length c_p3), (4, .int .i64 p4), (5, .pointer (some ⟨b1, 0, none⟩)), (10, .int .i64 0), (36, .slice a_p3 p3.length c_p3), (37, .int .i64 (p3.length : Int)), (38, .int .i64 (w64 (s_3 + 1)))] rfl ⟨rfl, rfl, rfl, rfl, rfl, rfl, rfl, rfl, rfl, trivial⟩ ?_
                refine WO_end ?_
                cases hm10
                refine WK.sub ?_ (WK.cls (fun _ h => h) (hn13 _ () rfl trivial))
                exact ⟨rfl, rfl, rfl, rfl, rfl, rfl, rfl, rfl, rfl, trivial⟩
            · refine WK_region ?_
              refine WO_pure tbok 1 [(1, .int .i64 p1), (2, .int .i64 p2), (3, .slice a_p3 p3.length c_p3), (4, .int .i64 p4), (5, .pointer (some ⟨b1, 0, none⟩)), (10, .int .i64 0), (13, .slice a84 ((v_16).length) c85), (36, .slice a_p3 p3.length c_p3), (37, .int .i64 (p3.length : Int)), (38, .int .i64 s_3), (42, .slice a84 ((v_16).length) c85)] rfl ⟨rfl, rfl, rfl, rfl, rfl, rfl, rfl, rfl, rfl, rfl, rfl, trivial⟩ ?_
              obtain ⟨y_18, hc90, hx87⟩ := bind_some hx87
              refine WO_call0 (.int .i64 y_18) rfl rfl trivial rfl rfl rfl rfl St_closed ⟨26, #[], #[], rfl, callable_26, fun w hw => ⟨_, hw.sat, slices_Min_sint_walk h86 hc90⟩⟩ ?_
              refine WO_pure tbok 2 [(1, .int .i64 p1), (2, .int .i64 p2), (3, .slice a_p3 p3.length c_p3), (4, .int .i64 p4), (5, .pointer (some ⟨b1, 0, none⟩)), (10, .int .i64 0), (13, .slice a84 ((v_16).length) c85), (36, .slice a_p3 p3.length c_p3), (37, .int .i64 (p3.length : Int)), (38, .int .i64 s_3), (45, .bool (decide (y_18 < (-1099511627776))))] rfl ⟨rfl, rfl, rfl, rfl, rfl, rfl, rfl, rfl, rfl, rfl, rfl, trivial⟩ ?_
              refine WO_split (d := 45) (b := decide (y_18 < (-1099511627776))) rfl (fun hb91 => ?_) (fun hb91 => ?_)
              · have hx87 := ifT hb91 hx87
                refine WO_pure tbok 1 [(1, .int .i64 p1), (2, .int .i64 p2), (3, .slice a_p3 p3.length c_p3), (4, .int .i64 p4), (5, .pointer (some ⟨b1, 0, none⟩)), (10, .int .i64 0), (36, .slice a_p3 p3.length c_p3), (37, .int .i64 (p3.length : Int)), (38, .int .i64 s_3), (45, .bool true)] rfl ⟨rfl, rfl, rfl, rfl, rfl, rfl, rfl, rfl, rfl, rfl, trivial⟩ ?_
                refine WO_skip rfl rfl ?_
                refine WO_pure tbok 2 [(1, .int .i64 p1), (2, .int .i64 p2), (3, .slice a_p3 p3.length c_p3), (4, .int .i64 p4), (5, .pointer (some ⟨b1, 0, none⟩)), (10, .int .i64 0), (36, .slice a_p3 p3.length c_p3), (37, .int .i64 (p3.length : Int)), (38, .int .i64 s_3), (49, .bool true)] rfl ⟨rfl, rfl, rfl, rfl, rfl, rfl, rfl, rfl, rfl, rfl, trivial⟩ ?_
                refine WO_end ?_
                cases hx87
                refine WK.sub ?_ (WK.cls (fun _ h => h) hk88)
                exact ⟨rfl, rfl, rfl, rfl, rfl, rfl, rfl, rfl, rfl, rfl, trivial⟩
              · have hx87 := ifF hb91 hx87
                refine WO_pure tbok 1 [(1, .int .i64 p1), (2, .int .i64 p2), (3, .slice a_p3 p3.length c_p3), (4, .int .i64 p4), (5, .pointer (some ⟨b1, 0, none⟩)), (10, .int .i64 0), (36, .slice a_p3 p3.length c_p3), (37, .int .i64 (p3.length : Int)), (38, .int .i64 s_3), (45, .bool false), (46, .slice a84 ((v_16).length) c85)] rfl ⟨rfl, rfl, rfl, rfl, rfl, rfl, rfl, rfl, rfl, rfl, rfl, trivial⟩ ?_
                obtain ⟨y_19, hc92, hx87⟩ := bind_some hx87
                refine WO_call0 (.int .i64 y_19) rfl rfl trivial rfl rfl rfl rfl St_closed ⟨34, #[], #[], rfl, callable_34, fun w hw => ⟨_, hw.sat, slices_Max_sint_walk h86 hc92⟩⟩ ?_
                refine WO_pure tbok 2 [(1, .int .i64 p1), (2, .int .i64 p2), (3, .slice a_p3 p3.length c_p3), (4, .int .i64 p4), (5, .pointer (some ⟨b1, 0, none⟩)), (10, .int .i64 0), (36, .slice a_p3 p3.length c_p3), (37, .int .i64 (p3.length : Int)), (38, .int .i64 s_3), (49, .bool (decide (1099511627776 < y_19)))] rfl ⟨rfl, rfl, rfl, rfl, rfl, rfl, rfl, rfl, rfl, rfl, trivial⟩ ?_
                refine WO_end ?_
                cases hx87
                refine WK.sub ?_ (WK.cls (fun _ h => h) hk88)
                exact ⟨rfl, rfl, rfl, rfl, rfl, rfl, rfl, rfl, rfl, rfl, trivial⟩
          · have hm10 := ifF hb81 hm10
            refine WK_exit rfl ?_
            cases hm10
            refine WK.sub ?_ (WK.cls (fun _ h => h) (hk9 ((), ()) (hd14 _ rfl)))
            exact ⟨rfl, rfl, rfl, rfl, rfl, rfl, trivial⟩
    · refine WK_region ?_
      refine WO_pure tbok 2 [(1, .int .i64 p1), (2, .int .i64 p2), (3, .slice a_p3 p3.length c_p3), (4, .int .i64 p4), (5, .pointer (some ⟨b1, 0, none⟩)), (10, .int .i64 0), (27, .int .i64 (p3.length : Int))] rfl ⟨rfl, rfl, rfl, rfl, rfl, rfl, rfl, trivial⟩ ?_
      refine WO_loadB tbok 0 rfl rfl rfl rfl (fun _ h => h) rfl rfl ?_
      refine WO_pure tbok 3 [(1, .int .i64 p1), (2, .int .i64 p2), (3, .slice a_p3 p3.length c_p3), (4, .int .i64 p4), (5, .pointer (some ⟨b1, 0, none⟩)), (10, .int .i64 0), (31, .bool ((p3.length : Int) != (p0.length : Int)))] rfl ⟨rfl, rfl, rfl, rfl, rfl, rfl, rfl, trivial⟩ ?_
      refine WO_split (d := 31) (b := (p3.length : Int) != (p0.length : Int)) rfl (fun hb93 => ?_) (fun hb93 => ?_)
      · have hx4 := ifT hb93 hx4
        refine WO_pure tbok 2 [(1, .int .i64 p1), (2, .int .i64 p2), (3, .slice a_p3 p3.length c_p3), (4, .int .i64 p4), (5, .pointer (some ⟨b1, 0, none⟩)), (10, .int .i64 0), (31, .bool true)] rfl ⟨rfl, rfl, rfl, rfl, rfl, rfl, rfl, trivial⟩ ?_
        refine WO_skip rfl rfl ?_
        refine WO_pure tbok 1 [(1, .int .i64 p1), (2, .int .i64 p2), (3, .slice a_p3 p3.length c_p3), (4, .int .i64 p4), (5, .pointer (some ⟨b1, 0, none⟩)), (10, .int .i64 0), (35, .bool true)] rfl ⟨rfl, rfl, rfl, rfl, rfl, rfl, rfl, trivial⟩ ?_
        refine WO_end ?_
        cases hx4
        refine WK.sub ?_ (WK.cls (fun _ h => h) hk5)
        exact ⟨rfl, rfl, rfl, rfl, rfl, rfl, rfl, trivial⟩
      · have hx4 := ifF hb93 hx4
        refine WO_pure tbok 2 [(1, .int .i64 p1), (2, .int .i64 p2), (3, .slice a_p3 p3.length c_p3), (4, .int .i64 p4), (5, .pointer (some ⟨b1, 0, none⟩)), (10, .int .i64 0), (31, .bool false), (32, .slice a_p3 p3.length c_p3), (33, .func (.func 33) #[] #[.pointer (some ⟨b1, 0, none⟩)])] rfl ⟨rfl, rfl, rfl, rfl, rfl, rfl, rfl, rfl, rfl, trivial⟩ ?_
        obtain ⟨y_21, hc95, hx4⟩ := bind_some hx4
        refine WO_call0 (.bool y_21) rfl rfl trivial rfl rfl rfl rfl St_closed ⟨32, #[], #[], rfl, callable_32, fun w hw => ⟨_, hw.satV, slices_ContainsFunc_ssint_walk (h_p3.mono (mono_RowE (mono_FE _) _) hw.leV) (fun m1 hm1 _ _ _ z_20 h94 _ h => specV_cap callable_33 (aggregate_Prove_c1_walk h94 (hm1 _ _ (hw.memV (i := 0) rfl (List.mem_singleton.2 rfl))) ((h_p0.mono (mono_RowE (mono_FE _) _) hw.leV).mono (mono_RowE (mono_FE _) _) hm1) h)) hc95⟩⟩ ?_
        refine WO_pure tbok 1 [(1, .int .i64 p1), (2, .int .i64 p2), (3, .slice a_p3 p3.length c_p3), (4, .int .i64 p4), (5, .pointer (some ⟨b1, 0, none⟩)), (10, .int .i64 0), (35, .bool y_21)] rfl ⟨rfl, rfl, rfl, rfl, rfl, rfl, rfl, trivial⟩ ?_
        refine WO_end ?_
        cases hx4
        refine WK.sub ?_ (WK.cls (fun _ h => h) hk5)
        exact ⟨rfl, rfl, rfl, rfl, rfl, rfl, rfl, trivial⟩
theorem fiduciallaw45_known_walk {m : Mu}    {r : Bool} (hm : fiduciallaw45_known = some r) :
    Go.E.Spec Tryd.prog 5 [] m (fun v _ _ => v = .bool r) := by
  refine Spec_enter Tryd.func5 rfl rfl rfl (fun w0 => ?_)
  refine WK.sub (e' := []) trivial ?_
  refine WK.sub (e' := []) trivial ?_
  unfold fiduciallaw45_known at hm
  refine WK_seq ?_
  refine WK_region ?_
  refine WO_pure tbok 1 [(0, .bool false)] rfl ⟨rfl, trivial⟩ ?_
  refine WO_end ?_
  refine WK_seq ?_
  refine WK_region ?_
  refine WO_bslice (E := (I1 .i64)) tbok (fun _ => rfl) (by decide) [.int .i64 0, .int .i64 3] ([0, 3] : List Int) rfl rfl trivial rfl rfl rfl rfl rfl rfl rfl rfl rfl rfl rfl rfl (fun b1 hb1 => ?_)
  refine WO.cls (C' := St w0 m m [[⟨b1, 3, ([0, 3] : List Int).flatMap (I1 .i64)⟩]]) (fun _ h => h) ?_
  refine WO_bslice (E := (I1 .i64)) tbok (fun _ => rfl) (by decide) [.int .i64 5, .int .i64 1] ([5, 1] : List Int) rfl rfl trivial rfl rfl rfl rfl rfl rfl rfl rfl rfl rfl rfl rfl (fun b2 hb2 => ?_)
  refine WO.cls (C' := St w0 m m [[⟨b1, 3, ([0, 3] : List Int).flatMap (I1 .i64)⟩], [⟨b2, 3, ([5, 1] : List Int).flatMap (I1 .i64)⟩]]) (fun _ h => h) ?_
  refine WO_bslice (E := (I1 .i64)) tbok (fun _ => rfl) (by decide) [.int .i64 0, .int .i64 3] ([0, 3] : List Int) rfl rfl trivial rfl rfl rfl rfl rfl rfl rfl rfl rfl rfl rfl rfl (fun b3 hb3 => ?_)
  refine WO.cls (C' := St w0 m m [[⟨b1, 3, ([0, 3] : List Int).flatMap (I1 .i64)⟩], [⟨b2, 3, ([5, 1] : List Int).flatMap (I1 .i64)⟩], [⟨b3, 3, ([0, 3] : List Int).flatMap (I1 .i64)⟩]]) (fun _ h => h) ?_
  refine WO_freeze 0 rfl (fun m5 hle6 hmm7 => ?_)
  refine WO.cls (C' := St w0 m m5 [[], [⟨b2, 3, ([5, 1] : List Int).flatMap (I1 .i64)⟩], [⟨b3, 3, ([0, 3] : List Int).flatMap (I1 .i64)⟩]]) (fun _ h => h) ?_
  refine WO_freeze 1 rfl (fun m8 hle9 hmm10 => ?_)
  refine WO.cls (C' := St w0 m m8 [[], [], [⟨b3, 3, ([0, 3] : List Int).flatMap (I1 .i64)⟩]]) (fun _ h => h) ?_
  refine WO_freeze 2 rfl (fun m11 hle12 hmm13 => ?_)
  refine WO.cls (C' := St w0 m m11 [[], [], []]) (fun _ h => h) ?_
  refine WO_bsliceX (E := V1) (El := (RowE (FE (I1 .i64)) 1)) tbok (fun _ => rfl) (by decide) [.slice (some ⟨b1, 0, none⟩) 2 2, .slice (some ⟨b2, 0, none⟩) 2 2, .slice (some ⟨b3, 0, none⟩) 2 2] [.slice (some ⟨b1, 0, none⟩) 2 2, .slice (some ⟨b2, 0, none⟩) 2 2, .slice (some ⟨b3, 0, none⟩) 2 2] ([([0, 3] : List Int), ([5, 1] : List Int), ([0, 3] : List Int)] : List (List Int)) rfl rfl trivial rfl rfl rfl rfl rfl rfl rfl rfl rfl rfl rfl rfl ⟨⟨_, rfl, (((OwnE.rd (E := (I1 .i64)) (k := 1) (fun _ => rfl) hb1 hmm7).mono (mono_FE _) hle9).mono (mono_FE _) hle12)⟩, ⟨_, rfl, ((OwnE.rd (E := (I1 .i64)) (k := 1) (fun _ => rfl) hb2 hmm10).mono (mono_FE _) hle12)⟩, ⟨_, rfl, (OwnE.rd (E := (I1 .i64)) (k := 1) (fun _ => rfl) hb3 hmm13)⟩, trivial⟩ (fun b4 hb4 => ?_)
  refine WO.cls (C' := St w0 m m11 [[], [], [], [⟨b4, 22, [.slice (some ⟨b1, 0, none⟩) 2 2, .slice (some ⟨b2, 0, none⟩) 2 2, .slice (some ⟨b3, 0, none⟩) 2 2]⟩]]) (fun _ h => h) ?_
  refine WO_pure tbok 1 [(0, .bool false), (1, .slice (some ⟨b4, 0, none⟩) 3 3)] rfl ⟨rfl, rfl, trivial⟩ ?_
  refine WO_end ?_
  refine WK_seq ?_
  refine WK_region ?_
  refine WO_pure tbok 1 [(0, .bool false), (1, .slice (some ⟨b4, 0, none⟩) 3 3), (11, .slice (some ⟨b4, 0, none⟩) 3 3)] rfl ⟨rfl, rfl, rfl, trivial⟩ ?_
  refine WO_freeze 3 rfl (fun m14 hle15 hmm16 => ?_)
  refine WO.cls (C' := St w0 m m14 [[], [], [], []]) (fun _ h => h) ?_
  obtain ⟨⟨y_1, y_2, y_3, y_4⟩, hc17, hm⟩ := bind_some hm
  refine WO_call2 (aggregate_Line_Q (y_1, y_2, y_3, y_4)) rfl rfl trivial rfl rfl rfl rfl ⟨13, #[], #[], rfl, callable_13, aggregate_Line_walk (OwnX.rd (E := V1) (k := 1) (fun _ => rfl) hb4 (mono_RowE (mono_FE _) _) hle15 hmm16) hc17⟩ (fun v23 m24 L22 hle25 hq => ?_)
  obtain ⟨a18, qa18, c19, a20, qa20, c21, rfl, h26, h27⟩ := hq
  obtain rfl := SlR.qlen h26
  obtain rfl := SlR.qlen h27
  refine WO.cls (C' := St w0 m m24 [[], [], [], [], L22]) (fun _ h => h.sub (by simp)) ?_
  refine WO_pure tbok 9 [(0, .bool false), (1, .slice (some ⟨b4, 0, none⟩) 3 3), (2, .slice a18 ((y_1).length) c19), (3, .int .i64 y_2), (4, .slice a20 ((y_3).length) c21), (5, .int .i64 y_4)] rfl ⟨rfl, rfl, rfl, rfl, rfl, rfl, trivial⟩ ?_
  refine WO_end ?_
  refine WK_seq ?_
  refine WK_region ?_
  refine WO_pure tbok 3 [(0, .bool false), (1, .slice (some ⟨b4, 0, none⟩) 3 3), (2, .slice a18 ((y_1).length) c19), (3, .int .i64 y_2), (4, .slice a20 ((y_3).length) c21), (19, .bool (y_4 == 0))] rfl ⟨rfl, rfl, rfl, rfl, rfl, rfl, trivial⟩ ?_
  refine WO_split (d := 19) (b := y_4 == 0) rfl (fun hb28 => ?_) (fun hb28 => ?_)
  · have hm := ifT hb28 hm
    refine WO_pure tbok 4 [(0, .bool false), (1, .slice (some ⟨b4, 0, none⟩) 3 3), (2, .slice a18 ((y_1).length) c19), (4, .slice a20 ((y_3).length) c21), (23, .bool (y_2 == 3))] rfl ⟨rfl, rfl, rfl, rfl, rfl, trivial⟩ ?_
    refine WO_split (d := 23) (b := y_2 == 3) rfl (fun hb29 => ?_) (fun hb29 => ?_)
    · have hm := ifT hb29 hm
      refine WO_pure tbok 1 [(0, .bool false), (1, .slice (some ⟨b4, 0, none⟩) 3 3), (4, .slice a20 ((y_3).length) c21), (23, .bool true), (24, .slice a18 ((y_1).length) c19)] rfl ⟨rfl, rfl, rfl, rfl, rfl, trivial⟩ ?_
      refine WO_bslice (E := (I1 .i64)) tbok (fun _ => rfl) (by decide) [.int .i64 0, .int .i64 1, .int .i64 0] ([0, 1, 0] : List Int) rfl rfl trivial rfl rfl rfl rfl rfl rfl rfl rfl rfl rfl rfl rfl (fun b30 hb30 => ?_)
      refine WO.cls (C' := St w0 m m24 [[], [], [], [], L22, [⟨b30, 3, ([0, 1, 0] : List Int).flatMap (I1 .i64)⟩]]) (fun _ h => h) ?_
      obtain ⟨y_5, hc31, hm⟩ := bind_some hm
      refine WO_call0 (.bool y_5) rfl rfl trivial rfl rfl rfl rfl St_closed ⟨14, #[], #[], rfl, callable_14, fun w hw => ⟨_, hw.satV, slices_Equal_sint_walk (h26.mono (mono_FE _) hw.leV) (OwnE.rd (E := (I1 .i64)) (k := 1) (fun _ => rfl) hb30 (fun _ hx => hw.memV (i := 5) rfl hx)) hc31⟩⟩ ?_
      refine WO_pure tbok 2 [(0, .bool false), (1, .slice (some ⟨b4, 0, none⟩) 3 3), (4, .slice a20 ((y_3).length) c21), (28, .bool y_5)] rfl ⟨rfl, rfl, rfl, rfl, trivial⟩ ?_
      refine WO_split (d := 28) (b := y_5) rfl (fun hb32 => ?_) (fun hb32 => ?_)
      · have hm := ifT hb32 hm
        refine WO_pure tbok 2 [(0, .bool false), (1, .slice (some ⟨b4, 0, none⟩) 3 3), (4, .slice a20 ((y_3).length) c21), (28, .bool true), (29, .slice (some ⟨b4, 0, none⟩) 3 3), (30, .slice a20 ((y_3).length) c21)] rfl ⟨rfl, rfl, rfl, rfl, rfl, rfl, trivial⟩ ?_
        obtain ⟨y_6, hc33, hm⟩ := bind_some hm
        refine WO_call0 (.int .i64 y_6) rfl rfl trivial rfl rfl rfl rfl St_closed ⟨15, #[], #[], rfl, callable_15, fun w hw => ⟨_, hw.sat, aggregate_Prove_walk ((OwnX.rd (E := V1) (k := 1) (fun _ => rfl) hb4 (mono_RowE (mono_FE _) _) hle15 hmm16).mono (mono_RowE (mono_FE _) _) hle25) h27 hc33⟩⟩ ?_
        refine WO_pure tbok 3 [(0, .bool false), (1, .slice (some ⟨b4, 0, none⟩) 3 3), (4, .slice a20 ((y_3).length) c21), (34, .bool (y_6 == 0))] rfl ⟨rfl, rfl, rfl, rfl, trivial⟩ ?_
        refine WO_split (d := 34) (b := y_6 == 0) rfl (fun hb34 => ?_) (fun hb34 => ?_)
        · have hm := ifT hb34 hm
          refine WO_pure tbok 2 [(0, .bool false), (34, .bool true), (35, .slice (some ⟨b4, 0, none⟩) 3 3), (36, .slice a20 ((y_3).length) c21)] rfl ⟨rfl, rfl, rfl, rfl, trivial⟩ ?_
          obtain ⟨y_7, hc35, hm⟩ := bind_some hm
          refine WO_call0 (.int .i64 y_7) rfl rfl trivial rfl rfl rfl rfl St_closed ⟨15, #[], #[], rfl, callable_15, fun w hw => ⟨_, hw.sat, aggregate_Prove_walk ((OwnX.rd (E := V1) (k := 1) (fun _ => rfl) hb4 (mono_RowE (mono_FE _) _) hle15 hmm16).mono (mono_RowE (mono_FE _) _) hle25) h27 hc35⟩⟩ ?_
          refine WO_pure tbok 3 [(0, .bool false), (40, .bool (y_7 == 12))] rfl ⟨rfl, rfl, trivial⟩ ?_
          refine WO_split (d := 40) (b := y_7 == 12) rfl (fun hb36 => ?_) (fun hb36 => ?_)
          · have hm := ifT hb36 hm
            obtain ⟨y_8, hc37, hm⟩ := bind_some hm
            refine WO_call0 (.int .i64 y_8) rfl rfl trivial rfl rfl rfl rfl St_closed ⟨16, #[], #[], rfl, callable_16, fun w hw => ⟨_, hw.sat, aggregate_Check_walk SlR_nil hc37⟩⟩ ?_
            refine WO_pure tbok 3 [(0, .bool (y_8 == 1))] rfl ⟨rfl, trivial⟩ ?_
            refine WO_end ?_
            cases hm
            exact WK_ret (ret_out (L := []) (RLc_tmp rfl RLc_nil) (List.nil_sublist _) rfl)
          · have hm := ifF hb36 hm
            refine WO_skip rfl rfl ?_
            refine WO_pure tbok 3 [(0, .bool false)] rfl ⟨rfl, trivial⟩ ?_
            refine WO_end ?_
            cases hm
            exact WK_ret (ret_out (L := []) (RLc_tmp rfl RLc_nil) (List.nil_sublist _) rfl)
        · have hm := ifF hb34 hm
          refine WO_pure tbok 2 [(0, .bool false), (34, .bool false)] rfl ⟨rfl, rfl, trivial⟩ ?_
          refine WO_skip rfl rfl ?_
          refine WO_pure tbok 3 [(0, .bool false), (40, .bool false)] rfl ⟨rfl, rfl, trivial⟩ ?_
          refine WO_skip rfl rfl ?_
          refine WO_pure tbok 3 [(0, .bool false)] rfl ⟨rfl, trivial⟩ ?_
          refine WO_end ?_
          cases hm
          exact WK_ret (ret_out (L := []) (RLc_tmp rfl RLc_nil) (List.nil_sublist _) rfl)
      · have hm := ifF hb32 hm
        refine WO_pure tbok 2 [(0, .bool false), (1, .slice (some ⟨b4, 0, none⟩) 3 3), (4, .slice a20 ((y_3).length) c21), (28, .bool false)] rfl ⟨rfl, rfl, rfl, rfl, trivial⟩ ?_
        refine WO_skip rfl rfl ?_
        refine WO_pure tbok 5 [(0, .bool false), (34, .bool false)] rfl ⟨rfl, rfl, trivial⟩ ?_
        refine WO_skip rfl rfl ?_
        refine WO_pure tbok 3 [(0, .bool false), (40, .bool false)] rfl ⟨rfl, rfl, trivial⟩ ?_
        refine WO_skip rfl rfl ?_
        refine WO_pure tbok 3 [(0, .bool false)] rfl ⟨rfl, trivial⟩ ?_
        refine WO_end ?_
        cases hm
        exact WK_ret (ret_out (L := []) (RLc_tmp rfl RLc_nil) (List.nil_sublist _) rfl)
    · have hm := ifF hb29 hm
      refine WO_pure tbok 1 [(0, .bool false), (1, .slice (some ⟨b4, 0, none⟩) 3 3), (4, .slice a20 ((y_3).length) c21), (23, .bool false)] rfl ⟨rfl, rfl, rfl, rfl, trivial⟩ ?_
      refine WO_skip rfl rfl ?_
      refine WO_skip rfl rfl ?_
      refine WO_pure tbok 4 [(0, .bool false), (1, .slice (some ⟨b4, 0, none⟩) 3 3), (4, .slice a20 ((y_3).length) c21), (28, .bool false)] rfl ⟨rfl, rfl, rfl, rfl, trivial⟩ ?_
      refine WO_skip rfl rfl ?_
      refine WO_pure tbok 5 [(0, .bool false), (34, .bool false)] rfl ⟨rfl, rfl, trivial⟩ ?_
      refine WO_skip rfl rfl ?_
      refine WO_pure tbok 3 [(0, .bool false), (40, .bool false)] rfl ⟨rfl, rfl, trivial⟩ ?_
      refine WO_skip rfl rfl ?_
      refine WO_pure tbok 3 [(0, .bool false)] rfl ⟨rfl, trivial⟩ ?_
      refine WO_end ?_
      cases hm
      exact WK_ret (ret_out (L := []) (RLc_tmp rfl RLc_nil) (List.nil_sublist _) rfl)
  · have hm := ifF hb28 hm
    refine WO_pure tbok 5 [(0, .bool false), (1, .slice (some ⟨b4, 0, none⟩) 3 3), (4, .slice a20 ((y_3).length) c21), (23, .bool false)] rfl ⟨rfl, rfl, rfl, rfl, trivial⟩ ?_
    refine WO_skip rfl rfl ?_
    refine WO_skip rfl rfl ?_
    refine WO_pure tbok 4 [(0, .bool false), (1, .slice (some ⟨b4, 0, none⟩) 3 3), (4, .slice a20 ((y_3).length) c21), (28, .bool false)] rfl ⟨rfl, rfl, rfl, rfl, trivial⟩ ?_
    refine WO_skip rfl rfl ?_
    refine WO_pure tbok 5 [(0, .bool false), (34, .bool false)] rfl ⟨rfl, rfl, trivial⟩ ?_
    refine WO_skip rfl rfl ?_
    refine WO_pure tbok 3 [(0, .bool false), (40, .bool false)] rfl ⟨rfl, rfl, trivial⟩ ?_
    refine WO_skip rfl rfl ?_
    refine WO_pure tbok 3 [(0, .bool false)] rfl ⟨rfl, trivial⟩ ?_
    refine WO_end ?_
    cases hm
    exact WK_ret (ret_out (L := []) (RLc_tmp rfl RLc_nil) (List.nil_sublist _) rfl)
theorem fiduciallaw45_small_walk {m : Mu} {p0_0 : Int} {p0_1 : Int} {p0_2 : Int} {p0_3 : List Int} {a_p0_3 : Option Addr} {q_p0_3 c_p0_3 : Nat} (h_p0_3 : SlR (FE (I1 .i64)) 1 m (.slice a_p0_3 q_p0_3 c_p0_3) p0_3) {r : Bool} (hm : fiduciallaw45_small p0_0 p0_1 p0_2 p0_3 = some r) :
    Go.E.Spec Tryd.prog 6 [.agg #[.int .i64 p0_0, .int .i64 p0_1, .int .i64 p0_2, .slice a_p0_3 q_p0_3 c_p0_3]] m (fun v _ _ => v = .bool r) := by
  refine Spec_enter Tryd.func6 rfl rfl rfl (fun w0 => ?_)
  refine WK.sub (e' := [(0, .agg #[.int .i64 p0_0, .int .i64 p0_1, .int .i64 p0_2, .slice a_p0_3 q_p0_3 c_p0_3])]) ⟨rfl, trivial⟩ ?_
  obtain rfl := SlR.qlen h_p0_3
  refine WK.sub (e' := [(0, .agg #[.int .i64 p0_0, .int .i64 p0_1, .int .i64 p0_2, .slice a_p0_3 p0_3.length c_p0_3])]) ⟨rfl, trivial⟩ ?_
  unfold fiduciallaw45_small at hm
  refine WK_seq ?_
  refine WK_region ?_
  refine WO_box [.int .i64 p0_0, .int .i64 p0_1, .int .i64 p0_2, .slice a_p0_3 p0_3.length c_p0_3] rfl rfl trivial rfl rfl rfl (fun b1 => ?_)
  refine WO.cls (C' := St w0 m m [[⟨b1, 24, [.int .i64 p0_0, .int .i64 p0_1, .int .i64 p0_2, .slice a_p0_3 p0_3.length c_p0_3]⟩]]) (fun _ h => h) ?_
  refine WO_pure tbok 1 [(1, .pointer (some ⟨b1, 0, none⟩)), (2, .bool false)] rfl ⟨rfl, rfl, trivial⟩ ?_
  refine WO_end ?_
  refine WK_seq ?_
  refine WK_region ?_
  refine WO_pure tbok 1 [(2, .bool false), (3, .pointer (some ⟨b1, 3, none⟩))] rfl ⟨rfl, rfl, trivial⟩ ?_
  refine WO_loadB tbok 0 rfl rfl rfl rfl (fun _ h => h) rfl rfl ?_
  refine WO_pure tbok 3 [(2, .bool (decide ((p0_3.length : Int) ≤ 600)))] rfl ⟨rfl, trivial⟩ ?_
  refine WO_end ?_
  cases hm
  exact WK_ret (ret_out (L := []) (RLc_tmp rfl RLc_nil) (List.nil_sublist _) rfl)
theorem slices_IndexFunc_sint_walk {m : Mu} {p0 : List Int} {p1 : Int → Option Bool} {a_p0 : Option Addr} {q_p0 c_p0 : Nat} {p1v : Value} (h_p0 : SlR (FE (I1 .i64)) 1 m (.slice a_p0 q_p0 c_p0) p0) (hp1 : ∀ (m1 : Mu), Le m m1 → ∀ (u1 : Int), ∀ (r : Bool), p1 u1 = some r → SpecV Tryd.prog p1v [.int .i64 u1] m1 (fun v _ _ => v = .bool r)) {r : Int} (hm : slices_IndexFunc_sint p0 p1 = some r) :
    Go.E.Spec Tryd.prog 39 [.slice a_p0 q_p0 c_p0, p1v] m (fun v _ _ => v = .int .i64 r) := by
  refine Spec_enter Tryd.func39 rfl rfl rfl (fun w0 => ?_)
  refine WK.sub (e' := [(0, .slice a_p0 q_p0 c_p0), (1, p1v)]) ⟨rfl, rfl, trivial⟩ ?_
  obtain rfl := SlR.qlen h_p0
  refine WK.sub (e' := [(0, .slice a_p0 p0.length c_p0), (1, p1v)]) ⟨rfl, rfl, trivial⟩ ?_
  unfold slices_IndexFunc_sint at hm
  refine WK_seq ?_
  refine WK_region ?_
  refine WO_pure tbok 1 [(0, .slice a_p0 p0.length c_p0), (1, p1v), (4, .int .i64 0)] rfl ⟨rfl, rfl, rfl, trivial⟩ ?_
  refine WO_end ?_
  refine WK_seq ?_
  refine WK_seq ?_
  refine WK_region ?_
  refine WO_pure tbok 3 [(0, .slice a_p0 p0.length c_p0), (1, p1v), (4, .int .i64 0), (7, .int .i64 (p0.length : Int)), (8, .int .i64 0)] rfl ⟨rfl, rfl, rfl, rfl, rfl, trivial⟩ ?_
  refine WO_end ?_
  obtain ⟨x1, hx2, hm⟩ := bind_some hm
  refine WK_join (β := Unit × Unit) (fun p => Sum.inr p.1 = x1) (fun p => [(4, .int .i64 0)]) (fun p => St w0 m m []) ?_ (fun hk3 => ?_)
  · rintro ⟨⟨⟩, ⟨⟩⟩ hq9
    subst hq9
    refine WK.sub (e' := [(4, .int .i64 0)]) ⟨rfl, trivial⟩ (WK.cls (C' := St w0 m m []) (fun _ h => h) ?_)
    refine WK_seq ?_
    refine WK_region ?_
    refine WO_pure tbok 1 [(4, .int .i64 (-1))] rfl ⟨rfl, trivial⟩ ?_
    refine WO_end ?_
    cases hm
    exact WK_ret (ret_out (L := []) (RLc_tmp rfl RLc_nil) (List.nil_sublist _) rfl)
  · refine WK_block ?_
    refine WK_loop (S := Int) (G := Unit) (fun s => slices_IndexFunc_sint_s1 p0 p1 s) (fun s g => [(0, .slice a_p0 p0.length c_p0), (1, p1v), (4, .int .i64 0), (7, .int .i64 (p0.length : Int)), (8, .int .i64 s)]) (fun s g => St w0 m m []) (fun s g => True) FUEL 0 () x1 hx2 trivial ⟨rfl, rfl, rfl, rfl, rfl, trivial⟩ (fun _ h => h) ?_
    rintro s_1 ⟨⟩ o5 fl6 hm4 - hn7 hd8
    have hm4 : slices_IndexFunc_sint_s1 p0 p1 s_1 = some o5 := hm4
    unfold slices_IndexFunc_sint_s1 at hm4
    refine WK.sub (e' := [(0, .slice a_p0 p0.length c_p0), (1, p1v), (4, .int .i64 0), (7, .int .i64 (p0.length : Int)), (8, .int .i64 s_1)]) ⟨rfl, rfl, rfl, rfl, rfl, trivial⟩ (WK.cls (C' := St w0 m m []) (fun _ h => h) ?_)
    refine WK_seq ?_
    refine WK_region ?_
    refine WO_pure tbok 1 [(0, .slice a_p0 p0.length c_p0), (1, p1v), (4, .int .i64 0), (7, .int .i64 (p0.length : Int)), (8, .int .i64 s_1), (9, .bool (decide (s_1 < (p0.length : Int))))] rfl ⟨rfl, rfl, rfl, rfl, rfl, rfl, trivial⟩ ?_
    refine WO_end ?_
    refine WK_seq ?_
    refine WK_cond (b := decide (s_1 < (p0.length : Int))) rfl (fun hb10 => ?_) (fun hb10 => ?_)
    · have hm4 := ifT hb10 hm4
      refine WK_skip ?_
      refine WK_seq ?_
      refine WK_block ?_
      refine WK_seq ?_
      refine WK_region ?_
      refine WO_pure tbok 2 [(0, .slice a_p0 p0.length c_p0), (1, p1v), (4, .int .i64 0), (5, .int .i64 s_1), (7, .int .i64 (p0.length : Int)), (8, .int .i64 s_1)] rfl ⟨rfl, rfl, rfl, rfl, rfl, rfl, trivial⟩ ?_
      refine WO_end ?_
      refine WK_seq ?_
      refine WK_region ?_
      refine WO_pure tbok 3 [(0, .slice a_p0 p0.length c_p0), (1, p1v), (4, .int .i64 0), (5, .int .i64 s_1), (7, .int .i64 (p0.length : Int)), (8, .int .i64 s_1), (11, p1v), (12, .slice a_p0 p0.length c_p0), (13, .int .i64 s_1)] rfl ⟨rfl, rfl, rfl, rfl, rfl, rfl, rfl, rfl, rfl, trivial⟩ ?_
      obtain ⟨v_2, hy11, hm4⟩ := bind_some hm4
      obtain ⟨hc12, hy11⟩ := ix_some hy11
      refine WO_index tbok rfl rfl rfl rfl rfl rfl rfl rfl (SlR.addr h_p0) hc12 ?_
      refine WO_loadE tbok rfl rfl rfl rfl (fun _ h => St.sat h) h_p0 hy11 rfl ?_
      obtain ⟨y_3, hc13, hm4⟩ := bind_some hm4
      obtain ⟨f0, first0, cap0, hf0, hcal0, hsp0⟩ := hp1 _ (Le.refl _) v_2 _ hc13
      refine WO_call0 (.bool y_3) rfl rfl trivial rfl rfl rfl rfl St_closed ⟨f0, first0, cap0, hf0, hcal0, fun w hw => ⟨m, hw.sat, hsp0⟩⟩ ?_
      refine WO_end ?_
      refine WK_cond (b := y_3) rfl (fun hb14 => ?_) (fun hb14 => ?_)
      · have hm4 := ifT hb14 hm4
        refine WK_seq ?_
        refine WK_region ?_
        refine WO_pure tbok 2 [(0, .slice a_p0 p0.length c_p0), (1, p1v), (4, .int .i64 s_1), (7, .int .i64 (p0.length : Int)), (8, .int .i64 s_1)] rfl ⟨rfl, rfl, rfl, rfl, rfl, trivial⟩ ?_
        refine WO_end ?_
        cases hm4
        have hq := hd8 _ rfl
        subst hq
        have hm : some _ = some _ := hm
        cases hm
        exact WK_ret (ret_out (L := []) (RLc_tmp rfl RLc_nil) (List.nil_sublist _) rfl)
      · have hm4 := ifF hb14 hm4
        refine WK_skip ?_
        refine WK_blk ?_
        refine WK_region ?_
        refine WO_pure tbok 2 [(0, .slice a_p0 p0.length c_p0), (1, p1v), (4, .int .i64 0), (7, .int .i64 (p0.length : Int)), (8, .int .i64 (w64 (s_1 + 1)))] rfl ⟨rfl, rfl, rfl, rfl, rfl, trivial⟩ ?_
        refine WO_end ?_
        cases hm4
        refine WK.sub ?_ (WK.cls (fun _ h => h) (hn7 _ () rfl trivial))
        exact ⟨rfl, rfl, rfl, rfl, rfl, trivial⟩
    · have hm4 := ifF hb10 hm4
      refine WK_exit rfl ?_
      cases hm4
      refine WK.sub ?_ (WK.cls (fun _ h => h) (hk3 ((), ()) (hd8 _ rfl)))
      exact ⟨rfl, trivial⟩
theorem slices_ContainsFunc_sint_walk {m : Mu} {p0 : List Int} {p1 : Int → Option Bool} {a_p0 : Option Addr} {q_p0 c_p0 : Nat} {p1v : Value} (h_p0 : SlR (FE (I1 .i64)) 1 m (.slice a_p0 q_p0 c_p0) p0) (hp1 : ∀ (m1 : Mu), Le m m1 → ∀ (u1 : Int), ∀ (r : Bool), p1 u1 = some r → SpecV Tryd.prog p1v [.int .i64 u1] m1 (fun v _ _ => v = .bool r)) {r : Bool} (hm : slices_ContainsFunc_sint p0 p1 = some r) :
    Go.E.Spec Tryd.prog 19 [.slice a_p0 q_p0 c_p0, p1v] m (fun v _ _ => v = .bool r) := by
  refine Spec_enter Tryd.func19 rfl rfl rfl (fun w0 => ?_)
  refine WK.sub (e' := [(0, .slice a_p0 q_p0 c_p0), (1, p1v)]) ⟨rfl, rfl, trivial⟩ ?_
  obtain rfl := SlR.qlen h_p0
  refine WK.sub (e' := [(0, .slice a_p0 p0.length c_p0), (1, p1v)]) ⟨rfl, rfl, trivial⟩ ?_
  unfold slices_ContainsFunc_sint at hm
  refine WK_seq ?_
  refine WK_region ?_
  refine WO_pure tbok 1 [(0, .slice a_p0 p0.length c_p0), (1, p1v), (4, .bool false)] rfl ⟨rfl, rfl, rfl, trivial⟩ ?_
  refine WO_end ?_
  refine WK_seq ?_
  refine WK_region ?_
  refine WO_pure tbok 2 [(4, .bool false), (5, .slice a_p0 p0.length c_p0), (6, p1v)] rfl ⟨rfl, rfl, rfl, trivial⟩ ?_
  obtain ⟨y_1, hc1, hm⟩ := bind_some hm
  refine WO_call0 (.int .i64 y_1) rfl rfl trivial rfl rfl rfl rfl St_closed ⟨39, #[], #[], rfl, callable_39, fun w hw => ⟨_, hw.sat, slices_IndexFunc_sint_walk h_p0 hp1 hc1⟩⟩ ?_
  refine WO_pure tbok 2 [(4, .bool (decide (0 ≤ y_1)))] rfl ⟨rfl, trivial⟩ ?_
  refine WO_end ?_
  cases hm
  exact WK_ret (ret_out (L := []) (RLc_tmp rfl RLc_nil) (List.nil_sublist _) rfl)
theorem census_Check_c1_walk {m : Mu} {p0 : Int}   {r : Bool} (hm : census_Check_c1 p0 = some r) :
    Go.E.Spec Tryd.prog 44 [.int .i64 p0] m (fun v _ _ => v = .bool r) := by
  refine Spec_enter Tryd.func44 rfl rfl rfl (fun w0 => ?_)
  refine WK.sub (e' := [(0, .int .i64 p0)]) ⟨rfl, trivial⟩ ?_
  refine WK.sub (e' := [(0, .int .i64 p0)]) ⟨rfl, trivial⟩ ?_
  unfold census_Check_c1 at hm
  refine WK_seq ?_
  refine WK_region ?_
  refine WO_pure tbok 1 [(0, .int .i64 p0), (2, .bool false)] rfl ⟨rfl, rfl, trivial⟩ ?_
  refine WO_end ?_
  refine WK_seq ?_
  refine WK_region ?_
  refine WO_pure tbok 3 [(0, .int .i64 p0), (2, .bool false), (5, .bool (decide (p0 < 0)))] rfl ⟨rfl, rfl, rfl, trivial⟩ ?_
  refine WO_split (d := 5) (b := decide (p0 < 0)) rfl (fun hb1 => ?_) (fun hb1 => ?_)
  · have hm := ifT hb1 hm
    refine WO_pure tbok 4 [(2, .bool true)] rfl ⟨rfl, trivial⟩ ?_
    refine WO_end ?_
    cases hm
    exact WK_ret (ret_out (L := []) (RLc_tmp rfl RLc_nil) (List.nil_sublist _) rfl)
  · have hm := ifF hb1 hm
    refine WO_pure tbok 4 [(2, .bool (decide (1048576 < p0)))] rfl ⟨rfl, trivial⟩ ?_
    refine WO_end ?_
    cases hm
    exact WK_ret (ret_out (L := []) (RLc_tmp rfl RLc_nil) (List.nil_sublist _) rfl)
theorem census_Check_walk {m : Mu} {p0_0 : Int} {p0_1 : Int} {p0_2 : Int} {p0_3 : List Int} {a_p0_3 : Option Addr} {q_p0_3 c_p0_3 : Nat} (h_p0_3 : SlR (FE (I1 .i64)) 1 m (.slice a_p0_3 q_p0_3 c_p0_3) p0_3) {r : Int} (hm : census_Check p0_0 p0_1 p0_2 p0_3 = some r) :
    Go.E.Spec Tryd.prog 36 [.agg #[.int .i64 p0_0, .int .i64 p0_1, .int .i64 p0_2, .slice a_p0_3 q_p0_3 c_p0_3]] m (fun v _ _ => v = .int .i64 r) := by
  refine Spec_enter Tryd.func36 rfl rfl rfl (fun w0 => ?_)
  refine WK.sub (e' := [(0, .agg #[.int .i64 p0_0, .int .i64 p0_1, .int .i64 p0_2, .slice a_p0_3 q_p0_3 c_p0_3])]) ⟨rfl, trivial⟩ ?_
  obtain rfl := SlR.qlen h_p0_3
  refine WK.sub (e' := [(0, .agg #[.int .i64 p0_0, .int .i64 p0_1, .int .i64 p0_2, .slice a_p0_3 p0_3.length c_p0_3])]) ⟨rfl, trivial⟩ ?_
  unfold census_Check at hm
  refine WK_seq ?_
  refine WK_region ?_
  refine WO_box [.int .i64 p0_0, .int .i64 p0_1, .int .i64 p0_2, .slice a_p0_3 p0_3.length c_p0_3] rfl rfl trivial rfl rfl rfl (fun b1 => ?_)
  refine WO.cls (C' := St w0 m m [[⟨b1, 24, [.int .i64 p0_0, .int .i64 p0_1, .int .i64 p0_2, .slice a_p0_3 p0_3.length c_p0_3]⟩]]) (fun _ h => h) ?_
  refine WO_pure tbok 1 [(1, .pointer (some ⟨b1, 0, none⟩)), (2, .int .i64 0)] rfl ⟨rfl, rfl, trivial⟩ ?_
  refine WO_end ?_
  refine WK_seq ?_
  refine WK_seq ?_
  obtain ⟨s_1, hx2, hm⟩ := bind_some hm
  refine WK_meet [(1, .pointer (some ⟨b1, 0, none⟩)), (2, .int .i64 0), (44, .bool s_1)] (St w0 m m [[⟨b1, 24, [.int .i64 p0_0, .int .i64 p0_1, .int .i64 p0_2, .slice a_p0_3 p0_3.length c_p0_3]⟩]]) ?_ (fun hk3 => ?_)
  · refine WK_cond (b := s_1) rfl (fun hb4 => ?_) (fun hb4 => ?_)
    · have hm := ifT hb4 hm
      refine WK_seq ?_
      refine WK_region ?_
      refine WO_pure tbok 1 [(1, .pointer (some ⟨b1, 0, none⟩)), (2, .int .i64 1)] rfl ⟨rfl, rfl, trivial⟩ ?_
      refine WO_end ?_
      cases hm
      exact WK_ret (ret_out (L := []) (RLc_tmp rfl RLc_nil) (List.nil_sublist _) rfl)
    · have hm := ifF hb4 hm
      refine WK_skip ?_
      refine WK_seq ?_
      refine WK_seq ?_
      refine WK_region ?_
      refine WO_pure tbok 1 [(2, .int .i64 0), (45, .pointer (some ⟨b1, 3, none⟩))] rfl ⟨rfl, rfl, trivial⟩ ?_
      refine WO_loadB tbok 0 rfl rfl rfl rfl (fun _ h => h) rfl rfl ?_
      obtain ⟨y_3, hc5, hm⟩ := bind_some hm
      refine WO_call0 (.bool y_3) rfl rfl trivial rfl rfl rfl rfl St_closed ⟨19, #[], #[], rfl, callable_19, fun w hw => ⟨_, hw.sat, slices_ContainsFunc_sint_walk h_p0_3 (fun m1 hm1 z_2 _ h => specV_cap callable_44 (census_Check_c1_walk h)) hc5⟩⟩ ?_
      refine WO_end ?_
      refine WK_cond (b := y_3) rfl (fun hb6 => ?_) (fun hb6 => ?_)
      · have hm := ifT hb6 hm
        refine WK_seq ?_
        refine WK_region ?_
        refine WO_pure tbok 1 [(2, .int .i64 1)] rfl ⟨rfl, trivial⟩ ?_
        refine WO_end ?_
        cases hm
        exact WK_ret (ret_out (L := []) (RLc_tmp rfl RLc_nil) (List.nil_sublist _) rfl)
      · have hm := ifF hb6 hm
        refine WK_skip ?_
        refine WK_seq ?_
        refine WK_region ?_
        refine WO_pure tbok 1 [(2, .int .i64 0)] rfl ⟨rfl, trivial⟩ ?_
        refine WO_end ?_
        cases hm
        exact WK_ret (ret_out (L := []) (RLc_tmp rfl RLc_nil) (List.nil_sublist _) rfl)
  · refine WK_region ?_
    refine WO_pure tbok 1 [(1, .pointer (some ⟨b1, 0, none⟩)), (2, .int .i64 0), (3, .pointer (some ⟨b1, 0, none⟩))] rfl ⟨rfl, rfl, rfl, trivial⟩ ?_
    refine WO_loadB tbok 0 rfl rfl rfl rfl (fun _ h => h) rfl rfl ?_
    refine WO_pure tbok 2 [(1, .pointer (some ⟨b1, 0, none⟩)), (2, .int .i64 0), (6, .bool (decide (p0_0 < 1)))] rfl ⟨rfl, rfl, rfl, trivial⟩ ?_
    refine WO_split (d := 6) (b := decide (p0_0 < 1)) rfl (fun hb7 => ?_) (fun hb7 => ?_)
    · have hx2 := ifT hb7 hx2
      refine WO_pure tbok 38 [(1, .pointer (some ⟨b1, 0, none⟩)), (2, .int .i64 0), (44, .bool true)] rfl ⟨rfl, rfl, rfl, trivial⟩ ?_
      refine WO_end ?_
      cases hx2
      refine WK.sub ?_ (WK.cls (fun _ h => h) hk3)
      exact ⟨rfl, rfl, rfl, trivial⟩
    · have hx2 := ifF hb7 hx2
      refine WO_pure tbok 1 [(1, .pointer (some ⟨b1, 0, none⟩)), (2, .int .i64 0), (6, .bool false), (7, .pointer (some ⟨b1, 0, none⟩))] rfl ⟨rfl, rfl, rfl, rfl, trivial⟩ ?_
      refine WO_loadB tbok 0 rfl rfl rfl rfl (fun _ h => h) rfl rfl ?_
      refine WO_pure tbok 3 [(1, .pointer (some ⟨b1, 0, none⟩)), (2, .int .i64 0), (11, .bool (decide (64 < p0_0)))] rfl ⟨rfl, rfl, rfl, trivial⟩ ?_
      refine WO_split (d := 11) (b := decide (64 < p0_0)) rfl (fun hb8 => ?_) (fun hb8 => ?_)
      · have hx2 := ifT hb8 hx2
        refine WO_pure tbok 33 [(1, .pointer (some ⟨b1, 0, none⟩)), (2, .int .i64 0), (44, .bool true)] rfl ⟨rfl, rfl, rfl, trivial⟩ ?_
        refine WO_end ?_
        cases hx2
        refine WK.sub ?_ (WK.cls (fun _ h => h) hk3)
        exact ⟨rfl, rfl, rfl, trivial⟩
      · have hx2 := ifF hb8 hx2
        refine WO_pure tbok 1 [(1, .pointer (some ⟨b1, 0, none⟩)), (2, .int .i64 0), (11, .bool false), (12, .pointer (some ⟨b1, 1, none⟩))] rfl ⟨rfl, rfl, rfl, rfl, trivial⟩ ?_
        refine WO_loadB tbok 0 rfl rfl rfl rfl (fun _ h => h) rfl rfl ?_
        refine WO_pure tbok 3 [(1, .pointer (some ⟨b1, 0, none⟩)), (2, .int .i64 0), (16, .bool (decide (p0_1 < 1)))] rfl ⟨rfl, rfl, rfl, trivial⟩ ?_
        refine WO_split (d := 16) (b := decide (p0_1 < 1)) rfl (fun hb9 => ?_) (fun hb9 => ?_)
        · have hx2 := ifT hb9 hx2
          refine WO_pure tbok 28 [(1, .pointer (some ⟨b1, 0, none⟩)), (2, .int .i64 0), (44, .bool true)] rfl ⟨rfl, rfl, rfl, trivial⟩ ?_
          refine WO_end ?_
          cases hx2
          refine WK.sub ?_ (WK.cls (fun _ h => h) hk3)
          exact ⟨rfl, rfl, rfl, trivial⟩
        · have hx2 := ifF hb9 hx2
          refine WO_pure tbok 1 [(1, .pointer (some ⟨b1, 0, none⟩)), (2, .int .i64 0), (16, .bool false), (17, .pointer (some ⟨b1, 1, none⟩))] rfl ⟨rfl, rfl, rfl, rfl, trivial⟩ ?_
          refine WO_loadB tbok 0 rfl rfl rfl rfl (fun _ h => h) rfl rfl ?_
          refine WO_pure tbok 3 [(1, .pointer (some ⟨b1, 0, none⟩)), (2, .int .i64 0), (21, .bool (decide (64 < p0_1)))] rfl ⟨rfl, rfl, rfl, trivial⟩ ?_
          refine WO_split (d := 21) (b := decide (64 < p0_1)) rfl (fun hb10 => ?_) (fun hb10 => ?_)
          · have hx2 := ifT hb10 hx2
            refine WO_pure tbok 23 [(1, .pointer (some ⟨b1, 0, none⟩)), (2, .int .i64 0), (44, .bool true)] rfl ⟨rfl, rfl, rfl, trivial⟩ ?_
            refine WO_end ?_
            cases hx2
            refine WK.sub ?_ (WK.cls (fun _ h => h) hk3)
            exact ⟨rfl, rfl, rfl, trivial⟩
          · have hx2 := ifF hb10 hx2
            refine WO_pure tbok 1 [(1, .pointer (some ⟨b1, 0, none⟩)), (2, .int .i64 0), (21, .bool false), (22, .pointer (some ⟨b1, 2, none⟩))] rfl ⟨rfl, rfl, rfl, rfl, trivial⟩ ?_
            refine WO_loadB tbok 0 rfl rfl rfl rfl (fun _ h => h) rfl rfl ?_
            refine WO_pure tbok 3 [(1, .pointer (some ⟨b1, 0, none⟩)), (2, .int .i64 0), (26, .bool (decide (p0_2 < 1)))] rfl ⟨rfl, rfl, rfl, trivial⟩ ?_
            refine WO_split (d := 26) (b := decide (p0_2 < 1)) rfl (fun hb11 => ?_) (fun hb11 => ?_)
            · have hx2 := ifT hb11 hx2
              refine WO_pure tbok 18 [(1, .pointer (some ⟨b1, 0, none⟩)), (2, .int .i64 0), (44, .bool true)] rfl ⟨rfl, rfl, rfl, trivial⟩ ?_
              refine WO_end ?_
              cases hx2
              refine WK.sub ?_ (WK.cls (fun _ h => h) hk3)
              exact ⟨rfl, rfl, rfl, trivial⟩
            · have hx2 := ifF hb11 hx2
              refine WO_pure tbok 1 [(1, .pointer (some ⟨b1, 0, none⟩)), (2, .int .i64 0), (26, .bool false), (27, .pointer (some ⟨b1, 2, none⟩))] rfl ⟨rfl, rfl, rfl, rfl, trivial⟩ ?_
              refine WO_loadB tbok 0 rfl rfl rfl rfl (fun _ h => h) rfl rfl ?_
              refine WO_pure tbok 3 [(1, .pointer (some ⟨b1, 0, none⟩)), (2, .int .i64 0), (31, .bool (decide (64 < p0_2)))] rfl ⟨rfl, rfl, rfl, trivial⟩ ?_
              refine WO_split (d := 31) (b := decide (64 < p0_2)) rfl (fun hb12 => ?_) (fun hb12 => ?_)
              · have hx2 := ifT hb12 hx2
                refine WO_pure tbok 13 [(1, .pointer (some ⟨b1, 0, none⟩)), (2, .int .i64 0), (44, .bool true)] rfl ⟨rfl, rfl, rfl, trivial⟩ ?_
                refine WO_end ?_
                cases hx2
                refine WK.sub ?_ (WK.cls (fun _ h => h) hk3)
                exact ⟨rfl, rfl, rfl, trivial⟩
              · have hx2 := ifF hb12 hx2
                refine WO_pure tbok 1 [(1, .pointer (some ⟨b1, 0, none⟩)), (2, .int .i64 0), (31, .bool false), (32, .pointer (some ⟨b1, 3, none⟩))] rfl ⟨rfl, rfl, rfl, rfl, trivial⟩ ?_
                refine WO_loadB tbok 0 rfl rfl rfl rfl (fun _ h => h) rfl rfl ?_
                refine WO_pure tbok 2 [(1, .pointer (some ⟨b1, 0, none⟩)), (2, .int .i64 0), (31, .bool false), (34, .int .i64 (p0_3.length : Int)), (35, .pointer (some ⟨b1, 0, none⟩))] rfl ⟨rfl, rfl, rfl, rfl, rfl, trivial⟩ ?_
                refine WO_loadB tbok 0 rfl rfl rfl rfl (fun _ h => h) rfl rfl ?_
                refine WO_pure tbok 1 [(1, .pointer (some ⟨b1, 0, none⟩)), (2, .int .i64 0), (31, .bool false), (34, .int .i64 (p0_3.length : Int)), (36, .int .i64 p0_0), (37, .pointer (some ⟨b1, 1, none⟩))] rfl ⟨rfl, rfl, rfl, rfl, rfl, rfl, trivial⟩ ?_
                refine WO_loadB tbok 0 rfl rfl rfl rfl (fun _ h => h) rfl rfl ?_
                refine WO_pure tbok 2 [(1, .pointer (some ⟨b1, 0, none⟩)), (2, .int .i64 0), (31, .bool false), (34, .int .i64 (p0_3.length : Int)), (39, .int .i64 (w64 (p0_0 * p0_1))), (40, .pointer (some ⟨b1, 2, none⟩))] rfl ⟨rfl, rfl, rfl, rfl, rfl, rfl, trivial⟩ ?_
                refine WO_loadB tbok 0 rfl rfl rfl rfl (fun _ h => h) rfl rfl ?_
                refine WO_pure tbok 3 [(1, .pointer (some ⟨b1, 0, none⟩)), (2, .int .i64 0), (44, .bool ((p0_3.length : Int) != (w64 ((w64 (p0_0 * p0_1)) * p0_2))))] rfl ⟨rfl, rfl, rfl, trivial⟩ ?_
                refine WO_end ?_
                cases hx2
                refine WK.sub ?_ (WK.cls (fun _ h => h) hk3)
                exact ⟨rfl, rfl, rfl, trivial⟩
theorem aggregate_grid_walk {m : Mu} {p0_0 : Int} {p0_1 : Int} {p0_2 : Int} {p0_3 : List Int} {p1 : Int} {p2 : Int} {a_p0_3 : Option Addr} {q_p0_3 c_p0_3 : Nat} (h_p0_3 : SlR (FE (I1 .i64)) 1 m (.slice a_p0_3 q_p0_3 c_p0_3) p0_3) {r : Int} (hm : aggregate_grid p0_0 p0_1 p0_2 p0_3 p1 p2 = some r) :
    Go.E.Spec Tryd.prog 17 [.agg #[.int .i64 p0_0, .int .i64 p0_1, .int .i64 p0_2, .slice a_p0_3 q_p0_3 c_p0_3], .int .i64 p1, .int .i64 p2] m (fun v _ _ => v = .int .i64 r) := by
  refine Spec_enter Tryd.func17 rfl rfl rfl (fun w0 => ?_)
  refine WK.sub (e' := [(0, .agg #[.int .i64 p0_0, .int .i64 p0_1, .int .i64 p0_2, .slice a_p0_3 q_p0_3 c_p0_3]), (1, .int .i64 p1), (2, .int .i64 p2)]) ⟨rfl, rfl, rfl, trivial⟩ ?_
  obtain rfl := SlR.qlen h_p0_3
  refine WK.sub (e' := [(0, .agg #[.int .i64 p0_0, .int .i64 p0_1, .int .i64 p0_2, .slice a_p0_3 p0_3.length c_p0_3]), (1, .int .i64 p1), (2, .int .i64 p2)]) ⟨rfl, rfl, rfl, trivial⟩ ?_
  unfold aggregate_grid at hm
  refine WK_seq ?_
  refine WK_region ?_
  refine WO_box [.int .i64 p0_0, .int .i64 p0_1, .int .i64 p0_2, .slice a_p0_3 p0_3.length c_p0_3] rfl rfl trivial rfl rfl rfl (fun b1 => ?_)
  refine WO.cls (C' := St w0 m m [[⟨b1, 24, [.int .i64 p0_0, .int .i64 p0_1, .int .i64 p0_2, .slice a_p0_3 p0_3.length c_p0_3]⟩]]) (fun _ h => h) ?_
  refine WO_pure tbok 1 [(1, .int .i64 p1), (2, .int .i64 p2), (3, .pointer (some ⟨b1, 0, none⟩)), (6, .int .i64 0)] rfl ⟨rfl, rfl, rfl, rfl, trivial⟩ ?_
  refine WO_end ?_
  refine WK_seq ?_
  refine WK_seq ?_
  refine WK_region ?_
  refine WO_loadB tbok 0 rfl rfl rfl rfl (fun _ h => h) rfl rfl ?_
  obtain ⟨y_1, hc2, hm⟩ := bind_some hm
  refine WO_call0 (.int .i64 y_1) rfl rfl trivial rfl rfl rfl rfl St_closed ⟨36, #[], #[], rfl, callable_36, fun w hw => ⟨_, hw.sat, census_Check_walk h_p0_3 hc2⟩⟩ ?_
  refine WO_pure tbok 1 [(1, .int .i64 p1), (2, .int .i64 p2), (6, .int .i64 0), (7, .int .i64 y_1)] rfl ⟨rfl, rfl, rfl, rfl, trivial⟩ ?_
  refine WO_end ?_
  refine WK_seq ?_
  refine WK_region ?_
  refine WO_pure tbok 2 [(1, .int .i64 p1), (2, .int .i64 p2), (6, .int .i64 0), (7, .int .i64 y_1), (11, .bool (y_1 != 0))] rfl ⟨rfl, rfl, rfl, rfl, rfl, trivial⟩ ?_
  refine WO_end ?_
  refine WK_cond (b := y_1 != 0) rfl (fun hb3 => ?_) (fun hb3 => ?_)
  · have hm := ifT hb3 hm
    refine WK_seq ?_
    refine WK_region ?_
    refine WO_pure tbok 2 [(1, .int .i64 p1), (2, .int .i64 p2), (6, .int .i64 y_1)] rfl ⟨rfl, rfl, rfl, trivial⟩ ?_
    refine WO_end ?_
    cases hm
    exact WK_ret (ret_out (L := []) (RLc_tmp rfl RLc_nil) (List.nil_sublist _) rfl)
  · have hm := ifF hb3 hm
    refine WK_skip ?_
    refine WK_seq ?_
    refine WK_region ?_
    refine WO_pure tbok 2 [(6, .int .i64 0), (13, .int .i64 p1), (14, .int .i64 p2)] rfl ⟨rfl, rfl, rfl, trivial⟩ ?_
    obtain ⟨y_2, hc4, hm⟩ := bind_some hm
    refine WO_call0 (.int .i64 y_2) rfl rfl trivial rfl rfl rfl rfl St_closed ⟨37, #[], #[], rfl, callable_37, fun w hw => ⟨_, hw.sat, aggregate_penalties_walk hc4⟩⟩ ?_
    refine WO_pure tbok 1 [(6, .int .i64 y_2)] rfl ⟨rfl, trivial⟩ ?_
    refine WO_end ?_
    cases hm
    exact WK_ret (ret_out (L := []) (RLc_tmp rfl RLc_nil) (List.nil_sublist _) rfl)
def aggregate_at_Q (r : List Int) : Value → Mu → List Ent → Prop := fun v m L => ∃ (a0 : Option Addr) (q0 c0 : Nat), v = .slice a0 q0 c0 ∧ SlR (FE (I1 .i64)) 1 m (.slice a0 q0 c0) r
theorem aggregate_at_walk {m : Mu} {p0_0 : Int} {p0_1 : Int} {p0_2 : Int} {p0_3 : List Int} {p1 : Int} {p2 : Int} {a_p0_3 : Option Addr} {q_p0_3 c_p0_3 : Nat} (h_p0_3 : SlR (FE (I1 .i64)) 1 m (.slice a_p0_3 q_p0_3 c_p0_3) p0_3) {r : List Int} (hm : aggregate_at p0_0 p0_1 p0_2 p0_3 p1 p2 = some r) :
    Go.E.Spec Tryd.prog 38 [.agg #[.int .i64 p0_0, .int .i64 p0_1, .int .i64 p0_2, .slice a_p0_3 q_p0_3 c_p0_3], .int .i64 p1, .int .i64 p2] m (aggregate_at_Q r) := by
  refine Spec_enter Tryd.func38 rfl rfl rfl (fun w0 => ?_)
  refine WK.sub (e' := [(0, .agg #[.int .i64 p0_0, .int .i64 p0_1, .int .i64 p0_2, .slice a_p0_3 q_p0_3 c_p0_3]), (1, .int .i64 p1), (2, .int .i64 p2)]) ⟨rfl, rfl, rfl, trivial⟩ ?_
  obtain rfl := SlR.qlen h_p0_3
  refine WK.sub (e' := [(0, .agg #[.int .i64 p0_0, .int .i64 p0_1, .int .i64 p0_2, .slice a_p0_3 p0_3.length c_p0_3]), (1, .int .i64 p1), (2, .int .i64 p2)]) ⟨rfl, rfl, rfl, trivial⟩ ?_
  unfold aggregate_at at hm
  refine WK_seq ?_
  refine WK_region ?_
  refine WO_box [.int .i64 p0_0, .int .i64 p0_1, .int .i64 p0_2, .slice a_p0_3 p0_3.length c_p0_3] rfl rfl trivial rfl rfl rfl (fun b1 => ?_)
  refine WO.cls (C' := St w0 m m [[⟨b1, 24, [.int .i64 p0_0, .int .i64 p0_1, .int .i64 p0_2, .slice a_p0_3 p0_3.length c_p0_3]⟩]]) (fun _ h => h) ?_
  refine WO_pure tbok 1 [(1, .int .i64 p1), (2, .int .i64 p2), (3, .pointer (some ⟨b1, 0, none⟩)), (6, .slice none 0 0)] rfl ⟨rfl, rfl, rfl, rfl, trivial⟩ ?_
  refine WO_end ?_
  refine WK_seq ?_
  refine WK_region ?_
  refine WO_pure tbok 2 [(1, .int .i64 p1), (3, .pointer (some ⟨b1, 0, none⟩)), (6, .slice none 0 0), (8, .int .i64 p2), (9, .pointer (some ⟨b1, 0, none⟩))] rfl ⟨rfl, rfl, rfl, rfl, rfl, trivial⟩ ?_
  refine WO_loadB tbok 0 rfl rfl rfl rfl (fun _ h => h) rfl rfl ?_
  refine WO_pure tbok 4 [(3, .pointer (some ⟨b1, 0, none⟩)), (6, .slice none 0 0), (13, .int .i64 (w64 ((w64 (p2 * p0_0)) + p1))), (14, .pointer (some ⟨b1, 2, none⟩))] rfl ⟨rfl, rfl, rfl, rfl, trivial⟩ ?_
  refine WO_loadB tbok 0 rfl rfl rfl rfl (fun _ h => h) rfl rfl ?_
  refine WO_pure tbok 2 [(3, .pointer (some ⟨b1, 0, none⟩)), (6, .slice none 0 0), (7, .int .i64 (w64 ((w64 ((w64 (p2 * p0_0)) + p1)) * p0_2)))] rfl ⟨rfl, rfl, rfl, trivial⟩ ?_
  refine WO_end ?_
  refine WK_seq ?_
  refine WK_region ?_
  refine WO_pure tbok 1 [(3, .pointer (some ⟨b1, 0, none⟩)), (6, .slice none 0 0), (7, .int .i64 (w64 ((w64 ((w64 (p2 * p0_0)) + p1)) * p0_2))), (17, .pointer (some ⟨b1, 3, none⟩))] rfl ⟨rfl, rfl, rfl, rfl, trivial⟩ ?_
  refine WO_loadB tbok 0 rfl rfl rfl rfl (fun _ h => h) rfl rfl ?_
  refine WO_pure tbok 3 [(3, .pointer (some ⟨b1, 0, none⟩)), (6, .slice none 0 0), (7, .int .i64 (w64 ((w64 ((w64 (p2 * p0_0)) + p1)) * p0_2))), (18, .slice a_p0_3 p0_3.length c_p0_3), (19, .int .i64 (w64 ((w64 ((w64 (p2 * p0_0)) + p1)) * p0_2))), (20, .int .i64 (w64 ((w64 ((w64 (p2 * p0_0)) + p1)) * p0_2))), (21, .pointer (some ⟨b1, 2, none⟩))] rfl ⟨rfl, rfl, rfl, rfl, rfl, rfl, rfl, trivial⟩ ?_
  refine WO_loadB tbok 0 rfl rfl rfl rfl (fun _ h => h) rfl rfl ?_
  refine WO_pure tbok 3 [(6, .slice none 0 0), (18, .slice a_p0_3 p0_3.length c_p0_3), (19, .int .i64 (w64 ((w64 ((w64 (p2 * p0_0)) + p1)) * p0_2))), (23, .int .i64 (w64 ((w64 ((w64 ((w64 (p2 * p0_0)) + p1)) * p0_2)) + p0_2))), (24, .int .i64 (w64 ((w64 ((w64 (p2 * p0_0)) + p1)) * p0_2))), (25, .pointer (some ⟨b1, 2, none⟩))] rfl ⟨rfl, rfl, rfl, rfl, rfl, rfl, trivial⟩ ?_
  refine WO_loadB tbok 0 rfl rfl rfl rfl (fun _ h => h) rfl rfl ?_
  refine WO_pure tbok 1 [(6, .slice none 0 0), (18, .slice a_p0_3 p0_3.length c_p0_3), (19, .int .i64 (w64 ((w64 ((w64 (p2 * p0_0)) + p1)) * p0_2))), (23, .int .i64 (w64 ((w64 ((w64 ((w64 (p2 * p0_0)) + p1)) * p0_2)) + p0_2))), (27, .int .i64 (w64 ((w64 ((w64 ((w64 (p2 * p0_0)) + p1)) * p0_2)) + p0_2)))] rfl ⟨rfl, rfl, rfl, rfl, rfl, trivial⟩ ?_
  obtain ⟨hc2, hm⟩ := chk_some hm
  have hc2 : 0 ≤ (w64 ((w64 ((w64 (p2 * p0_0)) + p1)) * p0_2) : Int) ∧ (w64 ((w64 ((w64 (p2 * p0_0)) + p1)) * p0_2) : Int) ≤ (w64 ((w64 ((w64 ((w64 (p2 * p0_0)) + p1)) * p0_2)) + p0_2) : Int) ∧ (w64 ((w64 ((w64 ((w64 (p2 * p0_0)) + p1)) * p0_2)) + p0_2) : Int) ≤ (w64 ((w64 ((w64 ((w64 (p2 * p0_0)) + p1)) * p0_2)) + p0_2) : Int) ∧ (w64 ((w64 ((w64 ((w64 (p2 * p0_0)) + p1)) * p0_2)) + p0_2) : Int) ≤ (p0_3.length : Int) := hc2
  have hz6 : SlR (FE (I1 .i64)) 1 m (.slice a_p0_3 p0_3.length c_p0_3) p0_3 := h_p0_3
  refine WO_slice tbok (some (w64 ((w64 ((w64 (p2 * p0_0)) + p1)) * p0_2) : Int)) (some (w64 ((w64 ((w64 ((w64 (p2 * p0_0)) + p1)) * p0_2)) + p0_2) : Int)) (some (w64 ((w64 ((w64 ((w64 (p2 * p0_0)) + p1)) * p0_2)) + p0_2) : Int)) (w64 ((w64 ((w64 (p2 * p0_0)) + p1)) * p0_2) : Int).toNat (w64 ((w64 ((w64 ((w64 (p2 * p0_0)) + p1)) * p0_2)) + p0_2) : Int).toNat rfl rfl rfl rfl rfl rfl rfl rfl rfl rfl rfl hz6 (by simp only [Option.getD_some] <;> omega) (by simp only [Option.getD_some] <;> omega) (fun q hq => by cases hq; omega) (by omega) (by omega) (fun _ => rfl) (fun a3 c4 h5 => ?_)
  refine WO_pure tbok 1 [(6, .slice a3 (((p0_3.take (w64 ((w64 ((w64 ((w64 (p2 * p0_0)) + p1)) * p0_2)) + p0_2) : Int).toNat).drop (w64 ((w64 ((w64 (p2 * p0_0)) + p1)) * p0_2) : Int).toNat).length) c4)] rfl ⟨rfl, trivial⟩ ?_
  refine WO_end ?_
  cases hm
  exact WK_ret (ret_out (L := []) (RLc_tmp rfl RLc_nil) (List.nil_sublist _) ⟨a3, (((p0_3.take (w64 ((w64 ((w64 ((w64 (p2 * p0_0)) + p1)) * p0_2)) + p0_2) : Int).toNat).drop (w64 ((w64 ((w64 (p2 * p0_0)) + p1)) * p0_2) : Int).toNat).length), c4, rfl, h5⟩)
def aggregate_path_Q (r : Int × Int × Int × List Int) : Value → List Ent → Prop := fun v L => ∃ (a0 : Option Addr) (q0 c0 : Nat), v = .agg #[.int .i64 r.1, .int .i64 r.2.1, .int .i64 r.2.2.1, .slice a0 q0 c0] ∧ OwnE 3 1 (I1 .i64) (.slice a0 q0 c0) r.2.2.2 L
theorem aggregate_path_walk {m : Mu} {p0_0 : Int} {p0_1 : Int} {p0_2 : Int} {p0_3 : List Int} {p1 : Int} {p2 : Int} {p3 : Int} {a_p0_3 : Option Addr} {q_p0_3 c_p0_3 : Nat} {fr0 : Nat × Nat} {tg0 : TypeId} (hg0 : m 0 = some (.cells ([.int .i64 1, .int .i64 0, .int .i64 (-1), .int .i64 0, .int .i64 0, .int .i64 1, .int .i64 0, .int .i64 (-1), .int .i64 1, .int .i64 1, .int .i64 (-1), .int .i64 (-1), .int .i64 1, .int .i64 (-1), .int .i64 (-1), .int .i64 1] : List Value).toArray tg0 fr0)) (h_p0_3 : SlR (FE (I1 .i64)) 1 m (.slice a_p0_3 q_p0_3 c_p0_3) p0_3) {r : Int × Int × Int × List Int} (hm : aggregate_path p0_0 p0_1 p0_2 p0_3 p1 p2 p3 = some r) :
    Go.E.Spec Tryd.prog 18 [.agg #[.int .i64 p0_0, .int .i64 p0_1, .int .i64 p0_2, .slice a_p0_3 q_p0_3 c_p0_3], .int .i64 p1, .int .i64 p2, .int .i64 p3] m (fun v _ L => aggregate_path_Q r v L) := by
  refine Spec_enter Tryd.func18 rfl rfl rfl (fun w0 => ?_)
  refine WK.sub (e' := [(0, .agg #[.int .i64 p0_0, .int .i64 p0_1, .int .i64 p0_2, .slice a_p0_3 q_p0_3 c_p0_3]), (1, .int .i64 p1), (2, .int .i64 p2), (3, .int .i64 p3)]) ⟨rfl, rfl, rfl, rfl, trivial⟩ ?_
  obtain rfl := SlR.qlen h_p0_3
  refine WK.sub (e' := [(0, .agg #[.int .i64 p0_0, .int .i64 p0_1, .int .i64 p0_2, .slice a_p0_3 p0_3.length c_p0_3]), (1, .int .i64 p1), (2, .int .i64 p2), (3, .int .i64 p3)]) ⟨rfl, rfl, rfl, rfl, trivial⟩ ?_
  unfold aggregate_path at hm
  refine WK_seq ?_
  refine WK_region ?_
  refine WO_box [.int .i64 p0_0, .int .i64 p0_1, .int .i64 p0_2, .slice a_p0_3 p0_3.length c_p0_3] rfl rfl trivial rfl rfl rfl (fun b1 => ?_)
  refine WO.cls (C' := St w0 m m [[⟨b1, 24, [.int .i64 p0_0, .int .i64 p0_1, .int .i64 p0_2, .slice a_p0_3 p0_3.length c_p0_3]⟩]]) (fun _ h => h) ?_
  refine WO_alloc tbok [.int .i64 0, .int .i64 0, .int .i64 0, .slice none 0 0] rfl rfl trivial rfl rfl rfl rfl (fun b2 => ?_)
  refine WO.cls (C' := St w0 m m [[⟨b1, 24, [.int .i64 p0_0, .int .i64 p0_1, .int .i64 p0_2, .slice a_p0_3 p0_3.length c_p0_3]⟩], [⟨b2, 24, [.int .i64 0, .int .i64 0, .int .i64 0, .slice none 0 0]⟩]]) (fun _ h => h) ?_
  refine WO_end ?_
  refine WK_seq ?_
  obtain ⟨⟨l_1, s_2, s_3, s_4⟩, hx7, hm⟩ := bind_some hm
  refine WK_join (β := Option Addr × Nat × List Ent × Nat) (fun p => OwnE 3 1 (I1 .i64) (.slice p.1 ((l_1).length) p.2.1) l_1 p.2.2.1) (fun p => [(1, .int .i64 p1), (2, .int .i64 p2), (3, .int .i64 p3), (4, .pointer (some ⟨b1, 0, none⟩)), (8, .pointer (some ⟨b2, 0, none⟩)), (9, .pointer (some ⟨p.2.2.2, 0, none⟩))]) (fun p => St w0 m m [[⟨b1, 24, [.int .i64 p0_0, .int .i64 p0_1, .int .i64 p0_2, .slice a_p0_3 p0_3.length c_p0_3]⟩], [⟨b2, 24, [.int .i64 0, .int .i64 0, .int .i64 0, .slice none 0 0]⟩], [⟨p.2.2.2, 24, [.int .i64 s_2, .int .i64 s_3, .int .i64 s_4, .slice p.1 ((l_1).length) p.2.1]⟩], p.2.2.1]) ?_ (fun hk8 => ?_)
  · rintro ⟨a3, c4, L5, b6⟩ hL5
    refine WK.sub (e' := [(1, .int .i64 p1), (2, .int .i64 p2), (3, .int .i64 p3), (4, .pointer (some ⟨b1, 0, none⟩)), (8, .pointer (some ⟨b2, 0, none⟩)), (9, .pointer (some ⟨b6, 0, none⟩))]) ⟨rfl, rfl, rfl, rfl, rfl, rfl, trivial⟩ (WK.cls (C' := St w0 m m [[⟨b1, 24, [.int .i64 p0_0, .int .i64 p0_1, .int .i64 p0_2, .slice a_p0_3 p0_3.length c_p0_3]⟩], [⟨b2, 24, [.int .i64 0, .int .i64 0, .int .i64 0, .slice none 0 0]⟩], [⟨b6, 24, [.int .i64 s_2, .int .i64 s_3, .int .i64 s_4, .slice a3 ((l_1).length) c4]⟩], L5]) (fun _ h => h) ?_)
    refine WK_seq ?_
    refine WK_draw 10 [0, 1, 2, 3, 4, 5, 6, 7, 8, 9] follows_ok (by kernel_rfl) St_closed ?_
    refine WO_pure tbok 1 [(1, .int .i64 p1), (2, .int .i64 p2), (3, .int .i64 p3), (4, .pointer (some ⟨b1, 0, none⟩)), (8, .pointer (some ⟨b2, 0, none⟩)), (9, .pointer (some ⟨b6, 0, none⟩)), (34, .int .i64 p3)] rfl ⟨rfl, rfl, rfl, rfl, rfl, rfl, rfl, trivial⟩ ?_
    obtain ⟨hc9, hm⟩ := chk_some hm
    refine WO_indexG tbok rfl rfl rfl rfl rfl rfl rfl rfl hc9 ?_
    refine WO_pure tbok 1 [(1, .int .i64 p1), (2, .int .i64 p2), (3, .int .i64 p3), (4, .pointer (some ⟨b1, 0, none⟩)), (8, .pointer (some ⟨b2, 0, none⟩)), (9, .pointer (some ⟨b6, 0, none⟩)), (36, .pointer (some ⟨0, (0 + p3.toNat * 2), none⟩))] rfl ⟨rfl, rfl, rfl, rfl, rfl, rfl, rfl, trivial⟩ ?_
    refine WO_loadM tbok (v := .int .i64 (([1, 0, -1, 0, 0, 1, 0, -1, 1, 1, -1, -1, 1, -1, -1, 1] : List Int).getD (0 + p3.toNat * 2) (0 : Int))) rfl rfl rfl rfl (fun _ h => St.sat h) hg0 (mget (q := .i64) (getD_some (xs := ([1, 0, -1, 0, 0, 1, 0, -1, 1, 1, -1, -1, 1, -1, -1, 1] : List Int)) (0 : Int) (by have := hc9; simp only [List.length_cons, List.length_nil]; omega))) ?_
    refine WO_pure tbok 1 [(1, .int .i64 p1), (2, .int .i64 p2), (4, .pointer (some ⟨b1, 0, none⟩)), (8, .pointer (some ⟨b2, 0, none⟩)), (9, .pointer (some ⟨b6, 0, none⟩)), (37, .int .i64 (([1, 0, -1, 0, 0, 1, 0, -1, 1, 1, -1, -1, 1, -1, -1, 1] : List Int).getD (0 + p3.toNat * 2) (0 : Int))), (38, .int .i64 p3)] rfl ⟨rfl, rfl, rfl, rfl, rfl, rfl, rfl, trivial⟩ ?_
    obtain ⟨hc10, hm⟩ := chk_some hm
    refine WO_indexG tbok rfl rfl rfl rfl rfl rfl rfl rfl hc10 ?_
    refine WO_pure tbok 1 [(1, .int .i64 p1), (2, .int .i64 p2), (4, .pointer (some ⟨b1, 0, none⟩)), (8, .pointer (some ⟨b2, 0, none⟩)), (9, .pointer (some ⟨b6, 0, none⟩)), (37, .int .i64 (([1, 0, -1, 0, 0, 1, 0, -1, 1, 1, -1, -1, 1, -1, -1, 1] : List Int).getD (0 + p3.toNat * 2) (0 : Int))), (40, .pointer (some ⟨0, ((0 + p3.toNat * 2) + 1), none⟩))] rfl ⟨rfl, rfl, rfl, rfl, rfl, rfl, rfl, trivial⟩ ?_
    refine WO_loadM tbok (v := .int .i64 (([1, 0, -1, 0, 0, 1, 0, -1, 1, 1, -1, -1, 1, -1, -1, 1] : List Int).getD ((0 + p3.toNat * 2) + 1) (0 : Int))) rfl rfl rfl rfl (fun _ h => St.sat h) hg0 (mget (q := .i64) (getD_some (xs := ([1, 0, -1, 0, 0, 1, 0, -1, 1, 1, -1, -1, 1, -1, -1, 1] : List Int)) (0 : Int) (by have := hc10; simp only [List.length_cons, List.length_nil]; omega))) ?_
    refine WO_pure tbok 2 [(1, .int .i64 p1), (2, .int .i64 p2), (4, .pointer (some ⟨b1, 0, none⟩)), (8, .pointer (some ⟨b2, 0, none⟩)), (9, .pointer (some ⟨b6, 0, none⟩)), (10, .int .i64 (([1, 0, -1, 0, 0, 1, 0, -1, 1, 1, -1, -1, 1, -1, -1, 1] : List Int).getD (0 + p3.toNat * 2) (0 : Int))), (11, .int .i64 (([1, 0, -1, 0, 0, 1, 0, -1, 1, 1, -1, -1, 1, -1, -1, 1] : List Int).getD ((0 + p3.toNat * 2) + 1) (0 : Int)))] rfl ⟨rfl, rfl, rfl, rfl, rfl, rfl, rfl, trivial⟩ ?_
    refine WO_tail ?_
    refine WO_end ?_
    refine WK_seq ?_
    refine WK_region ?_
    refine WO_pure tbok 1 [(1, .int .i64 p1), (2, .int .i64 p2), (4, .pointer (some ⟨b1, 0, none⟩)), (8, .pointer (some ⟨b2, 0, none⟩)), (9, .pointer (some ⟨b6, 0, none⟩)), (10, .int .i64 (([1, 0, -1, 0, 0, 1, 0, -1, 1, 1, -1, -1, 1, -1, -1, 1] : List Int).getD (0 + p3.toNat * 2) (0 : Int))), (11, .int .i64 (([1, 0, -1, 0, 0, 1, 0, -1, 1, 1, -1, -1, 1, -1, -1, 1] : List Int).getD ((0 + p3.toNat * 2) + 1) (0 : Int))), (42, .pointer (some ⟨b1, 0, none⟩))] rfl ⟨rfl, rfl, rfl, rfl, rfl, rfl, rfl, rfl, trivial⟩ ?_
    refine WO_loadB tbok 0 rfl rfl rfl rfl (fun _ h => h) rfl rfl ?_
    refine WO_pure tbok 1 [(1, .int .i64 p1), (2, .int .i64 p2), (4, .pointer (some ⟨b1, 0, none⟩)), (8, .pointer (some ⟨b2, 0, none⟩)), (9, .pointer (some ⟨b6, 0, none⟩)), (10, .int .i64 (([1, 0, -1, 0, 0, 1, 0, -1, 1, 1, -1, -1, 1, -1, -1, 1] : List Int).getD (0 + p3.toNat * 2) (0 : Int))), (11, .int .i64 (([1, 0, -1, 0, 0, 1, 0, -1, 1, 1, -1, -1, 1, -1, -1, 1] : List Int).getD ((0 + p3.toNat * 2) + 1) (0 : Int))), (43, .int .i64 p0_0), (44, .pointer (some ⟨b1, 1, none⟩))] rfl ⟨rfl, rfl, rfl, rfl, rfl, rfl, rfl, rfl, rfl, trivial⟩ ?_
    refine WO_loadB tbok 0 rfl rfl rfl rfl (fun _ h => h) rfl rfl ?_
    refine WO_pure tbok 2 [(1, .int .i64 p1), (2, .int .i64 p2), (4, .pointer (some ⟨b1, 0, none⟩)), (8, .pointer (some ⟨b2, 0, none⟩)), (9, .pointer (some ⟨b6, 0, none⟩)), (10, .int .i64 (([1, 0, -1, 0, 0, 1, 0, -1, 1, 1, -1, -1, 1, -1, -1, 1] : List Int).getD (0 + p3.toNat * 2) (0 : Int))), (11, .int .i64 (([1, 0, -1, 0, 0, 1, 0, -1, 1, 1, -1, -1, 1, -1, -1, 1] : List Int).getD ((0 + p3.toNat * 2) + 1) (0 : Int))), (12, .int .i64 (w64 (p0_0 * p0_1)))] rfl ⟨rfl, rfl, rfl, rfl, rfl, rfl, rfl, rfl, trivial⟩ ?_
    refine WO_end ?_
    refine WK_seq ?_
    refine WK_seq ?_
    refine WK_region ?_
    refine WO_pure tbok 2 [(1, .int .i64 p1), (2, .int .i64 p2), (4, .pointer (some ⟨b1, 0, none⟩)), (8, .pointer (some ⟨b2, 0, none⟩)), (9, .pointer (some ⟨b6, 0, none⟩)), (10, .int .i64 (([1, 0, -1, 0, 0, 1, 0, -1, 1, 1, -1, -1, 1, -1, -1, 1] : List Int).getD (0 + p3.toNat * 2) (0 : Int))), (11, .int .i64 (([1, 0, -1, 0, 0, 1, 0, -1, 1, 1, -1, -1, 1, -1, -1, 1] : List Int).getD ((0 + p3.toNat * 2) + 1) (0 : Int))), (12, .int .i64 (w64 (p0_0 * p0_1))), (47, .int .i64 (w64 (p0_0 * p0_1))), (48, .int .i64 0)] rfl ⟨rfl, rfl, rfl, rfl, rfl, rfl, rfl, rfl, rfl, rfl, trivial⟩ ?_
    refine WO_end ?_
    obtain ⟨x17, hx18, hm⟩ := bind_some hm
    refine WK_join (β := (List Int) × (Mu × List Ent)) (fun p => p.1 = x17 ∧ Le m p.2.1 ∧ OwnE 3 1 (I1 .i64) (.slice a3 ((l_1).length) c4) p.1 p.2.2) (fun p => [(8, .pointer (some ⟨b2, 0, none⟩)), (9, .pointer (some ⟨b6, 0, none⟩))]) (fun p => St w0 m p.2.1 [[⟨b1, 24, [.int .i64 p0_0, .int .i64 p0_1, .int .i64 p0_2, .slice a_p0_3 p0_3.length c_p0_3]⟩], [⟨b2, 24, [.int .i64 0, .int .i64 0, .int .i64 0, .slice none 0 0]⟩], [⟨b6, 24, [.int .i64 s_2, .int .i64 s_3, .int .i64 s_4, .slice a3 ((l_1).length) c4]⟩], p.2.2]) ?_ (fun hk19 => ?_)
    · rintro ⟨l_7, ⟨m14, L16⟩⟩ ⟨hq25, hle15, hL16⟩
      subst hq25
      refine WK.sub (e' := [(8, .pointer (some ⟨b2, 0, none⟩)), (9, .pointer (some ⟨b6, 0, none⟩))]) ⟨rfl, rfl, trivial⟩ (WK.cls (C' := St w0 m m14 [[⟨b1, 24, [.int .i64 p0_0, .int .i64 p0_1, .int .i64 p0_2, .slice a_p0_3 p0_3.length c_p0_3]⟩], [⟨b2, 24, [.int .i64 0, .int .i64 0, .int .i64 0, .slice none 0 0]⟩], [⟨b6, 24, [.int .i64 s_2, .int .i64 s_3, .int .i64 s_4, .slice a3 ((l_1).length) c4]⟩], L16]) (fun _ h => h) ?_)
      refine WK_seq ?_
      refine WK_region ?_
      refine WO_loadB tbok 2 rfl rfl rfl rfl (fun _ h => h) rfl rfl ?_
      refine WO_storeB tbok 1 [.int .i64 s_2, .int .i64 s_3, .int .i64 s_4, .slice a3 ((l_1).length) c4] rfl rfl rfl rfl rfl rfl rfl ?_
      refine WO.cls (C' := St w0 m m14 [[⟨b1, 24, [.int .i64 p0_0, .int .i64 p0_1, .int .i64 p0_2, .slice a_p0_3 p0_3.length c_p0_3]⟩], [⟨b2, 24, [.int .i64 s_2, .int .i64 s_3, .int .i64 s_4, .slice a3 ((l_1).length) c4]⟩], [⟨b6, 24, [.int .i64 s_2, .int .i64 s_3, .int .i64 s_4, .slice a3 ((l_1).length) c4]⟩], L16]) (fun _ h => h) ?_
      refine WO_end ?_
      cases hm
      exact WK_ret (ret_out (L := L16) (RLc_cell tbok 1 rfl rfl rfl RLc_nil) (seg_sub 3 rfl) ⟨a3, _, c4, rfl, hL16⟩)
    · refine WK_block ?_
      refine WK_loop (S := List Int × Int) (G := Mu × List Ent) (fun s => aggregate_path_s1 p0_0 p0_1 p0_2 p0_3 p1 p2 p3 s_2 s_4 s.1 s.2) (fun s g => [(1, .int .i64 p1), (2, .int .i64 p2), (4, .pointer (some ⟨b1, 0, none⟩)), (8, .pointer (some ⟨b2, 0, none⟩)), (9, .pointer (some ⟨b6, 0, none⟩)), (10, .int .i64 (([1, 0, -1, 0, 0, 1, 0, -1, 1, 1, -1, -1, 1, -1, -1, 1] : List Int).getD (0 + p3.toNat * 2) (0 : Int))), (11, .int .i64 (([1, 0, -1, 0, 0, 1, 0, -1, 1, 1, -1, -1, 1, -1, -1, 1] : List Int).getD ((0 + p3.toNat * 2) + 1) (0 : Int))), (12, .int .i64 (w64 (p0_0 * p0_1))), (47, .int .i64 (w64 (p0_0 * p0_1))), (48, .int .i64 s.2)]) (fun s g => St w0 m g.1 [[⟨b1, 24, [.int .i64 p0_0, .int .i64 p0_1, .int .i64 p0_2, .slice a_p0_3 p0_3.length c_p0_3]⟩], [⟨b2, 24, [.int .i64 0, .int .i64 0, .int .i64 0, .slice none 0 0]⟩], [⟨b6, 24, [.int .i64 s_2, .int .i64 s_3, .int .i64 s_4, .slice a3 ((l_1).length) c4]⟩], g.2]) (fun s g => Le m g.1 ∧ OwnE 3 1 (I1 .i64) (.slice a3 ((l_1).length) c4) s.1 g.2) FUEL (l_1, 0) (m, L5) x17 hx18 ⟨(Le.refl _), hL5⟩ ⟨rfl, rfl, rfl, rfl, rfl, rfl, rfl, rfl, rfl, rfl, trivial⟩ (fun _ h => h) ?_
      rintro ⟨l_5, s_6⟩ ⟨m11, L13⟩ o21 fl22 hm20 ⟨hle12, hL13⟩ hn23 hd24
      have hm20 : aggregate_path_s1 p0_0 p0_1 p0_2 p0_3 p1 p2 p3 s_2 s_4 l_5 s_6 = some o21 := hm20
      unfold aggregate_path_s1 at hm20
      refine WK.sub (e' := [(1, .int .i64 p1), (2, .int .i64 p2), (4, .pointer (some ⟨b1, 0, none⟩)), (8, .pointer (some ⟨b2, 0, none⟩)), (9, .pointer (some ⟨b6, 0, none⟩)), (10, .int .i64 (([1, 0, -1, 0, 0, 1, 0, -1, 1, 1, -1, -1, 1, -1, -1, 1] : List Int).getD (0 + p3.toNat * 2) (0 : Int))), (11, .int .i64 (([1, 0, -1, 0, 0, 1, 0, -1, 1, 1, -1, -1, 1, -1, -1, 1] : List Int).getD ((0 + p3.toNat * 2) + 1) (0 : Int))), (12, .int .i64 (w64 (p0_0 * p0_1))), (47, .int .i64 (w64 (p0_0 * p0_1))), (48, .int .i64 s_6)]) ⟨rfl, rfl, rfl, rfl, rfl, rfl, rfl, rfl, rfl, rfl, trivial⟩ (WK.cls (C' := St w0 m m11 [[⟨b1, 24, [.int .i64 p0_0, .int .i64 p0_1, .int .i64 p0_2, .slice a_p0_3 p0_3.length c_p0_3]⟩], [⟨b2, 24, [.int .i64 0, .int .i64 0, .int .i64 0, .slice none 0 0]⟩], [⟨b6, 24, [.int .i64 s_2, .int .i64 s_3, .int .i64 s_4, .slice a3 ((l_1).length) c4]⟩], L13]) (fun _ h => h) ?_)
      refine WK_seq ?_
      refine WK_region ?_
      refine WO_pure tbok 1 [(1, .int .i64 p1), (2, .int .i64 p2), (4, .pointer (some ⟨b1, 0, none⟩)), (8, .pointer (some ⟨b2, 0, none⟩)), (9, .pointer (some ⟨b6, 0, none⟩)), (10, .int .i64 (([1, 0, -1, 0, 0, 1, 0, -1, 1, 1, -1, -1, 1, -1, -1, 1] : List Int).getD (0 + p3.toNat * 2) (0 : Int))), (11, .int .i64 (([1, 0, -1, 0, 0, 1, 0, -1, 1, 1, -1, -1, 1, -1, -1, 1] : List Int).getD ((0 + p3.toNat * 2) + 1) (0 : Int))), (12, .int .i64 (w64 (p0_0 * p0_1))), (47, .int .i64 (w64 (p0_0 * p0_1))), (48, .int .i64 s_6), (49, .bool (decide (s_6 < (w64 (p0_0 * p0_1)))))] rfl ⟨rfl, rfl, rfl, rfl, rfl, rfl, rfl, rfl, rfl, rfl, rfl, trivial⟩ ?_
      refine WO_end ?_
      refine WK_seq ?_
      refine WK_cond (b := decide (s_6 < (w64 (p0_0 * p0_1)))) rfl (fun hb26 => ?_) (fun hb26 => ?_)
      · have hm20 := ifT hb26 hm20
        refine WK_skip ?_
        refine WK_seq ?_
        refine WK_block ?_
        refine WK_seq ?_
        refine WK_region ?_
        refine WO_pure tbok 2 [(1, .int .i64 p1), (2, .int .i64 p2), (4, .pointer (some ⟨b1, 0, none⟩)), (8, .pointer (some ⟨b2, 0, none⟩)), (9, .pointer (some ⟨b6, 0, none⟩)), (10, .int .i64 (([1, 0, -1, 0, 0, 1, 0, -1, 1, 1, -1, -1, 1, -1, -1, 1] : List Int).getD (0 + p3.toNat * 2) (0 : Int))), (11, .int .i64 (([1, 0, -1, 0, 0, 1, 0, -1, 1, 1, -1, -1, 1, -1, -1, 1] : List Int).getD ((0 + p3.toNat * 2) + 1) (0 : Int))), (12, .int .i64 (w64 (p0_0 * p0_1))), (13, .int .i64 s_6), (47, .int .i64 (w64 (p0_0 * p0_1))), (48, .int .i64 s_6)] rfl ⟨rfl, rfl, rfl, rfl, rfl, rfl, rfl, rfl, rfl, rfl, rfl, trivial⟩ ?_
        refine WO_end ?_
        refine WK_seq ?_
        refine WK_seq ?_
        obtain ⟨s_8, hx27, hm20⟩ := bind_some hm20
        refine WK_meet [(1, .int .i64 p1), (2, .int .i64 p2), (4, .pointer (some ⟨b1, 0, none⟩)), (8, .pointer (some ⟨b2, 0, none⟩)), (9, .pointer (some ⟨b6, 0, none⟩)), (10, .int .i64 (([1, 0, -1, 0, 0, 1, 0, -1, 1, 1, -1, -1, 1, -1, -1, 1] : List Int).getD (0 + p3.toNat * 2) (0 : Int))), (11, .int .i64 (([1, 0, -1, 0, 0, 1, 0, -1, 1, 1, -1, -1, 1, -1, -1, 1] : List Int).getD ((0 + p3.toNat * 2) + 1) (0 : Int))), (12, .int .i64 (w64 (p0_0 * p0_1))), (13, .int .i64 s_6), (47, .int .i64 (w64 (p0_0 * p0_1))), (48, .int .i64 s_6), (60, .bool s_8)] (St w0 m m11 [[⟨b1, 24, [.int .i64 p0_0, .int .i64 p0_1, .int .i64 p0_2, .slice a_p0_3 p0_3.length c_p0_3]⟩], [⟨b2, 24, [.int .i64 0, .int .i64 0, .int .i64 0, .slice none 0 0]⟩], [⟨b6, 24, [.int .i64 s_2, .int .i64 s_3, .int .i64 s_4, .slice a3 ((l_1).length) c4]⟩], L13]) ?_ (fun hk28 => ?_)
        · obtain ⟨s_9, hx29, hm20⟩ := bind_some hm20
          refine WK_meet [(1, .int .i64 p1), (2, .int .i64 p2), (4, .pointer (some ⟨b1, 0, none⟩)), (8, .pointer (some ⟨b2, 0, none⟩)), (9, .pointer (some ⟨b6, 0, none⟩)), (10, .int .i64 (([1, 0, -1, 0, 0, 1, 0, -1, 1, 1, -1, -1, 1, -1, -1, 1] : List Int).getD (0 + p3.toNat * 2) (0 : Int))), (11, .int .i64 (([1, 0, -1, 0, 0, 1, 0, -1, 1, 1, -1, -1, 1, -1, -1, 1] : List Int).getD ((0 + p3.toNat * 2) + 1) (0 : Int))), (12, .int .i64 (w64 (p0_0 * p0_1))), (13, .int .i64 s_9), (47, .int .i64 (w64 (p0_0 * p0_1))), (48, .int .i64 s_6)] (St w0 m m11 [[⟨b1, 24, [.int .i64 p0_0, .int .i64 p0_1, .int .i64 p0_2, .slice a_p0_3 p0_3.length c_p0_3]⟩], [⟨b2, 24, [.int .i64 0, .int .i64 0, .int .i64 0, .slice none 0 0]⟩], [⟨b6, 24, [.int .i64 s_2, .int .i64 s_3, .int .i64 s_4, .slice a3 ((l_1).length) c4]⟩], L13]) ?_ (fun hk30 => ?_)
          · refine WK_seq ?_
            refine WK_draw 10 [0, 1, 2, 3, 4, 5, 6, 7, 8, 9] follows_ok (by kernel_rfl) St_closed ?_
            refine WO_pure tbok 2 [(1, .int .i64 p1), (2, .int .i64 p2), (4, .pointer (some ⟨b1, 0, none⟩)), (8, .pointer (some ⟨b2, 0, none⟩)), (9, .pointer (some ⟨b6, 0, none⟩)), (10, .int .i64 (([1, 0, -1, 0, 0, 1, 0, -1, 1, 1, -1, -1, 1, -1, -1, 1] : List Int).getD (0 + p3.toNat * 2) (0 : Int))), (11, .int .i64 (([1, 0, -1, 0, 0, 1, 0, -1, 1, 1, -1, -1, 1, -1, -1, 1] : List Int).getD ((0 + p3.toNat * 2) + 1) (0 : Int))), (12, .int .i64 (w64 (p0_0 * p0_1))), (13, .int .i64 s_9), (47, .int .i64 (w64 (p0_0 * p0_1))), (48, .int .i64 s_6), (65, .int .i64 s_9), (66, .pointer (some ⟨b1, 0, none⟩))] rfl ⟨rfl, rfl, rfl, rfl, rfl, rfl, rfl, rfl, rfl, rfl, rfl, rfl, rfl, trivial⟩ ?_
            refine WO_loadB tbok 0 rfl rfl rfl rfl (fun _ h => h) rfl rfl ?_
            obtain ⟨hc31, hm20⟩ := chk_some hm20
            refine WO_rem rfl rfl rfl rfl rfl hc31 ?_
            refine WO_pure tbok 2 [(1, .int .i64 p1), (2, .int .i64 p2), (4, .pointer (some ⟨b1, 0, none⟩)), (8, .pointer (some ⟨b2, 0, none⟩)), (9, .pointer (some ⟨b6, 0, none⟩)), (10, .int .i64 (([1, 0, -1, 0, 0, 1, 0, -1, 1, 1, -1, -1, 1, -1, -1, 1] : List Int).getD (0 + p3.toNat * 2) (0 : Int))), (11, .int .i64 (([1, 0, -1, 0, 0, 1, 0, -1, 1, 1, -1, -1, 1, -1, -1, 1] : List Int).getD ((0 + p3.toNat * 2) + 1) (0 : Int))), (12, .int .i64 (w64 (p0_0 * p0_1))), (47, .int .i64 (w64 (p0_0 * p0_1))), (48, .int .i64 s_6), (68, .int .i64 (Int.tmod s_9 p0_0)), (69, .int .i64 s_9), (70, .pointer (some ⟨b1, 0, none⟩))] rfl ⟨rfl, rfl, rfl, rfl, rfl, rfl, rfl, rfl, rfl, rfl, rfl, rfl, rfl, trivial⟩ ?_
            refine WO_loadB tbok 0 rfl rfl rfl rfl (fun _ h => h) rfl rfl ?_
            obtain ⟨hc32, hm20⟩ := chk_some hm20
            refine WO_quo rfl rfl rfl rfl rfl hc32 ?_
            refine WO_pure tbok 2 [(1, .int .i64 p1), (2, .int .i64 p2), (4, .pointer (some ⟨b1, 0, none⟩)), (8, .pointer (some ⟨b2, 0, none⟩)), (9, .pointer (some ⟨b6, 0, none⟩)), (10, .int .i64 (([1, 0, -1, 0, 0, 1, 0, -1, 1, 1, -1, -1, 1, -1, -1, 1] : List Int).getD (0 + p3.toNat * 2) (0 : Int))), (11, .int .i64 (([1, 0, -1, 0, 0, 1, 0, -1, 1, 1, -1, -1, 1, -1, -1, 1] : List Int).getD ((0 + p3.toNat * 2) + 1) (0 : Int))), (12, .int .i64 (w64 (p0_0 * p0_1))), (14, .int .i64 (Int.tmod s_9 p0_0)), (15, .int .i64 (w64 (Int.tdiv s_9 p0_0))), (47, .int .i64 (w64 (p0_0 * p0_1))), (48, .int .i64 s_6)] rfl ⟨rfl, rfl, rfl, rfl, rfl, rfl, rfl, rfl, rfl, rfl, rfl, rfl, trivial⟩ ?_
            refine WO_tail ?_
            refine WO_end ?_
            refine WK_seq ?_
            refine WK_region ?_
            refine WO_loadB tbok 2 rfl rfl rfl rfl (fun _ h => h) rfl rfl ?_
            refine WO_pure tbok 2 [(1, .int .i64 p1), (2, .int .i64 p2), (4, .pointer (some ⟨b1, 0, none⟩)), (8, .pointer (some ⟨b2, 0, none⟩)), (9, .pointer (some ⟨b6, 0, none⟩)), (10, .int .i64 (([1, 0, -1, 0, 0, 1, 0, -1, 1, 1, -1, -1, 1, -1, -1, 1] : List Int).getD (0 + p3.toNat * 2) (0 : Int))), (11, .int .i64 (([1, 0, -1, 0, 0, 1, 0, -1, 1, 1, -1, -1, 1, -1, -1, 1] : List Int).getD ((0 + p3.toNat * 2) + 1) (0 : Int))), (12, .int .i64 (w64 (p0_0 * p0_1))), (14, .int .i64 (Int.tmod s_9 p0_0)), (15, .int .i64 (w64 (Int.tdiv s_9 p0_0))), (47, .int .i64 (w64 (p0_0 * p0_1))), (48, .int .i64 s_6), (73, .agg #[.int .i64 s_2, .int .i64 s_3, .int .i64 s_4, .slice a3 ((l_1).length) c4]), (74, .int .i64 (Int.tmod s_9 p0_0)), (75, .int .i64 (w64 (Int.tdiv s_9 p0_0)))] rfl ⟨rfl, rfl, rfl, rfl, rfl, rfl, rfl, rfl, rfl, rfl, rfl, rfl, rfl, rfl, rfl, trivial⟩ ?_
            refine WO_inline rfl rfl rfl rfl rfl rfl callable_38 Tryd.func38 rfl rfl rfl ?_
            refine WK.sub (e' := [(0, .agg #[.int .i64 s_2, .int .i64 s_3, .int .i64 s_4, .slice a3 ((l_1).length) c4]), (1, .int .i64 (Int.tmod s_9 p0_0)), (2, .int .i64 (w64 (Int.tdiv s_9 p0_0)))]) ⟨rfl, rfl, rfl, trivial⟩ ?_
            refine WK_seq ?_
            refine WK_region ?_
            refine WO_box [.int .i64 s_2, .int .i64 s_3, .int .i64 s_4, .slice a3 ((l_1).length) c4] rfl rfl trivial rfl rfl rfl (fun b33 => ?_)
            refine WO.cls (C' := St w0 m m11 [[⟨b1, 24, [.int .i64 p0_0, .int .i64 p0_1, .int .i64 p0_2, .slice a_p0_3 p0_3.length c_p0_3]⟩], [⟨b2, 24, [.int .i64 0, .int .i64 0, .int .i64 0, .slice none 0 0]⟩], [⟨b6, 24, [.int .i64 s_2, .int .i64 s_3, .int .i64 s_4, .slice a3 ((l_1).length) c4]⟩], L13, [⟨b33, 24, [.int .i64 s_2, .int .i64 s_3, .int .i64 s_4, .slice a3 ((l_1).length) c4]⟩]]) (fun _ h => h) ?_
            refine WO_pure tbok 1 [(1, .int .i64 (Int.tmod s_9 p0_0)), (2, .int .i64 (w64 (Int.tdiv s_9 p0_0))), (3, .pointer (some ⟨b33, 0, none⟩)), (6, .slice none 0 0)] rfl ⟨rfl, rfl, rfl, rfl, trivial⟩ ?_
            refine WO_end ?_
            refine WK_seq ?_
            refine WK_region ?_
            refine WO_pure tbok 2 [(1, .int .i64 (Int.tmod s_9 p0_0)), (3, .pointer (some ⟨b33, 0, none⟩)), (6, .slice none 0 0), (8, .int .i64 (w64 (Int.tdiv s_9 p0_0))), (9, .pointer (some ⟨b33, 0, none⟩))] rfl ⟨rfl, rfl, rfl, rfl, rfl, trivial⟩ ?_
            refine WO_loadB tbok 4 rfl rfl rfl rfl (fun _ h => h) rfl rfl ?_
            refine WO_pure tbok 4 [(3, .pointer (some ⟨b33, 0, none⟩)), (6, .slice none 0 0), (13, .int .i64 (w64 ((w64 ((w64 (Int.tdiv s_9 p0_0)) * s_2)) + (Int.tmod s_9 p0_0)))), (14, .pointer (some ⟨b33, 2, none⟩))] rfl ⟨rfl, rfl, rfl, rfl, trivial⟩ ?_
            refine WO_loadB tbok 4 rfl rfl rfl rfl (fun _ h => h) rfl rfl ?_
            refine WO_pure tbok 2 [(3, .pointer (some ⟨b33, 0, none⟩)), (6, .slice none 0 0), (7, .int .i64 (w64 ((w64 ((w64 ((w64 (Int.tdiv s_9 p0_0)) * s_2)) + (Int.tmod s_9 p0_0))) * s_4)))] rfl ⟨rfl, rfl, rfl, trivial⟩ ?_
            refine WO_end ?_
            refine WK_seq ?_
            refine WK_region ?_
            refine WO_pure tbok 1 [(3, .pointer (some ⟨b33, 0, none⟩)), (6, .slice none 0 0), (7, .int .i64 (w64 ((w64 ((w64 ((w64 (Int.tdiv s_9 p0_0)) * s_2)) + (Int.tmod s_9 p0_0))) * s_4))), (17, .pointer (some ⟨b33, 3, none⟩))] rfl ⟨rfl, rfl, rfl, rfl, trivial⟩ ?_
            refine WO_loadB tbok 4 rfl rfl rfl rfl (fun _ h => h) rfl rfl ?_
            refine WO_pure tbok 3 [(3, .pointer (some ⟨b33, 0, none⟩)), (6, .slice none 0 0), (7, .int .i64 (w64 ((w64 ((w64 ((w64 (Int.tdiv s_9 p0_0)) * s_2)) + (Int.tmod s_9 p0_0))) * s_4))), (18, .slice a3 ((l_1).length) c4), (19, .int .i64 (w64 ((w64 ((w64 ((w64 (Int.tdiv s_9 p0_0)) * s_2)) + (Int.tmod s_9 p0_0))) * s_4))), (20, .int .i64 (w64 ((w64 ((w64 ((w64 (Int.tdiv s_9 p0_0)) * s_2)) + (Int.tmod s_9 p0_0))) * s_4))), (21, .pointer (some ⟨b33, 2, none⟩))] rfl ⟨rfl, rfl, rfl, rfl, rfl, rfl, rfl, trivial⟩ ?_
            refine WO_loadB tbok 4 rfl rfl rfl rfl (fun _ h => h) rfl rfl ?_
            refine WO_pure tbok 3 [(6, .slice none 0 0), (18, .slice a3 ((l_1).length) c4), (19, .int .i64 (w64 ((w64 ((w64 ((w64 (Int.tdiv s_9 p0_0)) * s_2)) + (Int.tmod s_9 p0_0))) * s_4))), (23, .int .i64 (w64 ((w64 ((w64 ((w64 ((w64 (Int.tdiv s_9 p0_0)) * s_2)) + (Int.tmod s_9 p0_0))) * s_4)) + s_4))), (24, .int .i64 (w64 ((w64 ((w64 ((w64 (Int.tdiv s_9 p0_0)) * s_2)) + (Int.tmod s_9 p0_0))) * s_4))), (25, .pointer (some ⟨b33, 2, none⟩))] rfl ⟨rfl, rfl, rfl, rfl, rfl, rfl, trivial⟩ ?_
            refine WO_loadB tbok 4 rfl rfl rfl rfl (fun _ h => h) rfl rfl ?_
            refine WO_pure tbok 1 [(6, .slice none 0 0), (18, .slice a3 ((l_1).length) c4), (19, .int .i64 (w64 ((w64 ((w64 ((w64 (Int.tdiv s_9 p0_0)) * s_2)) + (Int.tmod s_9 p0_0))) * s_4))), (23, .int .i64 (w64 ((w64 ((w64 ((w64 ((w64 (Int.tdiv s_9 p0_0)) * s_2)) + (Int.tmod s_9 p0_0))) * s_4)) + s_4))), (27, .int .i64 (w64 ((w64 ((w64 ((w64 ((w64 (Int.tdiv s_9 p0_0)) * s_2)) + (Int.tmod s_9 p0_0))) * s_4)) + s_4)))] rfl ⟨rfl, rfl, rfl, rfl, rfl, trivial⟩ ?_
            obtain ⟨k_10, hk34, hm20⟩ := bind_some hm20
            have hk34 := natOf_some hk34
            obtain ⟨k_11, hk35, hm20⟩ := bind_some hm20
            have hk35 := natOf_some hk35
            obtain ⟨hc36, hm20⟩ := chk_some hm20
            have hc36 : 0 < k_11 ∧ (w64 ((w64 ((w64 ((w64 ((w64 (Int.tdiv s_9 p0_0)) * s_2)) + (Int.tmod s_9 p0_0))) * s_4)) + s_4) : Int) ≤ (w64 ((w64 ((w64 ((w64 ((w64 (Int.tdiv s_9 p0_0)) * s_2)) + (Int.tmod s_9 p0_0))) * s_4)) + s_4) : Int) ∧ (w64 ((w64 ((w64 ((w64 ((w64 (Int.tdiv s_9 p0_0)) * s_2)) + (Int.tmod s_9 p0_0))) * s_4)) + s_4) : Int) ≤ (l_5.length : Int) := hc36
            have hz40 : OwnE 3 1 (I1 .i64) (.slice a3 ((l_1).length) c4) l_5 L13 := hL13
            refine WO_sliceW tbok (some (w64 ((w64 ((w64 ((w64 (Int.tdiv s_9 p0_0)) * s_2)) + (Int.tmod s_9 p0_0))) * s_4) : Int)) (some (w64 ((w64 ((w64 ((w64 ((w64 (Int.tdiv s_9 p0_0)) * s_2)) + (Int.tmod s_9 p0_0))) * s_4)) + s_4) : Int)) (some (w64 ((w64 ((w64 ((w64 ((w64 (Int.tdiv s_9 p0_0)) * s_2)) + (Int.tmod s_9 p0_0))) * s_4)) + s_4) : Int)) k_10 k_11 rfl rfl rfl rfl rfl rfl rfl rfl rfl rfl rfl hz40 (by simp only [Option.getD_some] <;> omega) (by simp only [Option.getD_some] <;> omega) (fun q hq => by cases hq; omega) (by omega) (by omega) (fun _ => rfl) (fun a37 c38 h39 => ?_)
            refine WO_pure tbok 1 [(6, .slice a37 k_11 c38)] rfl ⟨rfl, trivial⟩ ?_
            refine WO_end ?_
            refine WK_retI (RLc_tmp rfl RLc_nil) (fun _ _ => trivial) ?_
            refine WO.cls (C' := St w0 m m11 [[⟨b1, 24, [.int .i64 p0_0, .int .i64 p0_1, .int .i64 p0_2, .slice a_p0_3 p0_3.length c_p0_3]⟩], [⟨b2, 24, [.int .i64 0, .int .i64 0, .int .i64 0, .slice none 0 0]⟩], [⟨b6, 24, [.int .i64 s_2, .int .i64 s_3, .int .i64 s_4, .slice a3 ((l_1).length) c4]⟩], L13]) (fun _ h => St.take 4 h) ?_
            refine WO_pure tbok 1 [(1, .int .i64 p1), (2, .int .i64 p2), (4, .pointer (some ⟨b1, 0, none⟩)), (8, .pointer (some ⟨b2, 0, none⟩)), (9, .pointer (some ⟨b6, 0, none⟩)), (10, .int .i64 (([1, 0, -1, 0, 0, 1, 0, -1, 1, 1, -1, -1, 1, -1, -1, 1] : List Int).getD (0 + p3.toNat * 2) (0 : Int))), (11, .int .i64 (([1, 0, -1, 0, 0, 1, 0, -1, 1, 1, -1, -1, 1, -1, -1, 1] : List Int).getD ((0 + p3.toNat * 2) + 1) (0 : Int))), (12, .int .i64 (w64 (p0_0 * p0_1))), (14, .int .i64 (Int.tmod s_9 p0_0)), (15, .int .i64 (w64 (Int.tdiv s_9 p0_0))), (16, .slice a37 k_11 c38), (47, .int .i64 (w64 (p0_0 * p0_1))), (48, .int .i64 s_6)] rfl ⟨rfl, rfl, rfl, rfl, rfl, rfl, rfl, rfl, rfl, rfl, rfl, rfl, rfl, trivial⟩ ?_
            refine WO_end ?_
            refine WK_seq ?_
            refine WK_region ?_
            refine WO_pure tbok 1 [(1, .int .i64 p1), (2, .int .i64 p2), (4, .pointer (some ⟨b1, 0, none⟩)), (8, .pointer (some ⟨b2, 0, none⟩)), (9, .pointer (some ⟨b6, 0, none⟩)), (10, .int .i64 (([1, 0, -1, 0, 0, 1, 0, -1, 1, 1, -1, -1, 1, -1, -1, 1] : List Int).getD (0 + p3.toNat * 2) (0 : Int))), (11, .int .i64 (([1, 0, -1, 0, 0, 1, 0, -1, 1, 1, -1, -1, 1, -1, -1, 1] : List Int).getD ((0 + p3.toNat * 2) + 1) (0 : Int))), (12, .int .i64 (w64 (p0_0 * p0_1))), (14, .int .i64 (Int.tmod s_9 p0_0)), (15, .int .i64 (w64 (Int.tdiv s_9 p0_0))), (16, .slice a37 k_11 c38), (47, .int .i64 (w64 (p0_0 * p0_1))), (48, .int .i64 s_6), (77, .slice a37 k_11 c38)] rfl ⟨rfl, rfl, rfl, rfl, rfl, rfl, rfl, rfl, rfl, rfl, rfl, rfl, rfl, rfl, trivial⟩ ?_
            refine WO_loadB tbok 0 rfl rfl rfl rfl (fun _ h => h) rfl rfl ?_
            refine WO_pure tbok 2 [(1, .int .i64 p1), (2, .int .i64 p2), (4, .pointer (some ⟨b1, 0, none⟩)), (8, .pointer (some ⟨b2, 0, none⟩)), (9, .pointer (some ⟨b6, 0, none⟩)), (10, .int .i64 (([1, 0, -1, 0, 0, 1, 0, -1, 1, 1, -1, -1, 1, -1, -1, 1] : List Int).getD (0 + p3.toNat * 2) (0 : Int))), (11, .int .i64 (([1, 0, -1, 0, 0, 1, 0, -1, 1, 1, -1, -1, 1, -1, -1, 1] : List Int).getD ((0 + p3.toNat * 2) + 1) (0 : Int))), (12, .int .i64 (w64 (p0_0 * p0_1))), (14, .int .i64 (Int.tmod s_9 p0_0)), (15, .int .i64 (w64 (Int.tdiv s_9 p0_0))), (16, .slice a37 k_11 c38), (47, .int .i64 (w64 (p0_0 * p0_1))), (48, .int .i64 s_6), (77, .slice a37 k_11 c38), (78, .agg #[.int .i64 p0_0, .int .i64 p0_1, .int .i64 p0_2, .slice a_p0_3 p0_3.length c_p0_3]), (79, .int .i64 (Int.tmod s_9 p0_0)), (80, .int .i64 (w64 (Int.tdiv s_9 p0_0)))] rfl ⟨rfl, rfl, rfl, rfl, rfl, rfl, rfl, rfl, rfl, rfl, rfl, rfl, rfl, rfl, rfl, rfl, rfl, trivial⟩ ?_
            obtain ⟨y_12, hc41, hm20⟩ := bind_some hm20
            refine WO_call2 (aggregate_at_Q y_12) rfl rfl trivial rfl rfl rfl rfl ⟨38, #[], #[], rfl, callable_38, aggregate_at_walk (h_p0_3.mono (mono_FE _) hle12) hc41⟩ (fun v45 m46 L44 hle47 hq => ?_)
            obtain ⟨a42, qa42, c43, rfl, h48⟩ := hq
            obtain rfl := SlR.qlen h48
            refine WO.cls (C' := St w0 m m46 [[⟨b1, 24, [.int .i64 p0_0, .int .i64 p0_1, .int .i64 p0_2, .slice a_p0_3 p0_3.length c_p0_3]⟩], [⟨b2, 24, [.int .i64 0, .int .i64 0, .int .i64 0, .slice none 0 0]⟩], [⟨b6, 24, [.int .i64 s_2, .int .i64 s_3, .int .i64 s_4, .slice a3 ((l_1).length) c4]⟩], L13, L44]) (fun _ h => h.sub (by simp)) ?_
            obtain ⟨hc49, hm20⟩ := chk_some hm20
            have hc49 : k_10 + k_11 ≤ l_5.length := hc49
            have hz51 : OwnE 3 1 (I1 .i64) (.slice a3 ((l_1).length) c4) l_5 L13 := hL13
            refine WO_copy (E := (I1 .i64)) tbok (fun _ => rfl) (fun _ => rfl) 3 (k_10) y_12 (k_11) rfl rfl rfl rfl rfl rfl rfl rfl rfl rfl hz51 rfl rfl hc49 (Vw.dst h39) (fun w hw => ⟨_, hw.sat, h48⟩) (fun L50 hL50 => ?_)
            refine WO.cls (C' := St w0 m m46 [[⟨b1, 24, [.int .i64 p0_0, .int .i64 p0_1, .int .i64 p0_2, .slice a_p0_3 p0_3.length c_p0_3]⟩], [⟨b2, 24, [.int .i64 0, .int .i64 0, .int .i64 0, .slice none 0 0]⟩], [⟨b6, 24, [.int .i64 s_2, .int .i64 s_3, .int .i64 s_4, .slice a3 ((l_1).length) c4]⟩], L50, L44]) (fun _ h => h) ?_
            refine WO_end ?_
            refine WK_seq ?_
            refine WK_region ?_
            refine WO_pure tbok 8 [(1, .int .i64 p1), (2, .int .i64 p2), (4, .pointer (some ⟨b1, 0, none⟩)), (8, .pointer (some ⟨b2, 0, none⟩)), (9, .pointer (some ⟨b6, 0, none⟩)), (10, .int .i64 (([1, 0, -1, 0, 0, 1, 0, -1, 1, 1, -1, -1, 1, -1, -1, 1] : List Int).getD (0 + p3.toNat * 2) (0 : Int))), (11, .int .i64 (([1, 0, -1, 0, 0, 1, 0, -1, 1, 1, -1, -1, 1, -1, -1, 1] : List Int).getD ((0 + p3.toNat * 2) + 1) (0 : Int))), (12, .int .i64 (w64 (p0_0 * p0_1))), (16, .slice a37 k_11 c38), (17, .int .i64 (w64 ((Int.tmod s_9 p0_0) - (([1, 0, -1, 0, 0, 1, 0, -1, 1, 1, -1, -1, 1, -1, -1, 1] : List Int).getD (0 + p3.toNat * 2) (0 : Int))))), (18, .int .i64 (w64 ((w64 (Int.tdiv s_9 p0_0)) - (([1, 0, -1, 0, 0, 1, 0, -1, 1, 1, -1, -1, 1, -1, -1, 1] : List Int).getD ((0 + p3.toNat * 2) + 1) (0 : Int))))), (47, .int .i64 (w64 (p0_0 * p0_1))), (48, .int .i64 s_6)] rfl ⟨rfl, rfl, rfl, rfl, rfl, rfl, rfl, rfl, rfl, rfl, rfl, rfl, rfl, trivial⟩ ?_
            refine WO_end ?_
            refine WK_seq ?_
            obtain ⟨s_13, hx52, hm20⟩ := bind_some hm20
            refine WK_meet [(1, .int .i64 p1), (2, .int .i64 p2), (4, .pointer (some ⟨b1, 0, none⟩)), (8, .pointer (some ⟨b2, 0, none⟩)), (9, .pointer (some ⟨b6, 0, none⟩)), (10, .int .i64 (([1, 0, -1, 0, 0, 1, 0, -1, 1, 1, -1, -1, 1, -1, -1, 1] : List Int).getD (0 + p3.toNat * 2) (0 : Int))), (11, .int .i64 (([1, 0, -1, 0, 0, 1, 0, -1, 1, 1, -1, -1, 1, -1, -1, 1] : List Int).getD ((0 + p3.toNat * 2) + 1) (0 : Int))), (12, .int .i64 (w64 (p0_0 * p0_1))), (16, .slice a37 k_11 c38), (17, .int .i64 (w64 ((Int.tmod s_9 p0_0) - (([1, 0, -1, 0, 0, 1, 0, -1, 1, 1, -1, -1, 1, -1, -1, 1] : List Int).getD (0 + p3.toNat * 2) (0 : Int))))), (18, .int .i64 (w64 ((w64 (Int.tdiv s_9 p0_0)) - (([1, 0, -1, 0, 0, 1, 0, -1, 1, 1, -1, -1, 1, -1, -1, 1] : List Int).getD ((0 + p3.toNat * 2) + 1) (0 : Int))))), (47, .int .i64 (w64 (p0_0 * p0_1))), (48, .int .i64 s_6), (106, .bool s_13)] (St w0 m m46 [[⟨b1, 24, [.int .i64 p0_0, .int .i64 p0_1, .int .i64 p0_2, .slice a_p0_3 p0_3.length c_p0_3]⟩], [⟨b2, 24, [.int .i64 0, .int .i64 0, .int .i64 0, .slice none 0 0]⟩], [⟨b6, 24, [.int .i64 s_2, .int .i64 s_3, .int .i64 s_4, .slice a3 ((l_1).length) c4]⟩], L50, L44]) ?_ (fun hk53 => ?_)
            · obtain ⟨l_14, hx55, hm20⟩ := bind_some hm20
              refine WK_join (β := List Ent) (fun p => OwnE 3 1 (I1 .i64) (.slice a3 ((l_1).length) c4) l_14 p) (fun p => [(1, .int .i64 p1), (2, .int .i64 p2), (4, .pointer (some ⟨b1, 0, none⟩)), (8, .pointer (some ⟨b2, 0, none⟩)), (9, .pointer (some ⟨b6, 0, none⟩)), (10, .int .i64 (([1, 0, -1, 0, 0, 1, 0, -1, 1, 1, -1, -1, 1, -1, -1, 1] : List Int).getD (0 + p3.toNat * 2) (0 : Int))), (11, .int .i64 (([1, 0, -1, 0, 0, 1, 0, -1, 1, 1, -1, -1, 1, -1, -1, 1] : List Int).getD ((0 + p3.toNat * 2) + 1) (0 : Int))), (12, .int .i64 (w64 (p0_0 * p0_1))), (47, .int .i64 (w64 (p0_0 * p0_1))), (48, .int .i64 s_6)]) (fun p => St w0 m m46 [[⟨b1, 24, [.int .i64 p0_0, .int .i64 p0_1, .int .i64 p0_2, .slice a_p0_3 p0_3.length c_p0_3]⟩], [⟨b2, 24, [.int .i64 0, .int .i64 0, .int .i64 0, .slice none 0 0]⟩], [⟨b6, 24, [.int .i64 s_2, .int .i64 s_3, .int .i64 s_4, .slice a3 ((l_1).length) c4]⟩], p, L44]) ?_ (fun hk56 => ?_)
              · rintro L54 hL54
                refine WK.sub (e' := [(1, .int .i64 p1), (2, .int .i64 p2), (4, .pointer (some ⟨b1, 0, none⟩)), (8, .pointer (some ⟨b2, 0, none⟩)), (9, .pointer (some ⟨b6, 0, none⟩)), (10, .int .i64 (([1, 0, -1, 0, 0, 1, 0, -1, 1, 1, -1, -1, 1, -1, -1, 1] : List Int).getD (0 + p3.toNat * 2) (0 : Int))), (11, .int .i64 (([1, 0, -1, 0, 0, 1, 0, -1, 1, 1, -1, -1, 1, -1, -1, 1] : List Int).getD ((0 + p3.toNat * 2) + 1) (0 : Int))), (12, .int .i64 (w64 (p0_0 * p0_1))), (47, .int .i64 (w64 (p0_0 * p0_1))), (48, .int .i64 s_6)]) ⟨rfl, rfl, rfl, rfl, rfl, rfl, rfl, rfl, rfl, rfl, trivial⟩ (WK.cls (C' := St w0 m m46 [[⟨b1, 24, [.int .i64 p0_0, .int .i64 p0_1, .int .i64 p0_2, .slice a_p0_3 p0_3.length c_p0_3]⟩], [⟨b2, 24, [.int .i64 0, .int .i64 0, .int .i64 0, .slice none 0 0]⟩], [⟨b6, 24, [.int .i64 s_2, .int .i64 s_3, .int .i64 s_4, .slice a3 ((l_1).length) c4]⟩], L54, L44]) (fun _ h => h) ?_)
                refine WK_blk ?_
                refine WK_region ?_
                refine WO_pure tbok 2 [(1, .int .i64 p1), (2, .int .i64 p2), (4, .pointer (some ⟨b1, 0, none⟩)), (8, .pointer (some ⟨b2, 0, none⟩)), (9, .pointer (some ⟨b6, 0, none⟩)), (10, .int .i64 (([1, 0, -1, 0, 0, 1, 0, -1, 1, 1, -1, -1, 1, -1, -1, 1] : List Int).getD (0 + p3.toNat * 2) (0 : Int))), (11, .int .i64 (([1, 0, -1, 0, 0, 1, 0, -1, 1, 1, -1, -1, 1, -1, -1, 1] : List Int).getD ((0 + p3.toNat * 2) + 1) (0 : Int))), (12, .int .i64 (w64 (p0_0 * p0_1))), (47, .int .i64 (w64 (p0_0 * p0_1))), (48, .int .i64 (w64 (s_6 + 1)))] rfl ⟨rfl, rfl, rfl, rfl, rfl, rfl, rfl, rfl, rfl, rfl, trivial⟩ ?_
                refine WO_end ?_
                cases hm20
                refine WK.sub ?_ (WK.cls (fun _ h => St.take 4 h) (hn23 _ (m46, L54) rfl ⟨(hle12.trans hle47), hL54⟩))
                exact ⟨rfl, rfl, rfl, rfl, rfl, rfl, rfl, rfl, rfl, rfl, trivial⟩
              · refine WK_cond (b := s_13) rfl (fun hb57 => ?_) (fun hb57 => ?_)
                · have hx55 := ifT hb57 hx55
                  refine WK_seq ?_
                  refine WK_region ?_
                  refine WO_loadB tbok 2 rfl rfl rfl rfl (fun _ h => h) rfl rfl ?_
                  refine WO_pure tbok 2 [(1, .int .i64 p1), (2, .int .i64 p2), (4, .pointer (some ⟨b1, 0, none⟩)), (8, .pointer (some ⟨b2, 0, none⟩)), (9, .pointer (some ⟨b6, 0, none⟩)), (10, .int .i64 (([1, 0, -1, 0, 0, 1, 0, -1, 1, 1, -1, -1, 1, -1, -1, 1] : List Int).getD (0 + p3.toNat * 2) (0 : Int))), (11, .int .i64 (([1, 0, -1, 0, 0, 1, 0, -1, 1, 1, -1, -1, 1, -1, -1, 1] : List Int).getD ((0 + p3.toNat * 2) + 1) (0 : Int))), (12, .int .i64 (w64 (p0_0 * p0_1))), (16, .slice a37 k_11 c38), (47, .int .i64 (w64 (p0_0 * p0_1))), (48, .int .i64 s_6), (107, .agg #[.int .i64 s_2, .int .i64 s_3, .int .i64 s_4, .slice a3 ((l_1).length) c4]), (108, .int .i64 (w64 ((Int.tmod s_9 p0_0) - (([1, 0, -1, 0, 0, 1, 0, -1, 1, 1, -1, -1, 1, -1, -1, 1] : List Int).getD (0 + p3.toNat * 2) (0 : Int))))), (109, .int .i64 (w64 ((w64 (Int.tdiv s_9 p0_0)) - (([1, 0, -1, 0, 0, 1, 0, -1, 1, 1, -1, -1, 1, -1, -1, 1] : List Int).getD ((0 + p3.toNat * 2) + 1) (0 : Int)))))] rfl ⟨rfl, rfl, rfl, rfl, rfl, rfl, rfl, rfl, rfl, rfl, rfl, rfl, rfl, rfl, trivial⟩ ?_
                  refine WO_inline rfl rfl rfl rfl rfl rfl callable_38 Tryd.func38 rfl rfl rfl ?_
                  refine WK.sub (e' := [(0, .agg #[.int .i64 s_2, .int .i64 s_3, .int .i64 s_4, .slice a3 ((l_1).length) c4]), (1, .int .i64 (w64 ((Int.tmod s_9 p0_0) - (([1, 0, -1, 0, 0, 1, 0, -1, 1, 1, -1, -1, 1, -1, -1, 1] : List Int).getD (0 + p3.toNat * 2) (0 : Int))))), (2, .int .i64 (w64 ((w64 (Int.tdiv s_9 p0_0)) - (([1, 0, -1, 0, 0, 1, 0, -1, 1, 1, -1, -1, 1, -1, -1, 1] : List Int).getD ((0 + p3.toNat * 2) + 1) (0 : Int)))))]) ⟨rfl, rfl, rfl, trivial⟩ ?_
                  refine WK_seq ?_
                  refine WK_region ?_
                  refine WO_box [.int .i64 s_2, .int .i64 s_3, .int .i64 s_4, .slice a3 ((l_1).length) c4] rfl rfl trivial rfl rfl rfl (fun b58 => ?_)
                  refine WO.cls (C' := St w0 m m46 [[⟨b1, 24, [.int .i64 p0_0, .int .i64 p0_1, .int .i64 p0_2, .slice a_p0_3 p0_3.length c_p0_3]⟩], [⟨b2, 24, [.int .i64 0, .int .i64 0, .int .i64 0, .slice none 0 0]⟩], [⟨b6, 24, [.int .i64 s_2, .int .i64 s_3, .int .i64 s_4, .slice a3 ((l_1).length) c4]⟩], L50, L44, [⟨b58, 24, [.int .i64 s_2, .int .i64 s_3, .int .i64 s_4, .slice a3 ((l_1).length) c4]⟩]]) (fun _ h => h) ?_
                  refine WO_pure tbok 1 [(1, .int .i64 (w64 ((Int.tmod s_9 p0_0) - (([1, 0, -1, 0, 0, 1, 0, -1, 1, 1, -1, -1, 1, -1, -1, 1] : List Int).getD (0 + p3.toNat * 2) (0 : Int))))), (2, .int .i64 (w64 ((w64 (Int.tdiv s_9 p0_0)) - (([1, 0, -1, 0, 0, 1, 0, -1, 1, 1, -1, -1, 1, -1, -1, 1] : List Int).getD ((0 + p3.toNat * 2) + 1) (0 : Int))))), (3, .pointer (some ⟨b58, 0, none⟩)), (6, .slice none 0 0)] rfl ⟨rfl, rfl, rfl, rfl, trivial⟩ ?_
                  refine WO_end ?_
                  refine WK_seq ?_
                  refine WK_region ?_
                  refine WO_pure tbok 2 [(1, .int .i64 (w64 ((Int.tmod s_9 p0_0) - (([1, 0, -1, 0, 0, 1, 0, -1, 1, 1, -1, -1, 1, -1, -1, 1] : List Int).getD (0 + p3.toNat * 2) (0 : Int))))), (3, .pointer (some ⟨b58, 0, none⟩)), (6, .slice none 0 0), (8, .int .i64 (w64 ((w64 (Int.tdiv s_9 p0_0)) - (([1, 0, -1, 0, 0, 1, 0, -1, 1, 1, -1, -1, 1, -1, -1, 1] : List Int).getD ((0 + p3.toNat * 2) + 1) (0 : Int))))), (9, .pointer (some ⟨b58, 0, none⟩))] rfl ⟨rfl, rfl, rfl, rfl, rfl, trivial⟩ ?_
                  refine WO_loadB tbok 5 rfl rfl rfl rfl (fun _ h => h) rfl rfl ?_
                  refine WO_pure tbok 4 [(3, .pointer (some ⟨b58, 0, none⟩)), (6, .slice none 0 0), (13, .int .i64 (w64 ((w64 ((w64 ((w64 (Int.tdiv s_9 p0_0)) - (([1, 0, -1, 0, 0, 1, 0, -1, 1, 1, -1, -1, 1, -1, -1, 1] : List Int).getD ((0 + p3.toNat * 2) + 1) (0 : Int)))) * s_2)) + (w64 ((Int.tmod s_9 p0_0) - (([1, 0, -1, 0, 0, 1, 0, -1, 1, 1, -1, -1, 1, -1, -1, 1] : List Int).getD (0 + p3.toNat * 2) (0 : Int))))))), (14, .pointer (some ⟨b58, 2, none⟩))] rfl ⟨rfl, rfl, rfl, rfl, trivial⟩ ?_
                  refine WO_loadB tbok 5 rfl rfl rfl rfl (fun _ h => h) rfl rfl ?_
                  refine WO_pure tbok 2 [(3, .pointer (some ⟨b58, 0, none⟩)), (6, .slice none 0 0), (7, .int .i64 (w64 ((w64 ((w64 ((w64 ((w64 (Int.tdiv s_9 p0_0)) - (([1, 0, -1, 0, 0, 1, 0, -1, 1, 1, -1, -1, 1, -1, -1, 1] : List Int).getD ((0 + p3.toNat * 2) + 1) (0 : Int)))) * s_2)) + (w64 ((Int.tmod s_9 p0_0) - (([1, 0, -1, 0, 0, 1, 0, -1, 1, 1, -1, -1, 1, -1, -1, 1] : List Int).getD (0 + p3.toNat * 2) (0 : Int)))))) * s_4)))] rfl ⟨rfl, rfl, rfl, trivial⟩ ?_
                  refine WO_end ?_
                  refine WK_seq ?_
                  refine WK_region ?_
                  refine WO_pure tbok 1 [(3, .pointer (some ⟨b58, 0, none⟩)), (6, .slice none 0 0), (7, .int .i64 (w64 ((w64 ((w64 ((w64 ((w64 (Int.tdiv s_9 p0_0)) - (([1, 0, -1, 0, 0, 1, 0, -1, 1, 1, -1, -1, 1, -1, -1, 1] : List Int).getD ((0 + p3.toNat * 2) + 1) (0 : Int)))) * s_2)) + (w64 ((Int.tmod s_9 p0_0) - (([1, 0, -1, 0, 0, 1, 0, -1, 1, 1, -1, -1, 1, -1, -1, 1] : List Int).getD (0 + p3.toNat * 2) (0 : Int)))))) * s_4))), (17, .pointer (some ⟨b58, 3, none⟩))] rfl ⟨rfl, rfl, rfl, rfl, trivial⟩ ?_
                  refine WO_loadB tbok 5 rfl rfl rfl rfl (fun _ h => h) rfl rfl ?_
                  refine WO_pure tbok 3 [(3, .pointer (some ⟨b58, 0, none⟩)), (6, .slice none 0 0), (7, .int .i64 (w64 ((w64 ((w64 ((w64 ((w64 (Int.tdiv s_9 p0_0)) - (([1, 0, -1, 0, 0, 1, 0, -1, 1, 1, -1, -1, 1, -1, -1, 1] : List Int).getD ((0 + p3.toNat * 2) + 1) (0 : Int)))) * s_2)) + (w64 ((Int.tmod s_9 p0_0) - (([1, 0, -1, 0, 0, 1, 0, -1, 1, 1, -1, -1, 1, -1, -1, 1] : List Int).getD (0 + p3.toNat * 2) (0 : Int)))))) * s_4))), (18, .slice a3 ((l_1).length) c4), (19, .int .i64 (w64 ((w64 ((w64 ((w64 ((w64 (Int.tdiv s_9 p0_0)) - (([1, 0, -1, 0, 0, 1, 0, -1, 1, 1, -1, -1, 1, -1, -1, 1] : List Int).getD ((0 + p3.toNat * 2) + 1) (0 : Int)))) * s_2)) + (w64 ((Int.tmod s_9 p0_0) - (([1, 0, -1, 0, 0, 1, 0, -1, 1, 1, -1, -1, 1, -1, -1, 1] : List Int).getD (0 + p3.toNat * 2) (0 : Int)))))) * s_4))), (20, .int .i64 (w64 ((w64 ((w64 ((w64 ((w64 (Int.tdiv s_9 p0_0)) - (([1, 0, -1, 0, 0, 1, 0, -1, 1, 1, -1, -1, 1, -1, -1, 1] : List Int).getD ((0 + p3.toNat * 2) + 1) (0 : Int)))) * s_2)) + (w64 ((Int.tmod s_9 p0_0) - (([1, 0, -1, 0, 0, 1, 0, -1, 1, 1, -1, -1, 1, -1, -1, 1] : List Int).getD (0 + p3.toNat * 2) (0 : Int)))))) * s_4))), (21, .pointer (some ⟨b58, 2, none⟩))] rfl ⟨rfl, rfl, rfl, rfl, rfl, rfl, rfl, trivial⟩ ?_
                  refine WO_loadB tbok 5 rfl rfl rfl rfl (fun _ h => h) rfl rfl ?_
                  refine WO_pure tbok 3 [(6, .slice none 0 0), (18, .slice a3 ((l_1).length) c4), (19, .int .i64 (w64 ((w64 ((w64 ((w64 ((w64 (Int.tdiv s_9 p0_0)) - (([1, 0, -1, 0, 0, 1, 0, -1, 1, 1, -1, -1, 1, -1, -1, 1] : List Int).getD ((0 + p3.toNat * 2) + 1) (0 : Int)))) * s_2)) + (w64 ((Int.tmod s_9 p0_0) - (([1, 0, -1, 0, 0, 1, 0, -1, 1, 1, -1, -1, 1, -1, -1, 1] : List Int).getD (0 + p3.toNat * 2) (0 : Int)))))) * s_4))), (23, .int .i64 (w64 ((w64 ((w64 ((w64 ((w64 ((w64 (Int.tdiv s_9 p0_0)) - (([1, 0, -1, 0, 0, 1, 0, -1, 1, 1, -1, -1, 1, -1, -1, 1] : List Int).getD ((0 + p3.toNat * 2) + 1) (0 : Int)))) * s_2)) + (w64 ((Int.tmod s_9 p0_0) - (([1, 0, -1, 0, 0, 1, 0, -1, 1, 1, -1, -1, 1, -1, -1, 1] : List Int).getD (0 + p3.toNat * 2) (0 : Int)))))) * s_4)) + s_4))), (24, .int .i64 (w64 ((w64 ((w64 ((w64 ((w64 (Int.tdiv s_9 p0_0)) - (([1, 0, -1, 0, 0, 1, 0, -1, 1, 1, -1, -1, 1, -1, -1, 1] : List Int).getD ((0 + p3.toNat * 2) + 1) (0 : Int)))) * s_2)) + (w64 ((Int.tmod s_9 p0_0) - (([1, 0, -1, 0, 0, 1, 0, -1, 1, 1, -1, -1, 1, -1, -1, 1] : List Int).getD (0 + p3.toNat * 2) (0 : Int)))))) * s_4))), (25, .pointer (some ⟨b58, 2, none⟩))] rfl ⟨rfl, rfl, rfl, rfl, rfl, rfl, trivial⟩ ?_
                  refine WO_loadB tbok 5 rfl rfl rfl rfl (fun _ h => h) rfl rfl ?_
                  refine WO_pure tbok 1 [(6, .slice none 0 0), (18, .slice a3 ((l_1).length) c4), (19, .int .i64 (w64 ((w64 ((w64 ((w64 ((w64 (Int.tdiv s_9 p0_0)) - (([1, 0, -1, 0, 0, 1, 0, -1, 1, 1, -1, -1, 1, -1, -1, 1] : List Int).getD ((0 + p3.toNat * 2) + 1) (0 : Int)))) * s_2)) + (w64 ((Int.tmod s_9 p0_0) - (([1, 0, -1, 0, 0, 1, 0, -1, 1, 1, -1, -1, 1, -1, -1, 1] : List Int).getD (0 + p3.toNat * 2) (0 : Int)))))) * s_4))), (23, .int .i64 (w64 ((w64 ((w64 ((w64 ((w64 ((w64 (Int.tdiv s_9 p0_0)) - (([1, 0, -1, 0, 0, 1, 0, -1, 1, 1, -1, -1, 1, -1, -1, 1] : List Int).getD ((0 + p3.toNat * 2) + 1) (0 : Int)))) * s_2)) + (w64 ((Int.tmod s_9 p0_0) - (([1, 0, -1, 0, 0, 1, 0, -1, 1, 1, -1, -1, 1, -1, -1, 1] : List Int).getD (0 + p3.toNat * 2) (0 : Int)))))) * s_4)) + s_4))), (27, .int .i64 (w64 ((w64 ((w64 ((w64 ((w64 ((w64 (Int.tdiv s_9 p0_0)) - (([1, 0, -1, 0, 0, 1, 0, -1, 1, 1, -1, -1, 1, -1, -1, 1] : List Int).getD ((0 + p3.toNat * 2) + 1) (0 : Int)))) * s_2)) + (w64 ((Int.tmod s_9 p0_0) - (([1, 0, -1, 0, 0, 1, 0, -1, 1, 1, -1, -1, 1, -1, -1, 1] : List Int).getD (0 + p3.toNat * 2) (0 : Int)))))) * s_4)) + s_4)))] rfl ⟨rfl, rfl, rfl, rfl, rfl, trivial⟩ ?_
                  obtain ⟨k_15, hk59, hx55⟩ := bind_some hx55
                  have hk59 := natOf_some hk59
                  obtain ⟨k_16, hk60, hx55⟩ := bind_some hx55
                  have hk60 := natOf_some hk60
                  obtain ⟨hc61, hx55⟩ := chk_some hx55
                  have hc61 : 0 < k_16 ∧ (w64 ((w64 ((w64 ((w64 ((w64 ((w64 (Int.tdiv s_9 p0_0)) - (([1, 0, -1, 0, 0, 1, 0, -1, 1, 1, -1, -1, 1, -1, -1, 1] : List Int).getD ((0 + p3.toNat * 2) + 1) (0 : Int)))) * s_2)) + (w64 ((Int.tmod s_9 p0_0) - (([1, 0, -1, 0, 0, 1, 0, -1, 1, 1, -1, -1, 1, -1, -1, 1] : List Int).getD (0 + p3.toNat * 2) (0 : Int)))))) * s_4)) + s_4) : Int) ≤ (w64 ((w64 ((w64 ((w64 ((w64 ((w64 (Int.tdiv s_9 p0_0)) - (([1, 0, -1, 0, 0, 1, 0, -1, 1, 1, -1, -1, 1, -1, -1, 1] : List Int).getD ((0 + p3.toNat * 2) + 1) (0 : Int)))) * s_2)) + (w64 ((Int.tmod s_9 p0_0) - (([1, 0, -1, 0, 0, 1, 0, -1, 1, 1, -1, -1, 1, -1, -1, 1] : List Int).getD (0 + p3.toNat * 2) (0 : Int)))))) * s_4)) + s_4) : Int) ∧ (w64 ((w64 ((w64 ((w64 ((w64 ((w64 (Int.tdiv s_9 p0_0)) - (([1, 0, -1, 0, 0, 1, 0, -1, 1, 1, -1, -1, 1, -1, -1, 1] : List Int).getD ((0 + p3.toNat * 2) + 1) (0 : Int)))) * s_2)) + (w64 ((Int.tmod s_9 p0_0) - (([1, 0, -1, 0, 0, 1, 0, -1, 1, 1, -1, -1, 1, -1, -1, 1] : List Int).getD (0 + p3.toNat * 2) (0 : Int)))))) * s_4)) + s_4) : Int) ≤ ((cpy l_5 k_10 k_11 y_12).length : Int) := hc61
                  have hz65 : OwnE 3 1 (I1 .i64) (.slice a3 ((l_1).length) c4) (cpy l_5 k_10 k_11 y_12) L50 := hL50
                  refine WO_sliceW tbok (some (w64 ((w64 ((w64 ((w64 ((w64 (Int.tdiv s_9 p0_0)) - (([1, 0, -1, 0, 0, 1, 0, -1, 1, 1, -1, -1, 1, -1, -1, 1] : List Int).getD ((0 + p3.toNat * 2) + 1) (0 : Int)))) * s_2)) + (w64 ((Int.tmod s_9 p0_0) - (([1, 0, -1, 0, 0, 1, 0, -1, 1, 1, -1, -1, 1, -1, -1, 1] : List Int).getD (0 + p3.toNat * 2) (0 : Int)))))) * s_4) : Int)) (some (w64 ((w64 ((w64 ((w64 ((w64 ((w64 (Int.tdiv s_9 p0_0)) - (([1, 0, -1, 0, 0, 1, 0, -1, 1, 1, -1, -1, 1, -1, -1, 1] : List Int).getD ((0 + p3.toNat * 2) + 1) (0 : Int)))) * s_2)) + (w64 ((Int.tmod s_9 p0_0) - (([1, 0, -1, 0, 0, 1, 0, -1, 1, 1, -1, -1, 1, -1, -1, 1] : List Int).getD (0 + p3.toNat * 2) (0 : Int)))))) * s_4)) + s_4) : Int)) (some (w64 ((w64 ((w64 ((w64 ((w64 ((w64 (Int.tdiv s_9 p0_0)) - (([1, 0, -1, 0, 0, 1, 0, -1, 1, 1, -1, -1, 1, -1, -1, 1] : List Int).getD ((0 + p3.toNat * 2) + 1) (0 : Int)))) * s_2)) + (w64 ((Int.tmod s_9 p0_0) - (([1, 0, -1, 0, 0, 1, 0, -1, 1, 1, -1, -1, 1, -1, -1, 1] : List Int).getD (0 + p3.toNat * 2) (0 : Int)))))) * s_4)) + s_4) : Int)) k_15 k_16 rfl rfl rfl rfl rfl rfl rfl rfl rfl rfl rfl hz65 (by simp only [Option.getD_some] <;> omega) (by simp only [Option.getD_some] <;> omega) (fun q hq => by cases hq; omega) (by omega) (by omega) (fun _ => rfl) (fun a62 c63 h64 => ?_)
                  refine WO_pure tbok 1 [(6, .slice a62 k_16 c63)] rfl ⟨rfl, trivial⟩ ?_
                  refine WO_end ?_
                  refine WK_retI (RLc_tmp rfl RLc_nil) (fun _ _ => trivial) ?_
                  refine WO.cls (C' := St w0 m m46 [[⟨b1, 24, [.int .i64 p0_0, .int .i64 p0_1, .int .i64 p0_2, .slice a_p0_3 p0_3.length c_p0_3]⟩], [⟨b2, 24, [.int .i64 0, .int .i64 0, .int .i64 0, .slice none 0 0]⟩], [⟨b6, 24, [.int .i64 s_2, .int .i64 s_3, .int .i64 s_4, .slice a3 ((l_1).length) c4]⟩], L50, L44]) (fun _ h => St.take 5 h) ?_
                  refine WO_pure tbok 1 [(1, .int .i64 p1), (2, .int .i64 p2), (4, .pointer (some ⟨b1, 0, none⟩)), (8, .pointer (some ⟨b2, 0, none⟩)), (9, .pointer (some ⟨b6, 0, none⟩)), (10, .int .i64 (([1, 0, -1, 0, 0, 1, 0, -1, 1, 1, -1, -1, 1, -1, -1, 1] : List Int).getD (0 + p3.toNat * 2) (0 : Int))), (11, .int .i64 (([1, 0, -1, 0, 0, 1, 0, -1, 1, 1, -1, -1, 1, -1, -1, 1] : List Int).getD ((0 + p3.toNat * 2) + 1) (0 : Int))), (12, .int .i64 (w64 (p0_0 * p0_1))), (16, .slice a37 k_11 c38), (19, .slice a62 k_16 c63), (47, .int .i64 (w64 (p0_0 * p0_1))), (48, .int .i64 s_6)] rfl ⟨rfl, rfl, rfl, rfl, rfl, rfl, rfl, rfl, rfl, rfl, rfl, rfl, trivial⟩ ?_
                  refine WO_end ?_
                  refine WK_seq ?_
                  refine WK_region ?_
                  refine WO_pure tbok 1 [(1, .int .i64 p1), (2, .int .i64 p2), (4, .pointer (some ⟨b1, 0, none⟩)), (8, .pointer (some ⟨b2, 0, none⟩)), (9, .pointer (some ⟨b6, 0, none⟩)), (10, .int .i64 (([1, 0, -1, 0, 0, 1, 0, -1, 1, 1, -1, -1, 1, -1, -1, 1] : List Int).getD (0 + p3.toNat * 2) (0 : Int))), (11, .int .i64 (([1, 0, -1, 0, 0, 1, 0, -1, 1, 1, -1, -1, 1, -1, -1, 1] : List Int).getD ((0 + p3.toNat * 2) + 1) (0 : Int))), (12, .int .i64 (w64 (p0_0 * p0_1))), (16, .slice a37 k_11 c38), (19, .slice a62 k_16 c63), (47, .int .i64 (w64 (p0_0 * p0_1))), (48, .int .i64 s_6), (111, .slice a62 k_16 c63)] rfl ⟨rfl, rfl, rfl, rfl, rfl, rfl, rfl, rfl, rfl, rfl, rfl, rfl, rfl, trivial⟩ ?_
                  obtain ⟨hc66, hx55⟩ := chk_some hx55
                  have hc66 : k_15 + k_16 ≤ (cpy l_5 k_10 k_11 y_12).length := hc66
                  obtain ⟨y_17, hc67, hx55⟩ := bind_some hx55
                  refine WO_call0 (.int .i64 y_17) rfl rfl trivial rfl rfl rfl rfl St_closed ⟨26, #[], #[], rfl, callable_26, fun w hw => ⟨_, hw.satV, slices_Min_sint_walk (Vw.rd (E := (I1 .i64)) (k := 1) (fun _ => rfl) h64 hL50 (fun _ hx => hw.memV (i := 3) rfl hx) hc66) hc67⟩⟩ ?_
                  refine WO_pure tbok 1 [(1, .int .i64 p1), (2, .int .i64 p2), (4, .pointer (some ⟨b1, 0, none⟩)), (8, .pointer (some ⟨b2, 0, none⟩)), (9, .pointer (some ⟨b6, 0, none⟩)), (10, .int .i64 (([1, 0, -1, 0, 0, 1, 0, -1, 1, 1, -1, -1, 1, -1, -1, 1] : List Int).getD (0 + p3.toNat * 2) (0 : Int))), (11, .int .i64 (([1, 0, -1, 0, 0, 1, 0, -1, 1, 1, -1, -1, 1, -1, -1, 1] : List Int).getD ((0 + p3.toNat * 2) + 1) (0 : Int))), (12, .int .i64 (w64 (p0_0 * p0_1))), (16, .slice a37 k_11 c38), (19, .slice a62 k_16 c63), (20, .int .i64 y_17), (47, .int .i64 (w64 (p0_0 * p0_1))), (48, .int .i64 s_6)] rfl ⟨rfl, rfl, rfl, rfl, rfl, rfl, rfl, rfl, rfl, rfl, rfl, rfl, rfl, trivial⟩ ?_
                  refine WO_end ?_
                  refine WK_seq ?_
                  refine WK_region ?_
                  refine WO_pure tbok 3 [(1, .int .i64 p1), (2, .int .i64 p2), (4, .pointer (some ⟨b1, 0, none⟩)), (8, .pointer (some ⟨b2, 0, none⟩)), (9, .pointer (some ⟨b6, 0, none⟩)), (10, .int .i64 (([1, 0, -1, 0, 0, 1, 0, -1, 1, 1, -1, -1, 1, -1, -1, 1] : List Int).getD (0 + p3.toNat * 2) (0 : Int))), (11, .int .i64 (([1, 0, -1, 0, 0, 1, 0, -1, 1, 1, -1, -1, 1, -1, -1, 1] : List Int).getD ((0 + p3.toNat * 2) + 1) (0 : Int))), (12, .int .i64 (w64 (p0_0 * p0_1))), (16, .slice a37 k_11 c38), (20, .int .i64 y_17), (47, .int .i64 (w64 (p0_0 * p0_1))), (48, .int .i64 s_6), (113, .slice a62 k_16 c63), (114, .int .i64 p1), (115, .int .i64 p2)] rfl ⟨rfl, rfl, rfl, rfl, rfl, rfl, rfl, rfl, rfl, rfl, rfl, rfl, rfl, rfl, rfl, trivial⟩ ?_
                  obtain ⟨y_18, hc68, hx55⟩ := bind_some hx55
                  refine WO_call1 (aggregate_reached_Q y_18) rfl rfl trivial rfl rfl rfl rfl ⟨35, #[], #[], rfl, callable_35, fun w hw => ⟨_, hw.satV, aggregate_reached_walk (Vw.rd (E := (I1 .i64)) (k := 1) (fun _ => rfl) h64 hL50 (fun _ hx => hw.memV (i := 3) rfl hx) hc66) hc68⟩⟩ (fun v72 L71 hq => ?_)
                  obtain ⟨a69, qa69, c70, rfl, hL71⟩ := hq
                  obtain rfl := OwnE.qlen hL71
                  refine WO.cls (C' := St w0 m m46 [[⟨b1, 24, [.int .i64 p0_0, .int .i64 p0_1, .int .i64 p0_2, .slice a_p0_3 p0_3.length c_p0_3]⟩], [⟨b2, 24, [.int .i64 0, .int .i64 0, .int .i64 0, .slice none 0 0]⟩], [⟨b6, 24, [.int .i64 s_2, .int .i64 s_3, .int .i64 s_4, .slice a3 ((l_1).length) c4]⟩], L50, L44, L71]) (fun _ h => h) ?_
                  refine WO_pure tbok 2 [(1, .int .i64 p1), (2, .int .i64 p2), (4, .pointer (some ⟨b1, 0, none⟩)), (8, .pointer (some ⟨b2, 0, none⟩)), (9, .pointer (some ⟨b6, 0, none⟩)), (10, .int .i64 (([1, 0, -1, 0, 0, 1, 0, -1, 1, 1, -1, -1, 1, -1, -1, 1] : List Int).getD (0 + p3.toNat * 2) (0 : Int))), (11, .int .i64 (([1, 0, -1, 0, 0, 1, 0, -1, 1, 1, -1, -1, 1, -1, -1, 1] : List Int).getD ((0 + p3.toNat * 2) + 1) (0 : Int))), (12, .int .i64 (w64 (p0_0 * p0_1))), (16, .slice a37 k_11 c38), (20, .int .i64 y_17), (47, .int .i64 (w64 (p0_0 * p0_1))), (48, .int .i64 s_6), (116, .slice a69 ((y_18).length) c70), (117, .int .i64 ((y_18).length : Int)), (118, .int .i64 0)] rfl ⟨rfl, rfl, rfl, rfl, rfl, rfl, rfl, rfl, rfl, rfl, rfl, rfl, rfl, rfl, rfl, trivial⟩ ?_
                  refine WO_end ?_
                  obtain ⟨x75, hx76, hx55⟩ := bind_some hx55
                  refine WK_join (β := (List Int) × (List Ent)) (fun p => p.1 = x75 ∧ OwnE 3 1 (I1 .i64) (.slice a3 ((l_1).length) c4) p.1 p.2) (fun p => [(1, .int .i64 p1), (2, .int .i64 p2), (4, .pointer (some ⟨b1, 0, none⟩)), (8, .pointer (some ⟨b2, 0, none⟩)), (9, .pointer (some ⟨b6, 0, none⟩)), (10, .int .i64 (([1, 0, -1, 0, 0, 1, 0, -1, 1, 1, -1, -1, 1, -1, -1, 1] : List Int).getD (0 + p3.toNat * 2) (0 : Int))), (11, .int .i64 (([1, 0, -1, 0, 0, 1, 0, -1, 1, 1, -1, -1, 1, -1, -1, 1] : List Int).getD ((0 + p3.toNat * 2) + 1) (0 : Int))), (12, .int .i64 (w64 (p0_0 * p0_1))), (47, .int .i64 (w64 (p0_0 * p0_1))), (48, .int .i64 s_6)]) (fun p => St w0 m m46 [[⟨b1, 24, [.int .i64 p0_0, .int .i64 p0_1, .int .i64 p0_2, .slice a_p0_3 p0_3.length c_p0_3]⟩], [⟨b2, 24, [.int .i64 0, .int .i64 0, .int .i64 0, .slice none 0 0]⟩], [⟨b6, 24, [.int .i64 s_2, .int .i64 s_3, .int .i64 s_4, .slice a3 ((l_1).length) c4]⟩], p.2, L44, L71]) ?_ (fun hk77 => ?_)
                  · rintro ⟨l_21, L74⟩ ⟨hq83, hL74⟩
                    subst hq83
                    refine WK.sub (e' := [(1, .int .i64 p1), (2, .int .i64 p2), (4, .pointer (some ⟨b1, 0, none⟩)), (8, .pointer (some ⟨b2, 0, none⟩)), (9, .pointer (some ⟨b6, 0, none⟩)), (10, .int .i64 (([1, 0, -1, 0, 0, 1, 0, -1, 1, 1, -1, -1, 1, -1, -1, 1] : List Int).getD (0 + p3.toNat * 2) (0 : Int))), (11, .int .i64 (([1, 0, -1, 0, 0, 1, 0, -1, 1, 1, -1, -1, 1, -1, -1, 1] : List Int).getD ((0 + p3.toNat * 2) + 1) (0 : Int))), (12, .int .i64 (w64 (p0_0 * p0_1))), (47, .int .i64 (w64 (p0_0 * p0_1))), (48, .int .i64 s_6)]) ⟨rfl, rfl, rfl, rfl, rfl, rfl, rfl, rfl, rfl, rfl, trivial⟩ (WK.cls (C' := St w0 m m46 [[⟨b1, 24, [.int .i64 p0_0, .int .i64 p0_1, .int .i64 p0_2, .slice a_p0_3 p0_3.length c_p0_3]⟩], [⟨b2, 24, [.int .i64 0, .int .i64 0, .int .i64 0, .slice none 0 0]⟩], [⟨b6, 24, [.int .i64 s_2, .int .i64 s_3, .int .i64 s_4, .slice a3 ((l_1).length) c4]⟩], L74, L44, L71]) (fun _ h => h) ?_)
                    cases hx55
                    refine WK.sub ?_ (WK.cls (fun _ h => St.take 5 h) (hk56 L74 hL74))
                    exact ⟨rfl, rfl, rfl, rfl, rfl, rfl, rfl, rfl, rfl, rfl, trivial⟩
                  · refine WK_block ?_
                    refine WK_loop (S := List Int × Int) (G := List Ent) (fun s => aggregate_path_s2 k_10 k_11 y_17 y_18 s.1 s.2) (fun s g => [(1, .int .i64 p1), (2, .int .i64 p2), (4, .pointer (some ⟨b1, 0, none⟩)), (8, .pointer (some ⟨b2, 0, none⟩)), (9, .pointer (some ⟨b6, 0, none⟩)), (10, .int .i64 (([1, 0, -1, 0, 0, 1, 0, -1, 1, 1, -1, -1, 1, -1, -1, 1] : List Int).getD (0 + p3.toNat * 2) (0 : Int))), (11, .int .i64 (([1, 0, -1, 0, 0, 1, 0, -1, 1, 1, -1, -1, 1, -1, -1, 1] : List Int).getD ((0 + p3.toNat * 2) + 1) (0 : Int))), (12, .int .i64 (w64 (p0_0 * p0_1))), (16, .slice a37 k_11 c38), (20, .int .i64 y_17), (47, .int .i64 (w64 (p0_0 * p0_1))), (48, .int .i64 s_6), (116, .slice a69 ((y_18).length) c70), (117, .int .i64 ((y_18).length : Int)), (118, .int .i64 s.2)]) (fun s g => St w0 m m46 [[⟨b1, 24, [.int .i64 p0_0, .int .i64 p0_1, .int .i64 p0_2, .slice a_p0_3 p0_3.length c_p0_3]⟩], [⟨b2, 24, [.int .i64 0, .int .i64 0, .int .i64 0, .slice none 0 0]⟩], [⟨b6, 24, [.int .i64 s_2, .int .i64 s_3, .int .i64 s_4, .slice a3 ((l_1).length) c4]⟩], g, L44, L71]) (fun s g => OwnE 3 1 (I1 .i64) (.slice a3 ((l_1).length) c4) s.1 g) FUEL ((cpy l_5 k_10 k_11 y_12), 0) L50 x75 hx76 hL50 ⟨rfl, rfl, rfl, rfl, rfl, rfl, rfl, rfl, rfl, rfl, rfl, rfl, rfl, rfl, rfl, trivial⟩ (fun _ h => h) ?_
                    rintro ⟨l_19, s_20⟩ L73 o79 fl80 hm78 hL73 hn81 hd82
                    have hm78 : aggregate_path_s2 k_10 k_11 y_17 y_18 l_19 s_20 = some o79 := hm78
                    unfold aggregate_path_s2 at hm78
                    refine WK.sub (e' := [(1, .int .i64 p1), (2, .int .i64 p2), (4, .pointer (some ⟨b1, 0, none⟩)), (8, .pointer (some ⟨b2, 0, none⟩)), (9, .pointer (some ⟨b6, 0, none⟩)), (10, .int .i64 (([1, 0, -1, 0, 0, 1, 0, -1, 1, 1, -1, -1, 1, -1, -1, 1] : List Int).getD (0 + p3.toNat * 2) (0 : Int))), (11, .int .i64 (([1, 0, -1, 0, 0, 1, 0, -1, 1, 1, -1, -1, 1, -1, -1, 1] : List Int).getD ((0 + p3.toNat * 2) + 1) (0 : Int))), (12, .int .i64 (w64 (p0_0 * p0_1))), (16, .slice a37 k_11 c38), (20, .int .i64 y_17), (47, .int .i64 (w64 (p0_0 * p0_1))), (48, .int .i64 s_6), (116, .slice a69 ((y_18).length) c70), (117, .int .i64 ((y_18).length : Int)), (118, .int .i64 s_20)]) ⟨rfl, rfl, rfl, rfl, rfl, rfl, rfl, rfl, rfl, rfl, rfl, rfl, rfl, rfl, rfl, trivial⟩ (WK.cls (C' := St w0 m m46 [[⟨b1, 24, [.int .i64 p0_0, .int .i64 p0_1, .int .i64 p0_2, .slice a_p0_3 p0_3.length c_p0_3]⟩], [⟨b2, 24, [.int .i64 0, .int .i64 0, .int .i64 0, .slice none 0 0]⟩], [⟨b6, 24, [.int .i64 s_2, .int .i64 s_3, .int .i64 s_4, .slice a3 ((l_1).length) c4]⟩], L73, L44, L71]) (fun _ h => h) ?_)
                    refine WK_seq ?_
                    refine WK_region ?_
                    refine WO_pure tbok 1 [(1, .int .i64 p1), (2, .int .i64 p2), (4, .pointer (some ⟨b1, 0, none⟩)), (8, .pointer (some ⟨b2, 0, none⟩)), (9, .pointer (some ⟨b6, 0, none⟩)), (10, .int .i64 (([1, 0, -1, 0, 0, 1, 0, -1, 1, 1, -1, -1, 1, -1, -1, 1] : List Int).getD (0 + p3.toNat * 2) (0 : Int))), (11, .int .i64 (([1, 0, -1, 0, 0, 1, 0, -1, 1, 1, -1, -1, 1, -1, -1, 1] : List Int).getD ((0 + p3.toNat * 2) + 1) (0 : Int))), (12, .int .i64 (w64 (p0_0 * p0_1))), (16, .slice a37 k_11 c38), (20, .int .i64 y_17), (47, .int .i64 (w64 (p0_0 * p0_1))), (48, .int .i64 s_6), (116, .slice a69 ((y_18).length) c70), (117, .int .i64 ((y_18).length : Int)), (118, .int .i64 s_20), (119, .bool (decide (s_20 < ((y_18).length : Int))))] rfl ⟨rfl, rfl, rfl, rfl, rfl, rfl, rfl, rfl, rfl, rfl, rfl, rfl, rfl, rfl, rfl, rfl, trivial⟩ ?_
                    refine WO_end ?_
                    refine WK_seq ?_
                    refine WK_cond (b := decide (s_20 < ((y_18).length : Int))) rfl (fun hb84 => ?_) (fun hb84 => ?_)
                    · have hm78 := ifT hb84 hm78
                      refine WK_skip ?_
                      refine WK_seq ?_
                      refine WK_block ?_
                      refine WK_seq ?_
                      refine WK_region ?_
                      refine WO_pure tbok 1 [(1, .int .i64 p1), (2, .int .i64 p2), (4, .pointer (some ⟨b1, 0, none⟩)), (8, .pointer (some ⟨b2, 0, none⟩)), (9, .pointer (some ⟨b6, 0, none⟩)), (10, .int .i64 (([1, 0, -1, 0, 0, 1, 0, -1, 1, 1, -1, -1, 1, -1, -1, 1] : List Int).getD (0 + p3.toNat * 2) (0 : Int))), (11, .int .i64 (([1, 0, -1, 0, 0, 1, 0, -1, 1, 1, -1, -1, 1, -1, -1, 1] : List Int).getD ((0 + p3.toNat * 2) + 1) (0 : Int))), (12, .int .i64 (w64 (p0_0 * p0_1))), (16, .slice a37 k_11 c38), (20, .int .i64 y_17), (47, .int .i64 (w64 (p0_0 * p0_1))), (48, .int .i64 s_6), (116, .slice a69 ((y_18).length) c70), (117, .int .i64 ((y_18).length : Int)), (118, .int .i64 s_20), (120, .int .i64 s_20)] rfl ⟨rfl, rfl, rfl, rfl, rfl, rfl, rfl, rfl, rfl, rfl, rfl, rfl, rfl, rfl, rfl, rfl, trivial⟩ ?_
                      obtain ⟨v_22, hy85, hm78⟩ := bind_some hm78
                      obtain ⟨hc86, hy85⟩ := ix_some hy85
                      refine WO_index tbok rfl rfl rfl rfl rfl rfl rfl rfl (OwnE.addr hL71) (by simpa using hc86) ?_
                      refine WO_loadO (E := (I1 .i64)) tbok (fun _ => rfl) 5 rfl rfl rfl rfl (fun _ h => h) hL71 rfl hy85 rfl ?_
                      refine WO_pure tbok 2 [(1, .int .i64 p1), (2, .int .i64 p2), (4, .pointer (some ⟨b1, 0, none⟩)), (8, .pointer (some ⟨b2, 0, none⟩)), (9, .pointer (some ⟨b6, 0, none⟩)), (10, .int .i64 (([1, 0, -1, 0, 0, 1, 0, -1, 1, 1, -1, -1, 1, -1, -1, 1] : List Int).getD (0 + p3.toNat * 2) (0 : Int))), (11, .int .i64 (([1, 0, -1, 0, 0, 1, 0, -1, 1, 1, -1, -1, 1, -1, -1, 1] : List Int).getD ((0 + p3.toNat * 2) + 1) (0 : Int))), (12, .int .i64 (w64 (p0_0 * p0_1))), (16, .slice a37 k_11 c38), (20, .int .i64 y_17), (21, .int .i64 s_20), (22, .int .i64 v_22), (47, .int .i64 (w64 (p0_0 * p0_1))), (48, .int .i64 s_6), (116, .slice a69 ((y_18).length) c70), (117, .int .i64 ((y_18).length : Int)), (118, .int .i64 s_20)] rfl ⟨rfl, rfl, rfl, rfl, rfl, rfl, rfl, rfl, rfl, rfl, rfl, rfl, rfl, rfl, rfl, rfl, rfl, trivial⟩ ?_
                      refine WO_end ?_
                      refine WK_region ?_
                      refine WO_pure tbok 2 [(1, .int .i64 p1), (2, .int .i64 p2), (4, .pointer (some ⟨b1, 0, none⟩)), (8, .pointer (some ⟨b2, 0, none⟩)), (9, .pointer (some ⟨b6, 0, none⟩)), (10, .int .i64 (([1, 0, -1, 0, 0, 1, 0, -1, 1, 1, -1, -1, 1, -1, -1, 1] : List Int).getD (0 + p3.toNat * 2) (0 : Int))), (11, .int .i64 (([1, 0, -1, 0, 0, 1, 0, -1, 1, 1, -1, -1, 1, -1, -1, 1] : List Int).getD ((0 + p3.toNat * 2) + 1) (0 : Int))), (12, .int .i64 (w64 (p0_0 * p0_1))), (16, .slice a37 k_11 c38), (20, .int .i64 y_17), (22, .int .i64 v_22), (47, .int .i64 (w64 (p0_0 * p0_1))), (48, .int .i64 s_6), (116, .slice a69 ((y_18).length) c70), (117, .int .i64 ((y_18).length : Int)), (118, .int .i64 s_20), (123, .slice a37 k_11 c38), (124, .int .i64 s_20)] rfl ⟨rfl, rfl, rfl, rfl, rfl, rfl, rfl, rfl, rfl, rfl, rfl, rfl, rfl, rfl, rfl, rfl, rfl, rfl, trivial⟩ ?_
                      obtain ⟨hc87, hm78⟩ := chk_some hm78
                      have hc87 : 0 ≤ s_20 ∧ s_20 < ((k_11 : Nat) : Int) ∧ k_10 + k_11 ≤ l_19.length := hc87
                      refine WO_index tbok rfl rfl rfl rfl rfl rfl rfl rfl (Vw.addr h39 hL73) ⟨hc87.1, hc87.2.1⟩ ?_
                      refine WO_loadW (E := (I1 .i64)) tbok (fun _ => rfl) 3 rfl rfl rfl rfl (fun _ h => h) hL73 h39 rfl (getD_some (0 : Int) (show k_10 + s_20.toNat < l_19.length by have := hc87; omega)) rfl ?_
                      refine WO_pure tbok 4 [(1, .int .i64 p1), (2, .int .i64 p2), (4, .pointer (some ⟨b1, 0, none⟩)), (8, .pointer (some ⟨b2, 0, none⟩)), (9, .pointer (some ⟨b6, 0, none⟩)), (10, .int .i64 (([1, 0, -1, 0, 0, 1, 0, -1, 1, 1, -1, -1, 1, -1, -1, 1] : List Int).getD (0 + p3.toNat * 2) (0 : Int))), (11, .int .i64 (([1, 0, -1, 0, 0, 1, 0, -1, 1, 1, -1, -1, 1, -1, -1, 1] : List Int).getD ((0 + p3.toNat * 2) + 1) (0 : Int))), (12, .int .i64 (w64 (p0_0 * p0_1))), (16, .slice a37 k_11 c38), (20, .int .i64 y_17), (47, .int .i64 (w64 (p0_0 * p0_1))), (48, .int .i64 s_6), (116, .slice a69 ((y_18).length) c70), (117, .int .i64 ((y_18).length : Int)), (118, .int .i64 s_20), (123, .slice a37 k_11 c38), (124, .int .i64 s_20), (130, .int .i64 (w64 ((l_19.getD (k_10 + s_20.toNat) (0 : Int)) + (w64 (v_22 - y_17)))))] rfl ⟨rfl, rfl, rfl, rfl, rfl, rfl, rfl, rfl, rfl, rfl, rfl, rfl, rfl, rfl, rfl, rfl, rfl, rfl, trivial⟩ ?_
                      obtain ⟨hc88, hm78⟩ := chk_some hm78
                      have hc88 : 0 ≤ s_20 ∧ s_20 < ((k_11 : Nat) : Int) ∧ k_10 + k_11 ≤ l_19.length := hc88
                      refine WO_index tbok rfl rfl rfl rfl rfl rfl rfl rfl (Vw.addr h39 hL73) ⟨hc88.1, hc88.2.1⟩ ?_
                      refine WO_storeW (E := (I1 .i64)) tbok (fun _ => rfl) 3 (w64 ((l_19.getD (k_10 + s_20.toNat) (0 : Int)) + (w64 (v_22 - y_17)))) rfl rfl rfl rfl rfl hL73 h39 rfl (show k_10 + s_20.toNat < l_19.length by have := hc88; omega) rfl rfl rfl rfl (fun L89 hL89 => ?_)
                      refine WO.cls (C' := St w0 m m46 [[⟨b1, 24, [.int .i64 p0_0, .int .i64 p0_1, .int .i64 p0_2, .slice a_p0_3 p0_3.length c_p0_3]⟩], [⟨b2, 24, [.int .i64 0, .int .i64 0, .int .i64 0, .slice none 0 0]⟩], [⟨b6, 24, [.int .i64 s_2, .int .i64 s_3, .int .i64 s_4, .slice a3 ((l_1).length) c4]⟩], L89, L44, L71]) (fun _ h => h) ?_
                      refine WO_end ?_
                      refine WK_blk ?_
                      refine WK_region ?_
                      refine WO_pure tbok 2 [(1, .int .i64 p1), (2, .int .i64 p2), (4, .pointer (some ⟨b1, 0, none⟩)), (8, .pointer (some ⟨b2, 0, none⟩)), (9, .pointer (some ⟨b6, 0, none⟩)), (10, .int .i64 (([1, 0, -1, 0, 0, 1, 0, -1, 1, 1, -1, -1, 1, -1, -1, 1] : List Int).getD (0 + p3.toNat * 2) (0 : Int))), (11, .int .i64 (([1, 0, -1, 0, 0, 1, 0, -1, 1, 1, -1, -1, 1, -1, -1, 1] : List Int).getD ((0 + p3.toNat * 2) + 1) (0 : Int))), (12, .int .i64 (w64 (p0_0 * p0_1))), (16, .slice a37 k_11 c38), (20, .int .i64 y_17), (47, .int .i64 (w64 (p0_0 * p0_1))), (48, .int .i64 s_6), (116, .slice a69 ((y_18).length) c70), (117, .int .i64 ((y_18).length : Int)), (118, .int .i64 (w64 (s_20 + 1)))] rfl ⟨rfl, rfl, rfl, rfl, rfl, rfl, rfl, rfl, rfl, rfl, rfl, rfl, rfl, rfl, rfl, trivial⟩ ?_
                      refine WO_end ?_
                      cases hm78
                      refine WK.sub ?_ (WK.cls (fun _ h => h) (hn81 _ L89 rfl hL89))
                      exact ⟨rfl, rfl, rfl, rfl, rfl, rfl, rfl, rfl, rfl, rfl, rfl, rfl, rfl, rfl, rfl, trivial⟩
                    · have hm78 := ifF hb84 hm78
                      refine WK_exit rfl ?_
                      cases hm78
                      refine WK.sub ?_ (WK.cls (fun _ h => h) (hk77 (l_19, L73) ⟨(hd82 _ rfl), hL73⟩))
                      exact ⟨rfl, rfl, rfl, rfl, rfl, rfl, rfl, rfl, rfl, rfl, trivial⟩
                · have hx55 := ifF hb57 hx55
                  refine WK_skip ?_
                  cases hx55
                  refine WK.sub ?_ (WK.cls (fun _ h => h) (hk56 L50 hL50))
                  exact ⟨rfl, rfl, rfl, rfl, rfl, rfl, rfl, rfl, rfl, rfl, trivial⟩
            · refine WK_region ?_
              refine WO_pure tbok 3 [(1, .int .i64 p1), (2, .int .i64 p2), (4, .pointer (some ⟨b1, 0, none⟩)), (8, .pointer (some ⟨b2, 0, none⟩)), (9, .pointer (some ⟨b6, 0, none⟩)), (10, .int .i64 (([1, 0, -1, 0, 0, 1, 0, -1, 1, 1, -1, -1, 1, -1, -1, 1] : List Int).getD (0 + p3.toNat * 2) (0 : Int))), (11, .int .i64 (([1, 0, -1, 0, 0, 1, 0, -1, 1, 1, -1, -1, 1, -1, -1, 1] : List Int).getD ((0 + p3.toNat * 2) + 1) (0 : Int))), (12, .int .i64 (w64 (p0_0 * p0_1))), (16, .slice a37 k_11 c38), (17, .int .i64 (w64 ((Int.tmod s_9 p0_0) - (([1, 0, -1, 0, 0, 1, 0, -1, 1, 1, -1, -1, 1, -1, -1, 1] : List Int).getD (0 + p3.toNat * 2) (0 : Int))))), (18, .int .i64 (w64 ((w64 (Int.tdiv s_9 p0_0)) - (([1, 0, -1, 0, 0, 1, 0, -1, 1, 1, -1, -1, 1, -1, -1, 1] : List Int).getD ((0 + p3.toNat * 2) + 1) (0 : Int))))), (47, .int .i64 (w64 (p0_0 * p0_1))), (48, .int .i64 s_6), (91, .bool (decide (0 ≤ (w64 ((Int.tmod s_9 p0_0) - (([1, 0, -1, 0, 0, 1, 0, -1, 1, 1, -1, -1, 1, -1, -1, 1] : List Int).getD (0 + p3.toNat * 2) (0 : Int)))))))] rfl ⟨rfl, rfl, rfl, rfl, rfl, rfl, rfl, rfl, rfl, rfl, rfl, rfl, rfl, rfl, trivial⟩ ?_
              refine WO_split (d := 91) (b := decide (0 ≤ (w64 ((Int.tmod s_9 p0_0) - (([1, 0, -1, 0, 0, 1, 0, -1, 1, 1, -1, -1, 1, -1, -1, 1] : List Int).getD (0 + p3.toNat * 2) (0 : Int)))))) rfl (fun hb90 => ?_) (fun hb90 => ?_)
              · have hx52 := ifT hb90 hx52
                refine WO_pure tbok 2 [(1, .int .i64 p1), (2, .int .i64 p2), (4, .pointer (some ⟨b1, 0, none⟩)), (8, .pointer (some ⟨b2, 0, none⟩)), (9, .pointer (some ⟨b6, 0, none⟩)), (10, .int .i64 (([1, 0, -1, 0, 0, 1, 0, -1, 1, 1, -1, -1, 1, -1, -1, 1] : List Int).getD (0 + p3.toNat * 2) (0 : Int))), (11, .int .i64 (([1, 0, -1, 0, 0, 1, 0, -1, 1, 1, -1, -1, 1, -1, -1, 1] : List Int).getD ((0 + p3.toNat * 2) + 1) (0 : Int))), (12, .int .i64 (w64 (p0_0 * p0_1))), (16, .slice a37 k_11 c38), (17, .int .i64 (w64 ((Int.tmod s_9 p0_0) - (([1, 0, -1, 0, 0, 1, 0, -1, 1, 1, -1, -1, 1, -1, -1, 1] : List Int).getD (0 + p3.toNat * 2) (0 : Int))))), (18, .int .i64 (w64 ((w64 (Int.tdiv s_9 p0_0)) - (([1, 0, -1, 0, 0, 1, 0, -1, 1, 1, -1, -1, 1, -1, -1, 1] : List Int).getD ((0 + p3.toNat * 2) + 1) (0 : Int))))), (47, .int .i64 (w64 (p0_0 * p0_1))), (48, .int .i64 s_6), (91, .bool true), (92, .int .i64 (w64 ((Int.tmod s_9 p0_0) - (([1, 0, -1, 0, 0, 1, 0, -1, 1, 1, -1, -1, 1, -1, -1, 1] : List Int).getD (0 + p3.toNat * 2) (0 : Int))))), (93, .pointer (some ⟨b1, 0, none⟩))] rfl ⟨rfl, rfl, rfl, rfl, rfl, rfl, rfl, rfl, rfl, rfl, rfl, rfl, rfl, rfl, rfl, rfl, trivial⟩ ?_
                refine WO_loadB tbok 0 rfl rfl rfl rfl (fun _ h => h) rfl rfl ?_
                refine WO_pure tbok 3 [(1, .int .i64 p1), (2, .int .i64 p2), (4, .pointer (some ⟨b1, 0, none⟩)), (8, .pointer (some ⟨b2, 0, none⟩)), (9, .pointer (some ⟨b6, 0, none⟩)), (10, .int .i64 (([1, 0, -1, 0, 0, 1, 0, -1, 1, 1, -1, -1, 1, -1, -1, 1] : List Int).getD (0 + p3.toNat * 2) (0 : Int))), (11, .int .i64 (([1, 0, -1, 0, 0, 1, 0, -1, 1, 1, -1, -1, 1, -1, -1, 1] : List Int).getD ((0 + p3.toNat * 2) + 1) (0 : Int))), (12, .int .i64 (w64 (p0_0 * p0_1))), (16, .slice a37 k_11 c38), (17, .int .i64 (w64 ((Int.tmod s_9 p0_0) - (([1, 0, -1, 0, 0, 1, 0, -1, 1, 1, -1, -1, 1, -1, -1, 1] : List Int).getD (0 + p3.toNat * 2) (0 : Int))))), (18, .int .i64 (w64 ((w64 (Int.tdiv s_9 p0_0)) - (([1, 0, -1, 0, 0, 1, 0, -1, 1, 1, -1, -1, 1, -1, -1, 1] : List Int).getD ((0 + p3.toNat * 2) + 1) (0 : Int))))), (47, .int .i64 (w64 (p0_0 * p0_1))), (48, .int .i64 s_6), (97, .bool (decide ((w64 ((Int.tmod s_9 p0_0) - (([1, 0, -1, 0, 0, 1, 0, -1, 1, 1, -1, -1, 1, -1, -1, 1] : List Int).getD (0 + p3.toNat * 2) (0 : Int)))) < p0_0)))] rfl ⟨rfl, rfl, rfl, rfl, rfl, rfl, rfl, rfl, rfl, rfl, rfl, rfl, rfl, rfl, trivial⟩ ?_
                refine WO_split (d := 97) (b := decide ((w64 ((Int.tmod s_9 p0_0) - (([1, 0, -1, 0, 0, 1, 0, -1, 1, 1, -1, -1, 1, -1, -1, 1] : List Int).getD (0 + p3.toNat * 2) (0 : Int)))) < p0_0)) rfl (fun hb91 => ?_) (fun hb91 => ?_)
                · have hx52 := ifT hb91 hx52
                  refine WO_pure tbok 4 [(1, .int .i64 p1), (2, .int .i64 p2), (4, .pointer (some ⟨b1, 0, none⟩)), (8, .pointer (some ⟨b2, 0, none⟩)), (9, .pointer (some ⟨b6, 0, none⟩)), (10, .int .i64 (([1, 0, -1, 0, 0, 1, 0, -1, 1, 1, -1, -1, 1, -1, -1, 1] : List Int).getD (0 + p3.toNat * 2) (0 : Int))), (11, .int .i64 (([1, 0, -1, 0, 0, 1, 0, -1, 1, 1, -1, -1, 1, -1, -1, 1] : List Int).getD ((0 + p3.toNat * 2) + 1) (0 : Int))), (12, .int .i64 (w64 (p0_0 * p0_1))), (16, .slice a37 k_11 c38), (17, .int .i64 (w64 ((Int.tmod s_9 p0_0) - (([1, 0, -1, 0, 0, 1, 0, -1, 1, 1, -1, -1, 1, -1, -1, 1] : List Int).getD (0 + p3.toNat * 2) (0 : Int))))), (18, .int .i64 (w64 ((w64 (Int.tdiv s_9 p0_0)) - (([1, 0, -1, 0, 0, 1, 0, -1, 1, 1, -1, -1, 1, -1, -1, 1] : List Int).getD ((0 + p3.toNat * 2) + 1) (0 : Int))))), (47, .int .i64 (w64 (p0_0 * p0_1))), (48, .int .i64 s_6), (101, .bool (decide (0 ≤ (w64 ((w64 (Int.tdiv s_9 p0_0)) - (([1, 0, -1, 0, 0, 1, 0, -1, 1, 1, -1, -1, 1, -1, -1, 1] : List Int).getD ((0 + p3.toNat * 2) + 1) (0 : Int)))))))] rfl ⟨rfl, rfl, rfl, rfl, rfl, rfl, rfl, rfl, rfl, rfl, rfl, rfl, rfl, rfl, trivial⟩ ?_
                  refine WO_split (d := 101) (b := decide (0 ≤ (w64 ((w64 (Int.tdiv s_9 p0_0)) - (([1, 0, -1, 0, 0, 1, 0, -1, 1, 1, -1, -1, 1, -1, -1, 1] : List Int).getD ((0 + p3.toNat * 2) + 1) (0 : Int)))))) rfl (fun hb92 => ?_) (fun hb92 => ?_)
                  · have hx52 := ifT hb92 hx52
                    refine WO_pure tbok 2 [(1, .int .i64 p1), (2, .int .i64 p2), (4, .pointer (some ⟨b1, 0, none⟩)), (8, .pointer (some ⟨b2, 0, none⟩)), (9, .pointer (some ⟨b6, 0, none⟩)), (10, .int .i64 (([1, 0, -1, 0, 0, 1, 0, -1, 1, 1, -1, -1, 1, -1, -1, 1] : List Int).getD (0 + p3.toNat * 2) (0 : Int))), (11, .int .i64 (([1, 0, -1, 0, 0, 1, 0, -1, 1, 1, -1, -1, 1, -1, -1, 1] : List Int).getD ((0 + p3.toNat * 2) + 1) (0 : Int))), (12, .int .i64 (w64 (p0_0 * p0_1))), (16, .slice a37 k_11 c38), (17, .int .i64 (w64 ((Int.tmod s_9 p0_0) - (([1, 0, -1, 0, 0, 1, 0, -1, 1, 1, -1, -1, 1, -1, -1, 1] : List Int).getD (0 + p3.toNat * 2) (0 : Int))))), (18, .int .i64 (w64 ((w64 (Int.tdiv s_9 p0_0)) - (([1, 0, -1, 0, 0, 1, 0, -1, 1, 1, -1, -1, 1, -1, -1, 1] : List Int).getD ((0 + p3.toNat * 2) + 1) (0 : Int))))), (47, .int .i64 (w64 (p0_0 * p0_1))), (48, .int .i64 s_6), (101, .bool true), (102, .int .i64 (w64 ((w64 (Int.tdiv s_9 p0_0)) - (([1, 0, -1, 0, 0, 1, 0, -1, 1, 1, -1, -1, 1, -1, -1, 1] : List Int).getD ((0 + p3.toNat * 2) + 1) (0 : Int))))), (103, .pointer (some ⟨b1, 1, none⟩))] rfl ⟨rfl, rfl, rfl, rfl, rfl, rfl, rfl, rfl, rfl, rfl, rfl, rfl, rfl, rfl, rfl, rfl, trivial⟩ ?_
                    refine WO_loadB tbok 0 rfl rfl rfl rfl (fun _ h => h) rfl rfl ?_
                    refine WO_pure tbok 2 [(1, .int .i64 p1), (2, .int .i64 p2), (4, .pointer (some ⟨b1, 0, none⟩)), (8, .pointer (some ⟨b2, 0, none⟩)), (9, .pointer (some ⟨b6, 0, none⟩)), (10, .int .i64 (([1, 0, -1, 0, 0, 1, 0, -1, 1, 1, -1, -1, 1, -1, -1, 1] : List Int).getD (0 + p3.toNat * 2) (0 : Int))), (11, .int .i64 (([1, 0, -1, 0, 0, 1, 0, -1, 1, 1, -1, -1, 1, -1, -1, 1] : List Int).getD ((0 + p3.toNat * 2) + 1) (0 : Int))), (12, .int .i64 (w64 (p0_0 * p0_1))), (16, .slice a37 k_11 c38), (17, .int .i64 (w64 ((Int.tmod s_9 p0_0) - (([1, 0, -1, 0, 0, 1, 0, -1, 1, 1, -1, -1, 1, -1, -1, 1] : List Int).getD (0 + p3.toNat * 2) (0 : Int))))), (18, .int .i64 (w64 ((w64 (Int.tdiv s_9 p0_0)) - (([1, 0, -1, 0, 0, 1, 0, -1, 1, 1, -1, -1, 1, -1, -1, 1] : List Int).getD ((0 + p3.toNat * 2) + 1) (0 : Int))))), (47, .int .i64 (w64 (p0_0 * p0_1))), (48, .int .i64 s_6), (106, .bool (decide ((w64 ((w64 (Int.tdiv s_9 p0_0)) - (([1, 0, -1, 0, 0, 1, 0, -1, 1, 1, -1, -1, 1, -1, -1, 1] : List Int).getD ((0 + p3.toNat * 2) + 1) (0 : Int)))) < p0_1)))] rfl ⟨rfl, rfl, rfl, rfl, rfl, rfl, rfl, rfl, rfl, rfl, rfl, rfl, rfl, rfl, trivial⟩ ?_
                    refine WO_end ?_
                    cases hx52
                    refine WK.sub ?_ (WK.cls (fun _ h => h) hk53)
                    exact ⟨rfl, rfl, rfl, rfl, rfl, rfl, rfl, rfl, rfl, rfl, rfl, rfl, rfl, rfl, trivial⟩
                  · have hx52 := ifF hb92 hx52
                    refine WO_pure tbok 5 [(1, .int .i64 p1), (2, .int .i64 p2), (4, .pointer (some ⟨b1, 0, none⟩)), (8, .pointer (some ⟨b2, 0, none⟩)), (9, .pointer (some ⟨b6, 0, none⟩)), (10, .int .i64 (([1, 0, -1, 0, 0, 1, 0, -1, 1, 1, -1, -1, 1, -1, -1, 1] : List Int).getD (0 + p3.toNat * 2) (0 : Int))), (11, .int .i64 (([1, 0, -1, 0, 0, 1, 0, -1, 1, 1, -1, -1, 1, -1, -1, 1] : List Int).getD ((0 + p3.toNat * 2) + 1) (0 : Int))), (12, .int .i64 (w64 (p0_0 * p0_1))), (16, .slice a37 k_11 c38), (17, .int .i64 (w64 ((Int.tmod s_9 p0_0) - (([1, 0, -1, 0, 0, 1, 0, -1, 1, 1, -1, -1, 1, -1, -1, 1] : List Int).getD (0 + p3.toNat * 2) (0 : Int))))), (18, .int .i64 (w64 ((w64 (Int.tdiv s_9 p0_0)) - (([1, 0, -1, 0, 0, 1, 0, -1, 1, 1, -1, -1, 1, -1, -1, 1] : List Int).getD ((0 + p3.toNat * 2) + 1) (0 : Int))))), (47, .int .i64 (w64 (p0_0 * p0_1))), (48, .int .i64 s_6), (106, .bool false)] rfl ⟨rfl, rfl, rfl, rfl, rfl, rfl, rfl, rfl, rfl, rfl, rfl, rfl, rfl, rfl, trivial⟩ ?_
                    refine WO_end ?_
                    cases hx52
                    refine WK.sub ?_ (WK.cls (fun _ h => h) hk53)
                    exact ⟨rfl, rfl, rfl, rfl, rfl, rfl, rfl, rfl, rfl, rfl, rfl, rfl, rfl, rfl, trivial⟩
                · have hx52 := ifF hb91 hx52
                  refine WO_pure tbok 9 [(1, .int .i64 p1), (2, .int .i64 p2), (4, .pointer (some ⟨b1, 0, none⟩)), (8, .pointer (some ⟨b2, 0, none⟩)), (9, .pointer (some ⟨b6, 0, none⟩)), (10, .int .i64 (([1, 0, -1, 0, 0, 1, 0, -1, 1, 1, -1, -1, 1, -1, -1, 1] : List Int).getD (0 + p3.toNat * 2) (0 : Int))), (11, .int .i64 (([1, 0, -1, 0, 0, 1, 0, -1, 1, 1, -1, -1, 1, -1, -1, 1] : List Int).getD ((0 + p3.toNat * 2) + 1) (0 : Int))), (12, .int .i64 (w64 (p0_0 * p0_1))), (16, .slice a37 k_11 c38), (17, .int .i64 (w64 ((Int.tmod s_9 p0_0) - (([1, 0, -1, 0, 0, 1, 0, -1, 1, 1, -1, -1, 1, -1, -1, 1] : List Int).getD (0 + p3.toNat * 2) (0 : Int))))), (18, .int .i64 (w64 ((w64 (Int.tdiv s_9 p0_0)) - (([1, 0, -1, 0, 0, 1, 0, -1, 1, 1, -1, -1, 1, -1, -1, 1] : List Int).getD ((0 + p3.toNat * 2) + 1) (0 : Int))))), (47, .int .i64 (w64 (p0_0 * p0_1))), (48, .int .i64 s_6), (106, .bool false)] rfl ⟨rfl, rfl, rfl, rfl, rfl, rfl, rfl, rfl, rfl, rfl, rfl, rfl, rfl, rfl, trivial⟩ ?_
                  refine WO_end ?_
                  cases hx52
                  refine WK.sub ?_ (WK.cls (fun _ h => h) hk53)
                  exact ⟨rfl, rfl, rfl, rfl, rfl, rfl, rfl, rfl, rfl, rfl, rfl, rfl, rfl, rfl, trivial⟩
              · have hx52 := ifF hb90 hx52
                refine WO_pure tbok 15 [(1, .int .i64 p1), (2, .int .i64 p2), (4, .pointer (some ⟨b1, 0, none⟩)), (8, .pointer (some ⟨b2, 0, none⟩)), (9, .pointer (some ⟨b6, 0, none⟩)), (10, .int .i64 (([1, 0, -1, 0, 0, 1, 0, -1, 1, 1, -1, -1, 1, -1, -1, 1] : List Int).getD (0 + p3.toNat * 2) (0 : Int))), (11, .int .i64 (([1, 0, -1, 0, 0, 1, 0, -1, 1, 1, -1, -1, 1, -1, -1, 1] : List Int).getD ((0 + p3.toNat * 2) + 1) (0 : Int))), (12, .int .i64 (w64 (p0_0 * p0_1))), (16, .slice a37 k_11 c38), (17, .int .i64 (w64 ((Int.tmod s_9 p0_0) - (([1, 0, -1, 0, 0, 1, 0, -1, 1, 1, -1, -1, 1, -1, -1, 1] : List Int).getD (0 + p3.toNat * 2) (0 : Int))))), (18, .int .i64 (w64 ((w64 (Int.tdiv s_9 p0_0)) - (([1, 0, -1, 0, 0, 1, 0, -1, 1, 1, -1, -1, 1, -1, -1, 1] : List Int).getD ((0 + p3.toNat * 2) + 1) (0 : Int))))), (47, .int .i64 (w64 (p0_0 * p0_1))), (48, .int .i64 s_6), (106, .bool false)] rfl ⟨rfl, rfl, rfl, rfl, rfl, rfl, rfl, rfl, rfl, rfl, rfl, rfl, rfl, rfl, trivial⟩ ?_
                refine WO_end ?_
                cases hx52
                refine WK.sub ?_ (WK.cls (fun _ h => h) hk53)
                exact ⟨rfl, rfl, rfl, rfl, rfl, rfl, rfl, rfl, rfl, rfl, rfl, rfl, rfl, rfl, trivial⟩
          · refine WK_cond (b := s_8) rfl (fun hb93 => ?_) (fun hb93 => ?_)
            · have hx29 := ifT hb93 hx29
              refine WK_region ?_
              refine WO_pure tbok 5 [(1, .int .i64 p1), (2, .int .i64 p2), (4, .pointer (some ⟨b1, 0, none⟩)), (8, .pointer (some ⟨b2, 0, none⟩)), (9, .pointer (some ⟨b6, 0, none⟩)), (10, .int .i64 (([1, 0, -1, 0, 0, 1, 0, -1, 1, 1, -1, -1, 1, -1, -1, 1] : List Int).getD (0 + p3.toNat * 2) (0 : Int))), (11, .int .i64 (([1, 0, -1, 0, 0, 1, 0, -1, 1, 1, -1, -1, 1, -1, -1, 1] : List Int).getD ((0 + p3.toNat * 2) + 1) (0 : Int))), (12, .int .i64 (w64 (p0_0 * p0_1))), (13, .int .i64 (w64 ((w64 ((w64 (p0_0 * p0_1)) - 1)) - s_6))), (47, .int .i64 (w64 (p0_0 * p0_1))), (48, .int .i64 s_6)] rfl ⟨rfl, rfl, rfl, rfl, rfl, rfl, rfl, rfl, rfl, rfl, rfl, trivial⟩ ?_
              refine WO_end ?_
              cases hx29
              refine WK.sub ?_ (WK.cls (fun _ h => h) hk30)
              exact ⟨rfl, rfl, rfl, rfl, rfl, rfl, rfl, rfl, rfl, rfl, rfl, trivial⟩
            · have hx29 := ifF hb93 hx29
              refine WK_skip ?_
              cases hx29
              refine WK.sub ?_ (WK.cls (fun _ h => h) hk30)
              exact ⟨rfl, rfl, rfl, rfl, rfl, rfl, rfl, rfl, rfl, rfl, rfl, trivial⟩
        · refine WK_region ?_
          refine WO_pure tbok 3 [(1, .int .i64 p1), (2, .int .i64 p2), (4, .pointer (some ⟨b1, 0, none⟩)), (8, .pointer (some ⟨b2, 0, none⟩)), (9, .pointer (some ⟨b6, 0, none⟩)), (10, .int .i64 (([1, 0, -1, 0, 0, 1, 0, -1, 1, 1, -1, -1, 1, -1, -1, 1] : List Int).getD (0 + p3.toNat * 2) (0 : Int))), (11, .int .i64 (([1, 0, -1, 0, 0, 1, 0, -1, 1, 1, -1, -1, 1, -1, -1, 1] : List Int).getD ((0 + p3.toNat * 2) + 1) (0 : Int))), (12, .int .i64 (w64 (p0_0 * p0_1))), (13, .int .i64 s_6), (47, .int .i64 (w64 (p0_0 * p0_1))), (48, .int .i64 s_6), (53, .bool (decide ((([1, 0, -1, 0, 0, 1, 0, -1, 1, 1, -1, -1, 1, -1, -1, 1] : List Int).getD ((0 + p3.toNat * 2) + 1) (0 : Int)) < 0)))] rfl ⟨rfl, rfl, rfl, rfl, rfl, rfl, rfl, rfl, rfl, rfl, rfl, rfl, trivial⟩ ?_
          refine WO_split (d := 53) (b := decide ((([1, 0, -1, 0, 0, 1, 0, -1, 1, 1, -1, -1, 1, -1, -1, 1] : List Int).getD ((0 + p3.toNat * 2) + 1) (0 : Int)) < 0)) rfl (fun hb94 => ?_) (fun hb94 => ?_)
          · have hx27 := ifT hb94 hx27
            refine WO_pure tbok 7 [(1, .int .i64 p1), (2, .int .i64 p2), (4, .pointer (some ⟨b1, 0, none⟩)), (8, .pointer (some ⟨b2, 0, none⟩)), (9, .pointer (some ⟨b6, 0, none⟩)), (10, .int .i64 (([1, 0, -1, 0, 0, 1, 0, -1, 1, 1, -1, -1, 1, -1, -1, 1] : List Int).getD (0 + p3.toNat * 2) (0 : Int))), (11, .int .i64 (([1, 0, -1, 0, 0, 1, 0, -1, 1, 1, -1, -1, 1, -1, -1, 1] : List Int).getD ((0 + p3.toNat * 2) + 1) (0 : Int))), (12, .int .i64 (w64 (p0_0 * p0_1))), (13, .int .i64 s_6), (47, .int .i64 (w64 (p0_0 * p0_1))), (48, .int .i64 s_6), (60, .bool true)] rfl ⟨rfl, rfl, rfl, rfl, rfl, rfl, rfl, rfl, rfl, rfl, rfl, rfl, trivial⟩ ?_
            refine WO_end ?_
            cases hx27
            refine WK.sub ?_ (WK.cls (fun _ h => h) hk28)
            exact ⟨rfl, rfl, rfl, rfl, rfl, rfl, rfl, rfl, rfl, rfl, rfl, rfl, trivial⟩
          · have hx27 := ifF hb94 hx27
            refine WO_pure tbok 3 [(1, .int .i64 p1), (2, .int .i64 p2), (4, .pointer (some ⟨b1, 0, none⟩)), (8, .pointer (some ⟨b2, 0, none⟩)), (9, .pointer (some ⟨b6, 0, none⟩)), (10, .int .i64 (([1, 0, -1, 0, 0, 1, 0, -1, 1, 1, -1, -1, 1, -1, -1, 1] : List Int).getD (0 + p3.toNat * 2) (0 : Int))), (11, .int .i64 (([1, 0, -1, 0, 0, 1, 0, -1, 1, 1, -1, -1, 1, -1, -1, 1] : List Int).getD ((0 + p3.toNat * 2) + 1) (0 : Int))), (12, .int .i64 (w64 (p0_0 * p0_1))), (13, .int .i64 s_6), (47, .int .i64 (w64 (p0_0 * p0_1))), (48, .int .i64 s_6), (53, .bool false), (56, .bool ((([1, 0, -1, 0, 0, 1, 0, -1, 1, 1, -1, -1, 1, -1, -1, 1] : List Int).getD ((0 + p3.toNat * 2) + 1) (0 : Int)) == 0))] rfl ⟨rfl, rfl, rfl, rfl, rfl, rfl, rfl, rfl, rfl, rfl, rfl, rfl, rfl, trivial⟩ ?_
            refine WO_split (d := 56) (b := (([1, 0, -1, 0, 0, 1, 0, -1, 1, 1, -1, -1, 1, -1, -1, 1] : List Int).getD ((0 + p3.toNat * 2) + 1) (0 : Int)) == 0) rfl (fun hb95 => ?_) (fun hb95 => ?_)
            · have hx27 := ifT hb95 hx27
              refine WO_pure tbok 4 [(1, .int .i64 p1), (2, .int .i64 p2), (4, .pointer (some ⟨b1, 0, none⟩)), (8, .pointer (some ⟨b2, 0, none⟩)), (9, .pointer (some ⟨b6, 0, none⟩)), (10, .int .i64 (([1, 0, -1, 0, 0, 1, 0, -1, 1, 1, -1, -1, 1, -1, -1, 1] : List Int).getD (0 + p3.toNat * 2) (0 : Int))), (11, .int .i64 (([1, 0, -1, 0, 0, 1, 0, -1, 1, 1, -1, -1, 1, -1, -1, 1] : List Int).getD ((0 + p3.toNat * 2) + 1) (0 : Int))), (12, .int .i64 (w64 (p0_0 * p0_1))), (13, .int .i64 s_6), (47, .int .i64 (w64 (p0_0 * p0_1))), (48, .int .i64 s_6), (60, .bool (decide ((([1, 0, -1, 0, 0, 1, 0, -1, 1, 1, -1, -1, 1, -1, -1, 1] : List Int).getD (0 + p3.toNat * 2) (0 : Int)) < 0)))] rfl ⟨rfl, rfl, rfl, rfl, rfl, rfl, rfl, rfl, rfl, rfl, rfl, rfl, trivial⟩ ?_
              refine WO_end ?_
              cases hx27
              refine WK.sub ?_ (WK.cls (fun _ h => h) hk28)
              exact ⟨rfl, rfl, rfl, rfl, rfl, rfl, rfl, rfl, rfl, rfl, rfl, rfl, trivial⟩
            · have hx27 := ifF hb95 hx27
              refine WO_pure tbok 4 [(1, .int .i64 p1), (2, .int .i64 p2), (4, .pointer (some ⟨b1, 0, none⟩)), (8, .pointer (some ⟨b2, 0, none⟩)), (9, .pointer (some ⟨b6, 0, none⟩)), (10, .int .i64 (([1, 0, -1, 0, 0, 1, 0, -1, 1, 1, -1, -1, 1, -1, -1, 1] : List Int).getD (0 + p3.toNat * 2) (0 : Int))), (11, .int .i64 (([1, 0, -1, 0, 0, 1, 0, -1, 1, 1, -1, -1, 1, -1, -1, 1] : List Int).getD ((0 + p3.toNat * 2) + 1) (0 : Int))), (12, .int .i64 (w64 (p0_0 * p0_1))), (13, .int .i64 s_6), (47, .int .i64 (w64 (p0_0 * p0_1))), (48, .int .i64 s_6), (60, .bool false)] rfl ⟨rfl, rfl, rfl, rfl, rfl, rfl, rfl, rfl, rfl, rfl, rfl, rfl, trivial⟩ ?_
              refine WO_end ?_
              cases hx27
              refine WK.sub ?_ (WK.cls (fun _ h => h) hk28)
              exact ⟨rfl, rfl, rfl, rfl, rfl, rfl, rfl, rfl, rfl, rfl, rfl, rfl, trivial⟩
      · have hm20 := ifF hb26 hm20
        refine WK_exit rfl ?_
        cases hm20
        refine WK.sub ?_ (WK.cls (fun _ h => h) (hk19 (l_5, (m11, L13)) ⟨(hd24 _ rfl), hle12, hL13⟩))
        exact ⟨rfl, rfl, trivial⟩
  · refine WK_plan 12 [0, 2, 4, 6] (.run [1, 3, 5, 7, 8] (.alt 9 (.run [10, 11] .fin) (.alt 11 (.run [9, 10] .fin) .none))) follows_ok (by kernel_rfl) St_closed ?_
    refine WO_pure tbok 4 [(1, .int .i64 p1), (2, .int .i64 p2), (3, .int .i64 p3), (4, .pointer (some ⟨b1, 0, none⟩)), (8, .pointer (some ⟨b2, 0, none⟩)), (23, .pointer (some ⟨b1, 0, none⟩)), (25, .pointer (some ⟨b1, 1, none⟩)), (27, .pointer (some ⟨b1, 2, none⟩)), (29, .pointer (some ⟨b1, 3, none⟩))] rfl ⟨rfl, rfl, rfl, rfl, rfl, rfl, rfl, rfl, rfl, trivial⟩ ?_
    refine WO_plan ?_
    refine WT_run ?_
    refine WO_loadB tbok 0 rfl rfl rfl rfl (fun _ h => h) rfl rfl ?_
    refine WO_loadB tbok 0 rfl rfl rfl rfl (fun _ h => h) rfl rfl ?_
    refine WO_loadB tbok 0 rfl rfl rfl rfl (fun _ h => h) rfl rfl ?_
    refine WO_loadB tbok 0 rfl rfl rfl rfl (fun _ h => h) rfl rfl ?_
    refine WO_pure tbok 1 [(1, .int .i64 p1), (2, .int .i64 p2), (3, .int .i64 p3), (4, .pointer (some ⟨b1, 0, none⟩)), (8, .pointer (some ⟨b2, 0, none⟩)), (24, .int .i64 p0_0), (26, .int .i64 p0_1), (28, .int .i64 p0_2), (31, .int .i64 (p0_3.length : Int))] rfl ⟨rfl, rfl, rfl, rfl, rfl, rfl, rfl, rfl, rfl, trivial⟩ ?_
    refine WO_tree rfl ?_
    refine WT_alt rfl ?_ ?_
    · obtain ⟨hc96, hx7⟩ := chk_some hx7
      refine WO_make (E := (I1 .i64)) tbok (fun _ => rfl) (by decide) (0 : Int) rfl rfl St_closed rfl rfl rfl rfl rfl rfl rfl rfl rfl (mk_ok (by decide) hc96) (fun b97 c98 L99 hL99 => ?_)
      refine WO.cls (C' := St w0 m m [[⟨b1, 24, [.int .i64 p0_0, .int .i64 p0_1, .int .i64 p0_2, .slice a_p0_3 p0_3.length c_p0_3]⟩], [⟨b2, 24, [.int .i64 0, .int .i64 0, .int .i64 0, .slice none 0 0]⟩], L99]) (fun _ h => h) ?_
      refine WO_tree rfl ?_
      refine WT_run ?_
      refine WO_pure tbok 1 [(1, .int .i64 p1), (2, .int .i64 p2), (3, .int .i64 p3), (4, .pointer (some ⟨b1, 0, none⟩)), (8, .pointer (some ⟨b2, 0, none⟩)), (33, .agg #[.int .i64 p0_0, .int .i64 p0_1, .int .i64 p0_2, .slice (some ⟨b97, 0, none⟩) ((List.replicate (p0_3.length : Int).toNat (0 : Int)).length) c98])] rfl ⟨rfl, rfl, rfl, rfl, rfl, rfl, trivial⟩ ?_
      refine WO_alloc tbok [.int .i64 0, .int .i64 0, .int .i64 0, .slice none 0 0] rfl rfl St_closed rfl rfl rfl rfl (fun b100 => ?_)
      refine WO.cls (C' := St w0 m m [[⟨b1, 24, [.int .i64 p0_0, .int .i64 p0_1, .int .i64 p0_2, .slice a_p0_3 p0_3.length c_p0_3]⟩], [⟨b2, 24, [.int .i64 0, .int .i64 0, .int .i64 0, .slice none 0 0]⟩], L99, [⟨b100, 24, [.int .i64 0, .int .i64 0, .int .i64 0, .slice none 0 0]⟩]]) (fun _ h => h) ?_
      refine WO_tree rfl ?_
      refine WT_fin ?_
      refine WO_storeB tbok 3 [.int .i64 p0_0, .int .i64 p0_1, .int .i64 p0_2, .slice (some ⟨b97, 0, none⟩) ((List.replicate (p0_3.length : Int).toNat (0 : Int)).length) c98] rfl rfl rfl rfl rfl rfl rfl ?_
      refine WO.cls (C' := St w0 m m [[⟨b1, 24, [.int .i64 p0_0, .int .i64 p0_1, .int .i64 p0_2, .slice a_p0_3 p0_3.length c_p0_3]⟩], [⟨b2, 24, [.int .i64 0, .int .i64 0, .int .i64 0, .slice none 0 0]⟩], L99, [⟨b100, 24, [.int .i64 p0_0, .int .i64 p0_1, .int .i64 p0_2, .slice (some ⟨b97, 0, none⟩) ((List.replicate (p0_3.length : Int).toNat (0 : Int)).length) c98]⟩]]) (fun _ h => h) ?_
      refine WO_end ?_
      refine WK.cls (fun _ h => h.perm (Ls' := [[⟨b1, 24, [.int .i64 p0_0, .int .i64 p0_1, .int .i64 p0_2, .slice a_p0_3 p0_3.length c_p0_3]⟩], [⟨b2, 24, [.int .i64 0, .int .i64 0, .int .i64 0, .slice none 0 0]⟩], [⟨b100, 24, [.int .i64 p0_0, .int .i64 p0_1, .int .i64 p0_2, .slice (some ⟨b97, 0, none⟩) ((List.replicate (p0_3.length : Int).toNat (0 : Int)).length) c98]⟩], L99]) (List.Perm.flatten (List.Perm.cons _ (List.Perm.cons _ (List.Perm.swap _ _ _))))) ?_
      cases hx7
      refine WK.sub ?_ (hk8 ⟨some ⟨b97, 0, none⟩, c98, L99, b100⟩ hL99)
      exact ⟨rfl, rfl, rfl, rfl, rfl, rfl, trivial⟩
    · refine WT_alt rfl ?_ ?_
      · refine WO_alloc tbok [.int .i64 0, .int .i64 0, .int .i64 0, .slice none 0 0] rfl rfl St_closed rfl rfl rfl rfl (fun b101 => ?_)
        refine WO.cls (C' := St w0 m m [[⟨b1, 24, [.int .i64 p0_0, .int .i64 p0_1, .int .i64 p0_2, .slice a_p0_3 p0_3.length c_p0_3]⟩], [⟨b2, 24, [.int .i64 0, .int .i64 0, .int .i64 0, .slice none 0 0]⟩], [⟨b101, 24, [.int .i64 0, .int .i64 0, .int .i64 0, .slice none 0 0]⟩]]) (fun _ h => h) ?_
        refine WO_tree rfl ?_
        refine WT_run ?_
        obtain ⟨hc102, hx7⟩ := chk_some hx7
        refine WO_make (E := (I1 .i64)) tbok (fun _ => rfl) (by decide) (0 : Int) rfl rfl St_closed rfl rfl rfl rfl rfl rfl rfl rfl rfl (mk_ok (by decide) hc102) (fun b103 c104 L105 hL105 => ?_)
        refine WO.cls (C' := St w0 m m [[⟨b1, 24, [.int .i64 p0_0, .int .i64 p0_1, .int .i64 p0_2, .slice a_p0_3 p0_3.length c_p0_3]⟩], [⟨b2, 24, [.int .i64 0, .int .i64 0, .int .i64 0, .slice none 0 0]⟩], [⟨b101, 24, [.int .i64 0, .int .i64 0, .int .i64 0, .slice none 0 0]⟩], L105]) (fun _ h => h) ?_
        refine WO_pure tbok 1 [(1, .int .i64 p1), (2, .int .i64 p2), (3, .int .i64 p3), (4, .pointer (some ⟨b1, 0, none⟩)), (8, .pointer (some ⟨b2, 0, none⟩)), (9, .pointer (some ⟨b101, 0, none⟩)), (33, .agg #[.int .i64 p0_0, .int .i64 p0_1, .int .i64 p0_2, .slice (some ⟨b103, 0, none⟩) ((List.replicate (p0_3.length : Int).toNat (0 : Int)).length) c104])] rfl ⟨rfl, rfl, rfl, rfl, rfl, rfl, rfl, trivial⟩ ?_
        refine WO_tree rfl ?_
        refine WT_fin ?_
        refine WO_storeB tbok 2 [.int .i64 p0_0, .int .i64 p0_1, .int .i64 p0_2, .slice (some ⟨b103, 0, none⟩) ((List.replicate (p0_3.length : Int).toNat (0 : Int)).length) c104] rfl rfl rfl rfl rfl rfl rfl ?_
        refine WO.cls (C' := St w0 m m [[⟨b1, 24, [.int .i64 p0_0, .int .i64 p0_1, .int .i64 p0_2, .slice a_p0_3 p0_3.length c_p0_3]⟩], [⟨b2, 24, [.int .i64 0, .int .i64 0, .int .i64 0, .slice none 0 0]⟩], [⟨b101, 24, [.int .i64 p0_0, .int .i64 p0_1, .int .i64 p0_2, .slice (some ⟨b103, 0, none⟩) ((List.replicate (p0_3.length : Int).toNat (0 : Int)).length) c104]⟩], L105]) (fun _ h => h) ?_
        refine WO_end ?_
        cases hx7
        refine WK.sub ?_ (hk8 ⟨some ⟨b103, 0, none⟩, c104, L105, b101⟩ hL105)
        exact ⟨rfl, rfl, rfl, rfl, rfl, rfl, trivial⟩
      · exact WT_none
end Go.Proofs.YtgakaghdiodakaaDoor
