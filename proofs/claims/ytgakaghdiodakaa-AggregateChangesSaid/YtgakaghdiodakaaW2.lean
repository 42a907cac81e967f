import Derived.Test.YtgakaghdiodakaaTab
import Derived.Test.YtgakaghdiodakaaM
import Derived.Test.YtgakaghdiodakaaW1
set_option linter.unusedVariables false
set_option maxRecDepth 100000
set_option maxHeartbeats 4000000
namespace Go.Proofs.Ytgakaghdiodakaa
open Go.E Go.RowKit
attribute [local irreducible] Go.E.WO Go.E.WK
theorem aggregate_Prove_walk {m : Mu} {p0 : List (List Int)} {p1 : Int} {p2 : Int} {p3 : List (List Int)} {p4 : Int} {a_p0 : Option Addr} {q_p0 c_p0 : Nat} {a_p3 : Option Addr} {q_p3 c_p3 : Nat} (h_p0 : SlR (RowE (FE (I1 .i64)) 1) 1 m (.slice a_p0 q_p0 c_p0) p0) (h_p3 : SlR (RowE (FE (I1 .i64)) 1) 1 m (.slice a_p3 q_p3 c_p3) p3) {r : Int} (hm : aggregate_Prove p0 p1 p2 p3 p4 = some r) :
    Go.E.Spec Try.prog 15 [.slice a_p0 q_p0 c_p0, .int .i64 p1, .int .i64 p2, .slice a_p3 q_p3 c_p3, .int .i64 p4] m (fun v _ _ => v = .int .i64 r) := by
  refine Spec_enter Try.func15 rfl rfl rfl (fun w0 => ?_)
  refine WK.sub (e' := [(0, .slice a_p0 q_p0 c_p0), (1, .int .i64 p1), (2, .int .i64 p2), (3, .slice a_p3 q_p3 c_p3), (4, .int .i64 p4)]) ⟨rfl, rfl, rfl, rfl, rfl, trivial⟩ ?_
  obtain rfl := SlR.qlen h_p0
  obtain rfl := SlR.qlen h_p3
  refine WK.sub (e' := [(0, .slice a_p0 p0.length c_p0), (1, .int .i64 p1), (2, .int .i64 p2), (3, .slice a_p3 p3.length c_p3), (4, .int .i64 p4)]) ⟨rfl, rfl, rfl, rfl, rfl, trivial⟩ ?_
  unfold aggregate_Prove at hm
  refine WK_seq ?_
  refine WK_region ?_
  refine WO_box [.slice a_p0 p0.length c_p0] rfl rfl trivial rfl rfl rfl (fun b1 => ?_)
  refine WO.cls (C' := St w0 m m [[⟨b1, 22, [.slice a_p0 p0.length c_p0]⟩]]) (fun _ h => h) ?_
  refine WO_pure tbok 1 [(1, .int .i64 p1), (2, .int .i64 p2), (3, .slice a_p3 p3.length c_p3), (4, .int .i64 p4), (5, .pointer (some ⟨b1, 0, none⟩)), (10, .int .i64 0)] rfl ⟨rfl, rfl, rfl, rfl, rfl, rfl, trivial⟩ ?_
  refine WO_end ?_
  refine WK_seq ?_
  refine WK_seq ?_
  refine WK_region ?_
  refine WO_loadB tbok 0 rfl rfl rfl rfl (fun _ h => h) rfl rfl ?_
  refine WO_pure tbok 2 [(1, .int .i64 p1), (2, .int .i64 p2), (3, .slice a_p3 p3.length c_p3), (4, .int .i64 p4), (5, .pointer (some ⟨b1, 0, none⟩)), (10, .int .i64 0), (19, .slice a_p0 p0.length c_p0), (20, .int .i64 p1), (21, .int .i64 p2)] rfl ⟨rfl, rfl, rfl, rfl, rfl, rfl, rfl, rfl, rfl, trivial⟩ ?_
  obtain ⟨y_1, hc2, hm⟩ := bind_some hm
  refine WO_call0 (.int .i64 y_1) rfl rfl trivial rfl rfl rfl rfl St_closed ⟨31, #[], #[], rfl, callable_31, fun w hw => ⟨_, hw.sat, aggregate_checked_walk h_p0 hc2⟩⟩ ?_
  refine WO_pure tbok 1 [(1, .int .i64 p1), (2, .int .i64 p2), (3, .slice a_p3 p3.length c_p3), (4, .int .i64 p4), (5, .pointer (some ⟨b1, 0, none⟩)), (10, .int .i64 0), (11, .int .i64 y_1)] rfl ⟨rfl, rfl, rfl, rfl, rfl, rfl, rfl, trivial⟩ ?_
  refine WO_end ?_
  refine WK_seq ?_
  refine WK_region ?_
  refine WO_pure tbok 2 [(1, .int .i64 p1), (2, .int .i64 p2), (3, .slice a_p3 p3.length c_p3), (4, .int .i64 p4), (5, .pointer (some ⟨b1, 0, none⟩)), (10, .int .i64 0), (11, .int .i64 y_1), (24, .bool (y_1 != 0))] rfl ⟨rfl, rfl, rfl, rfl, rfl, rfl, rfl, rfl, trivial⟩ ?_
  refine WO_end ?_
  refine WK_cond (b := y_1 != 0) rfl (fun hb3 => ?_) (fun hb3 => ?_)
  · have hm := ifT hb3 hm
    refine WK_seq ?_
    refine WK_region ?_
    refine WO_pure tbok 2 [(1, .int .i64 p1), (2, .int .i64 p2), (3, .slice a_p3 p3.length c_p3), (4, .int .i64 p4), (5, .pointer (some ⟨b1, 0, none⟩)), (10, .int .i64 y_1)] rfl ⟨rfl, rfl, rfl, rfl, rfl, rfl, trivial⟩ ?_
    refine WO_end ?_
    cases hm
    exact WK_ret (ret_out (L := []) (RLc_tmp rfl RLc_nil) (List.nil_sublist _) rfl)
  · have hm := ifF hb3 hm
    refine WK_skip ?_
    refine WK_seq ?_
    refine WK_seq ?_
    obtain ⟨s_2, hx4, hm⟩ := bind_some hm
    refine WK_meet [(1, .int .i64 p1), (2, .int .i64 p2), (3, .slice a_p3 p3.length c_p3), (4, .int .i64 p4), (5, .pointer (some ⟨b1, 0, none⟩)), (10, .int .i64 0), (35, .bool s_2)] (St w0 m m [[⟨b1, 22, [.slice a_p0 p0.length c_p0]⟩]]) ?_ (fun hk5 => ?_)
    · refine WK_cond (b := s_2) rfl (fun hb6 => ?_) (fun hb6 => ?_)
      · have hm := ifT hb6 hm
        refine WK_seq ?_
        refine WK_region ?_
        refine WO_pure tbok 1 [(1, .int .i64 p1), (2, .int .i64 p2), (3, .slice a_p3 p3.length c_p3), (4, .int .i64 p4), (5, .pointer (some ⟨b1, 0, none⟩)), (10, .int .i64 4)] rfl ⟨rfl, rfl, rfl, rfl, rfl, rfl, trivial⟩ ?_
        refine WO_end ?_
        cases hm
        exact WK_ret (ret_out (L := []) (RLc_tmp rfl RLc_nil) (List.nil_sublist _) rfl)
      · have hm := ifF hb6 hm
        refine WK_skip ?_
        refine WK_seq ?_
        refine WK_seq ?_
        refine WK_region ?_
        refine WO_pure tbok 3 [(1, .int .i64 p1), (2, .int .i64 p2), (3, .slice a_p3 p3.length c_p3), (4, .int .i64 p4), (5, .pointer (some ⟨b1, 0, none⟩)), (10, .int .i64 0), (36, .slice a_p3 p3.length c_p3), (37, .int .i64 (p3.length : Int)), (38, .int .i64 0)] rfl ⟨rfl, rfl, rfl, rfl, rfl, rfl, rfl, rfl, rfl, trivial⟩ ?_
        refine WO_end ?_
        obtain ⟨x7, hx8, hm⟩ := bind_some hm
        refine WK_join (β := Unit × Unit) (fun p => Sum.inr p.1 = x7) (fun p => [(1, .int .i64 p1), (2, .int .i64 p2), (3, .slice a_p3 p3.length c_p3), (4, .int .i64 p4), (5, .pointer (some ⟨b1, 0, none⟩)), (10, .int .i64 0)]) (fun p => St w0 m m [[⟨b1, 22, [.slice a_p0 p0.length c_p0]⟩]]) ?_ (fun hk9 => ?_)
        · rintro ⟨⟨⟩, ⟨⟩⟩ hq15
          subst hq15
          refine WK.sub (e' := [(1, .int .i64 p1), (2, .int .i64 p2), (3, .slice a_p3 p3.length c_p3), (4, .int .i64 p4), (5, .pointer (some ⟨b1, 0, none⟩)), (10, .int .i64 0)]) ⟨rfl, rfl, rfl, rfl, rfl, rfl, trivial⟩ (WK.cls (C' := St w0 m m [[⟨b1, 22, [.slice a_p0 p0.length c_p0]⟩]]) (fun _ h => h) ?_)
          refine WK_seq ?_
          refine WK_seq ?_
          refine WK_region ?_
          refine WO_pure tbok 3 [(1, .int .i64 p1), (2, .int .i64 p2), (3, .slice a_p3 p3.length c_p3), (4, .int .i64 p4), (5, .pointer (some ⟨b1, 0, none⟩)), (10, .int .i64 0), (51, .slice a_p3 p3.length c_p3), (52, .int .i64 (p3.length : Int)), (53, .int .i64 0)] rfl ⟨rfl, rfl, rfl, rfl, rfl, rfl, rfl, rfl, rfl, trivial⟩ ?_
          refine WO_end ?_
          obtain ⟨x16, hx17, hm⟩ := bind_some hm
          refine WK_join (β := Unit × Unit) (fun p => Sum.inr p.1 = x16) (fun p => [(3, .slice a_p3 p3.length c_p3), (4, .int .i64 p4), (10, .int .i64 0)]) (fun p => St w0 m m [[⟨b1, 22, [.slice a_p0 p0.length c_p0]⟩]]) ?_ (fun hk18 => ?_)
          · rintro ⟨⟨⟩, ⟨⟩⟩ hq24
            subst hq24
            refine WK.sub (e' := [(3, .slice a_p3 p3.length c_p3), (4, .int .i64 p4), (10, .int .i64 0)]) ⟨rfl, rfl, rfl, trivial⟩ (WK.cls (C' := St w0 m m [[⟨b1, 22, [.slice a_p0 p0.length c_p0]⟩]]) (fun _ h => h) ?_)
            refine WK_seq ?_
            refine WK_seq ?_
            refine WK_region ?_
            refine WO_pure tbok 4 [(4, .int .i64 p4), (10, .int .i64 0), (94, .slice a_p3 p3.length c_p3), (97, .int .i64 (w64 ((p3.length : Int) - 1)))] rfl ⟨rfl, rfl, rfl, rfl, trivial⟩ ?_
            obtain ⟨v_5, hy25, hm⟩ := bind_some hm
            obtain ⟨hc26, hy25⟩ := ix_some hy25
            refine WO_index tbok rfl rfl rfl rfl rfl rfl rfl rfl (SlR.addr h_p3) hc26 ?_
            refine WO_loadR tbok rfl rfl rfl rfl (fun _ h => St.sat h) h_p3 hy25 rfl rfl (fun a27 c28 h29 => ?_)
            obtain ⟨y_6, hc30, hm⟩ := bind_some hm
            refine WO_call0 (.int .i64 y_6) rfl rfl trivial rfl rfl rfl rfl St_closed ⟨34, #[], #[], rfl, callable_34, fun w hw => ⟨_, hw.sat, slices_Min_sint_walk h29 hc30⟩⟩ ?_
            refine WO_pure tbok 2 [(10, .int .i64 0), (102, .bool (decide (y_6 < p4)))] rfl ⟨rfl, rfl, trivial⟩ ?_
            refine WO_end ?_
            refine WK_cond (b := decide (y_6 < p4)) rfl (fun hb31 => ?_) (fun hb31 => ?_)
            · have hm := ifT hb31 hm
              refine WK_seq ?_
              refine WK_region ?_
              refine WO_pure tbok 1 [(10, .int .i64 12)] rfl ⟨rfl, trivial⟩ ?_
              refine WO_end ?_
              cases hm
              exact WK_ret (ret_out (L := []) (RLc_tmp rfl RLc_nil) (List.nil_sublist _) rfl)
            · have hm := ifF hb31 hm
              refine WK_skip ?_
              refine WK_seq ?_
              refine WK_region ?_
              refine WO_pure tbok 1 [(10, .int .i64 0)] rfl ⟨rfl, trivial⟩ ?_
              refine WO_end ?_
              cases hm
              exact WK_ret (ret_out (L := []) (RLc_tmp rfl RLc_nil) (List.nil_sublist _) rfl)
          · refine WK_block ?_
            refine WK_loop (S := Int) (G := Unit) (fun s => aggregate_Prove_s2 p0 p1 p2 p3 s) (fun s g => [(1, .int .i64 p1), (2, .int .i64 p2), (3, .slice a_p3 p3.length c_p3), (4, .int .i64 p4), (5, .pointer (some ⟨b1, 0, none⟩)), (10, .int .i64 0), (51, .slice a_p3 p3.length c_p3), (52, .int .i64 (p3.length : Int)), (53, .int .i64 s)]) (fun s g => St w0 m m [[⟨b1, 22, [.slice a_p0 p0.length c_p0]⟩]]) (fun s g => True) FUEL 0 () x16 hx17 trivial ⟨rfl, rfl, rfl, rfl, rfl, rfl, rfl, rfl, rfl, trivial⟩ (fun _ h => h) ?_
            rintro s_4 ⟨⟩ o20 fl21 hm19 - hn22 hd23
            have hm19 : aggregate_Prove_s2 p0 p1 p2 p3 s_4 = some o20 := hm19
            unfold aggregate_Prove_s2 at hm19
            refine WK.sub (e' := [(1, .int .i64 p1), (2, .int .i64 p2), (3, .slice a_p3 p3.length c_p3), (4, .int .i64 p4), (5, .pointer (some ⟨b1, 0, none⟩)), (10, .int .i64 0), (51, .slice a_p3 p3.length c_p3), (52, .int .i64 (p3.length : Int)), (53, .int .i64 s_4)]) ⟨rfl, rfl, rfl, rfl, rfl, rfl, rfl, rfl, rfl, trivial⟩ (WK.cls (C' := St w0 m m [[⟨b1, 22, [.slice a_p0 p0.length c_p0]⟩]]) (fun _ h => h) ?_)
            refine WK_seq ?_
            refine WK_region ?_
            refine WO_pure tbok 1 [(1, .int .i64 p1), (2, .int .i64 p2), (3, .slice a_p3 p3.length c_p3), (4, .int .i64 p4), (5, .pointer (some ⟨b1, 0, none⟩)), (10, .int .i64 0), (51, .slice a_p3 p3.length c_p3), (52, .int .i64 (p3.length : Int)), (53, .int .i64 s_4), (54, .bool (decide (s_4 < (p3.length : Int))))] rfl ⟨rfl, rfl, rfl, rfl, rfl, rfl, rfl, rfl, rfl, rfl, trivial⟩ ?_
            refine WO_end ?_
            refine WK_seq ?_
            refine WK_cond (b := decide (s_4 < (p3.length : Int))) rfl (fun hb32 => ?_) (fun hb32 => ?_)
            · have hm19 := ifT hb32 hm19
              refine WK_skip ?_
              refine WK_seq ?_
              refine WK_block ?_
              refine WK_seq ?_
              refine WK_region ?_
              refine WO_pure tbok 1 [(1, .int .i64 p1), (2, .int .i64 p2), (3, .slice a_p3 p3.length c_p3), (4, .int .i64 p4), (5, .pointer (some ⟨b1, 0, none⟩)), (10, .int .i64 0), (51, .slice a_p3 p3.length c_p3), (52, .int .i64 (p3.length : Int)), (53, .int .i64 s_4), (55, .int .i64 s_4)] rfl ⟨rfl, rfl, rfl, rfl, rfl, rfl, rfl, rfl, rfl, rfl, trivial⟩ ?_
              obtain ⟨v_7, hy33, hm19⟩ := bind_some hm19
              obtain ⟨hc34, hy33⟩ := ix_some hy33
              refine WO_index tbok rfl rfl rfl rfl rfl rfl rfl rfl (SlR.addr h_p3) hc34 ?_
              refine WO_loadR tbok rfl rfl rfl rfl (fun _ h => St.sat h) h_p3 hy33 rfl rfl (fun a35 c36 h37 => ?_)
              refine WO_pure tbok 2 [(1, .int .i64 p1), (2, .int .i64 p2), (3, .slice a_p3 p3.length c_p3), (4, .int .i64 p4), (5, .pointer (some ⟨b1, 0, none⟩)), (10, .int .i64 0), (14, .int .i64 s_4), (15, .slice a35 ((v_7).length) c36), (51, .slice a_p3 p3.length c_p3), (52, .int .i64 (p3.length : Int)), (53, .int .i64 s_4)] rfl ⟨rfl, rfl, rfl, rfl, rfl, rfl, rfl, rfl, rfl, rfl, rfl, trivial⟩ ?_
              refine WO_end ?_
              refine WK_seq ?_
              refine WK_region ?_
              refine WO_pure tbok 2 [(1, .int .i64 p1), (2, .int .i64 p2), (3, .slice a_p3 p3.length c_p3), (4, .int .i64 p4), (5, .pointer (some ⟨b1, 0, none⟩)), (10, .int .i64 0), (14, .int .i64 s_4), (15, .slice a35 ((v_7).length) c36), (51, .slice a_p3 p3.length c_p3), (52, .int .i64 (p3.length : Int)), (53, .int .i64 s_4), (59, .int .i64 ((v_7).length : Int))] rfl ⟨rfl, rfl, rfl, rfl, rfl, rfl, rfl, rfl, rfl, rfl, rfl, rfl, trivial⟩ ?_
              obtain ⟨hc38, hm19⟩ := chk_some hm19
              refine WO_make (E := (I1 .i64)) tbok (fun _ => rfl) (by decide) (0 : Int) rfl rfl trivial rfl rfl rfl rfl rfl rfl rfl rfl rfl (mk_ok (by decide) hc38) (fun b39 c40 L41 hL41 => ?_)
              refine WO.cls (C' := St w0 m m [[⟨b1, 22, [.slice a_p0 p0.length c_p0]⟩], L41]) (fun _ h => h) ?_
              refine WO_pure tbok 1 [(1, .int .i64 p1), (2, .int .i64 p2), (3, .slice a_p3 p3.length c_p3), (4, .int .i64 p4), (5, .pointer (some ⟨b1, 0, none⟩)), (10, .int .i64 0), (14, .int .i64 s_4), (15, .slice a35 ((v_7).length) c36), (16, .slice (some ⟨b39, 0, none⟩) ((List.replicate ((v_7).length : Int).toNat (0 : Int)).length) c40), (51, .slice a_p3 p3.length c_p3), (52, .int .i64 (p3.length : Int)), (53, .int .i64 s_4)] rfl ⟨rfl, rfl, rfl, rfl, rfl, rfl, rfl, rfl, rfl, rfl, rfl, rfl, trivial⟩ ?_
              refine WO_end ?_
              refine WK_seq ?_
              refine WK_seq ?_
              refine WK_region ?_
              refine WO_pure tbok 2 [(1, .int .i64 p1), (2, .int .i64 p2), (3, .slice a_p3 p3.length c_p3), (4, .int .i64 p4), (5, .pointer (some ⟨b1, 0, none⟩)), (10, .int .i64 0), (14, .int .i64 s_4), (15, .slice a35 ((v_7).length) c36), (16, .slice (some ⟨b39, 0, none⟩) ((List.replicate ((v_7).length : Int).toNat (0 : Int)).length) c40), (51, .slice a_p3 p3.length c_p3), (52, .int .i64 (p3.length : Int)), (53, .int .i64 s_4), (62, .bool (decide (0 < s_4)))] rfl ⟨rfl, rfl, rfl, rfl, rfl, rfl, rfl, rfl, rfl, rfl, rfl, rfl, rfl, trivial⟩ ?_
              refine WO_end ?_
              obtain ⟨l_8, hx46, hm19⟩ := bind_some hm19
              refine WK_join (β := Option Addr × Nat × Nat × List Ent) (fun p => OwnE 3 1 (I1 .i64) (.slice p.1 p.2.1 p.2.2.1) l_8 p.2.2.2) (fun p => [(1, .int .i64 p1), (2, .int .i64 p2), (3, .slice a_p3 p3.length c_p3), (4, .int .i64 p4), (5, .pointer (some ⟨b1, 0, none⟩)), (10, .int .i64 0), (14, .int .i64 s_4), (15, .slice a35 ((v_7).length) c36), (16, .slice p.1 p.2.1 p.2.2.1), (51, .slice a_p3 p3.length c_p3), (52, .int .i64 (p3.length : Int)), (53, .int .i64 s_4)]) (fun p => St w0 m m [[⟨b1, 22, [.slice a_p0 p0.length c_p0]⟩], p.2.2.2]) ?_ (fun hk47 => ?_)
              · rintro ⟨a43, q44, c45, L42⟩ hL42
                have hqq : q44 = l_8.length := OwnE.qlen hL42
                subst hqq
                refine WK.sub (e' := [(1, .int .i64 p1), (2, .int .i64 p2), (3, .slice a_p3 p3.length c_p3), (4, .int .i64 p4), (5, .pointer (some ⟨b1, 0, none⟩)), (10, .int .i64 0), (14, .int .i64 s_4), (15, .slice a35 ((v_7).length) c36), (16, .slice a43 ((l_8).length) c45), (51, .slice a_p3 p3.length c_p3), (52, .int .i64 (p3.length : Int)), (53, .int .i64 s_4)]) ⟨rfl, rfl, rfl, rfl, rfl, rfl, rfl, rfl, rfl, rfl, rfl, rfl, trivial⟩ (WK.cls (C' := St w0 m m [[⟨b1, 22, [.slice a_p0 p0.length c_p0]⟩], L42]) (fun _ h => h) ?_)
                refine WK_seq ?_
                refine WK_region ?_
                refine WO_pure tbok 3 [(1, .int .i64 p1), (2, .int .i64 p2), (3, .slice a_p3 p3.length c_p3), (4, .int .i64 p4), (5, .pointer (some ⟨b1, 0, none⟩)), (10, .int .i64 0), (14, .int .i64 s_4), (16, .slice a43 ((l_8).length) c45), (51, .slice a_p3 p3.length c_p3), (52, .int .i64 (p3.length : Int)), (53, .int .i64 s_4), (71, .slice a35 ((v_7).length) c36), (72, .int .i64 ((v_7).length : Int)), (73, .int .i64 0)] rfl ⟨rfl, rfl, rfl, rfl, rfl, rfl, rfl, rfl, rfl, rfl, rfl, rfl, rfl, rfl, trivial⟩ ?_
                refine WO_end ?_
                obtain ⟨x48, hx49, hm19⟩ := bind_some hm19
                refine WK_join (β := Unit × Unit) (fun p => Sum.inr p.1 = x48) (fun p => [(1, .int .i64 p1), (2, .int .i64 p2), (3, .slice a_p3 p3.length c_p3), (4, .int .i64 p4), (5, .pointer (some ⟨b1, 0, none⟩)), (10, .int .i64 0), (51, .slice a_p3 p3.length c_p3), (52, .int .i64 (p3.length : Int)), (53, .int .i64 s_4)]) (fun p => St w0 m m [[⟨b1, 22, [.slice a_p0 p0.length c_p0]⟩], L42]) ?_ (fun hk50 => ?_)
                · rintro ⟨⟨⟩, ⟨⟩⟩ hq56
                  subst hq56
                  refine WK.sub (e' := [(1, .int .i64 p1), (2, .int .i64 p2), (3, .slice a_p3 p3.length c_p3), (4, .int .i64 p4), (5, .pointer (some ⟨b1, 0, none⟩)), (10, .int .i64 0), (51, .slice a_p3 p3.length c_p3), (52, .int .i64 (p3.length : Int)), (53, .int .i64 s_4)]) ⟨rfl, rfl, rfl, rfl, rfl, rfl, rfl, rfl, rfl, trivial⟩ (WK.cls (C' := St w0 m m [[⟨b1, 22, [.slice a_p0 p0.length c_p0]⟩], L42]) (fun _ h => h) ?_)
                  refine WK_blk ?_
                  refine WK_region ?_
                  refine WO_pure tbok 2 [(1, .int .i64 p1), (2, .int .i64 p2), (3, .slice a_p3 p3.length c_p3), (4, .int .i64 p4), (5, .pointer (some ⟨b1, 0, none⟩)), (10, .int .i64 0), (51, .slice a_p3 p3.length c_p3), (52, .int .i64 (p3.length : Int)), (53, .int .i64 (w64 (s_4 + 1)))] rfl ⟨rfl, rfl, rfl, rfl, rfl, rfl, rfl, rfl, rfl, trivial⟩ ?_
                  refine WO_end ?_
                  cases hm19
                  refine WK.sub ?_ (WK.cls (fun _ h => St.take 1 h) (hn22 _ () rfl trivial))
                  exact ⟨rfl, rfl, rfl, rfl, rfl, rfl, rfl, rfl, rfl, trivial⟩
                · refine WK_block ?_
                  refine WK_loop (S := Int) (G := Unit) (fun s => aggregate_Prove_s3 p0 s_4 v_7 l_8 s) (fun s g => [(1, .int .i64 p1), (2, .int .i64 p2), (3, .slice a_p3 p3.length c_p3), (4, .int .i64 p4), (5, .pointer (some ⟨b1, 0, none⟩)), (10, .int .i64 0), (14, .int .i64 s_4), (16, .slice a43 ((l_8).length) c45), (51, .slice a_p3 p3.length c_p3), (52, .int .i64 (p3.length : Int)), (53, .int .i64 s_4), (71, .slice a35 ((v_7).length) c36), (72, .int .i64 ((v_7).length : Int)), (73, .int .i64 s)]) (fun s g => St w0 m m [[⟨b1, 22, [.slice a_p0 p0.length c_p0]⟩], L42]) (fun s g => True) FUEL 0 () x48 hx49 trivial ⟨rfl, rfl, rfl, rfl, rfl, rfl, rfl, rfl, rfl, rfl, rfl, rfl, rfl, rfl, trivial⟩ (fun _ h => h) ?_
                  rintro s_9 ⟨⟩ o52 fl53 hm51 - hn54 hd55
                  have hm51 : aggregate_Prove_s3 p0 s_4 v_7 l_8 s_9 = some o52 := hm51
                  unfold aggregate_Prove_s3 at hm51
                  refine WK.sub (e' := [(1, .int .i64 p1), (2, .int .i64 p2), (3, .slice a_p3 p3.length c_p3), (4, .int .i64 p4), (5, .pointer (some ⟨b1, 0, none⟩)), (10, .int .i64 0), (14, .int .i64 s_4), (16, .slice a43 ((l_8).length) c45), (51, .slice a_p3 p3.length c_p3), (52, .int .i64 (p3.length : Int)), (53, .int .i64 s_4), (71, .slice a35 ((v_7).length) c36), (72, .int .i64 ((v_7).length : Int)), (73, .int .i64 s_9)]) ⟨rfl, rfl, rfl, rfl, rfl, rfl, rfl, rfl, rfl, rfl, rfl, rfl, rfl, rfl, trivial⟩ (WK.cls (C' := St w0 m m [[⟨b1, 22, [.slice a_p0 p0.length c_p0]⟩], L42]) (fun _ h => h) ?_)
                  refine WK_seq ?_
                  refine WK_region ?_
                  refine WO_pure tbok 1 [(1, .int .i64 p1), (2, .int .i64 p2), (3, .slice a_p3 p3.length c_p3), (4, .int .i64 p4), (5, .pointer (some ⟨b1, 0, none⟩)), (10, .int .i64 0), (14, .int .i64 s_4), (16, .slice a43 ((l_8).length) c45), (51, .slice a_p3 p3.length c_p3), (52, .int .i64 (p3.length : Int)), (53, .int .i64 s_4), (71, .slice a35 ((v_7).length) c36), (72, .int .i64 ((v_7).length : Int)), (73, .int .i64 s_9), (74, .bool (decide (s_9 < ((v_7).length : Int))))] rfl ⟨rfl, rfl, rfl, rfl, rfl, rfl, rfl, rfl, rfl, rfl, rfl, rfl, rfl, rfl, rfl, trivial⟩ ?_
                  refine WO_end ?_
                  refine WK_seq ?_
                  refine WK_cond (b := decide (s_9 < ((v_7).length : Int))) rfl (fun hb57 => ?_) (fun hb57 => ?_)
                  · have hm51 := ifT hb57 hm51
                    refine WK_skip ?_
                    refine WK_seq ?_
                    refine WK_block ?_
                    refine WK_seq ?_
                    refine WK_region ?_
                    refine WO_pure tbok 1 [(1, .int .i64 p1), (2, .int .i64 p2), (3, .slice a_p3 p3.length c_p3), (4, .int .i64 p4), (5, .pointer (some ⟨b1, 0, none⟩)), (10, .int .i64 0), (14, .int .i64 s_4), (16, .slice a43 ((l_8).length) c45), (51, .slice a_p3 p3.length c_p3), (52, .int .i64 (p3.length : Int)), (53, .int .i64 s_4), (71, .slice a35 ((v_7).length) c36), (72, .int .i64 ((v_7).length : Int)), (73, .int .i64 s_9), (75, .int .i64 s_9)] rfl ⟨rfl, rfl, rfl, rfl, rfl, rfl, rfl, rfl, rfl, rfl, rfl, rfl, rfl, rfl, rfl, trivial⟩ ?_
                    obtain ⟨v_10, hy58, hm51⟩ := bind_some hm51
                    obtain ⟨hc59, hy58⟩ := ix_some hy58
                    refine WO_index tbok rfl rfl rfl rfl rfl rfl rfl rfl (SlR.addr h37) hc59 ?_
                    refine WO_loadE tbok rfl rfl rfl rfl (fun _ h => St.sat h) h37 hy58 rfl ?_
                    refine WO_pure tbok 2 [(1, .int .i64 p1), (2, .int .i64 p2), (3, .slice a_p3 p3.length c_p3), (4, .int .i64 p4), (5, .pointer (some ⟨b1, 0, none⟩)), (10, .int .i64 0), (14, .int .i64 s_4), (16, .slice a43 ((l_8).length) c45), (17, .int .i64 s_9), (18, .int .i64 v_10), (51, .slice a_p3 p3.length c_p3), (52, .int .i64 (p3.length : Int)), (53, .int .i64 s_4), (71, .slice a35 ((v_7).length) c36), (72, .int .i64 ((v_7).length : Int)), (73, .int .i64 s_9)] rfl ⟨rfl, rfl, rfl, rfl, rfl, rfl, rfl, rfl, rfl, rfl, rfl, rfl, rfl, rfl, rfl, rfl, trivial⟩ ?_
                    refine WO_end ?_
                    refine WK_seq ?_
                    refine WK_draw 14 [0, 1, 2, 3, 4, 5, 6, 7, 8, 9, 10, 11, 12, 13] follows_ok (by kernel_rfl) St_closed ?_
                    refine WO_pure tbok 3 [(1, .int .i64 p1), (2, .int .i64 p2), (3, .slice a_p3 p3.length c_p3), (4, .int .i64 p4), (5, .pointer (some ⟨b1, 0, none⟩)), (10, .int .i64 0), (14, .int .i64 s_4), (16, .slice a43 ((l_8).length) c45), (17, .int .i64 s_9), (51, .slice a_p3 p3.length c_p3), (52, .int .i64 (p3.length : Int)), (53, .int .i64 s_4), (71, .slice a35 ((v_7).length) c36), (72, .int .i64 ((v_7).length : Int)), (73, .int .i64 s_9), (78, .int .i64 v_10), (79, .slice a43 ((l_8).length) c45), (80, .int .i64 s_9)] rfl ⟨rfl, rfl, rfl, rfl, rfl, rfl, rfl, rfl, rfl, rfl, rfl, rfl, rfl, rfl, rfl, rfl, rfl, rfl, trivial⟩ ?_
                    obtain ⟨v_11, hy60, hm51⟩ := bind_some hm51
                    obtain ⟨hc61, hy60⟩ := ix_some hy60
                    refine WO_index tbok rfl rfl rfl rfl rfl rfl rfl rfl (OwnE.addr hL42) (by simpa using hc61) ?_
                    refine WO_loadO (E := (I1 .i64)) tbok (fun _ => rfl) 1 rfl rfl rfl rfl (fun _ h => h) hL42 rfl hy60 rfl ?_
                    refine WO_loadB tbok 0 rfl rfl rfl rfl (fun _ h => h) rfl rfl ?_
                    refine WO_pure tbok 1 [(1, .int .i64 p1), (2, .int .i64 p2), (3, .slice a_p3 p3.length c_p3), (4, .int .i64 p4), (5, .pointer (some ⟨b1, 0, none⟩)), (10, .int .i64 0), (14, .int .i64 s_4), (16, .slice a43 ((l_8).length) c45), (17, .int .i64 s_9), (51, .slice a_p3 p3.length c_p3), (52, .int .i64 (p3.length : Int)), (53, .int .i64 s_4), (71, .slice a35 ((v_7).length) c36), (72, .int .i64 ((v_7).length : Int)), (73, .int .i64 s_9), (78, .int .i64 v_10), (82, .int .i64 v_11), (83, .slice a_p0 p0.length c_p0), (84, .int .i64 s_4)] rfl ⟨rfl, rfl, rfl, rfl, rfl, rfl, rfl, rfl, rfl, rfl, rfl, rfl, rfl, rfl, rfl, rfl, rfl, rfl, rfl, trivial⟩ ?_
                    obtain ⟨v_12, hy62, hm51⟩ := bind_some hm51
                    obtain ⟨hc63, hy62⟩ := ix_some hy62
                    refine WO_index tbok rfl rfl rfl rfl rfl rfl rfl rfl (SlR.addr h_p0) hc63 ?_
                    refine WO_loadR tbok rfl rfl rfl rfl (fun _ h => St.sat h) h_p0 hy62 rfl rfl (fun a64 c65 h66 => ?_)
                    refine WO_pure tbok 1 [(1, .int .i64 p1), (2, .int .i64 p2), (3, .slice a_p3 p3.length c_p3), (4, .int .i64 p4), (5, .pointer (some ⟨b1, 0, none⟩)), (10, .int .i64 0), (14, .int .i64 s_4), (16, .slice a43 ((l_8).length) c45), (51, .slice a_p3 p3.length c_p3), (52, .int .i64 (p3.length : Int)), (53, .int .i64 s_4), (71, .slice a35 ((v_7).length) c36), (72, .int .i64 ((v_7).length : Int)), (73, .int .i64 s_9), (78, .int .i64 v_10), (82, .int .i64 v_11), (86, .slice a64 ((v_12).length) c65), (87, .int .i64 s_9)] rfl ⟨rfl, rfl, rfl, rfl, rfl, rfl, rfl, rfl, rfl, rfl, rfl, rfl, rfl, rfl, rfl, rfl, rfl, rfl, trivial⟩ ?_
                    obtain ⟨v_13, hy67, hm51⟩ := bind_some hm51
                    obtain ⟨hc68, hy67⟩ := ix_some hy67
                    refine WO_index tbok rfl rfl rfl rfl rfl rfl rfl rfl (SlR.addr h66) hc68 ?_
                    refine WO_loadE tbok rfl rfl rfl rfl (fun _ h => St.sat h) h66 hy67 rfl ?_
                    refine WO_pure tbok 2 [(1, .int .i64 p1), (2, .int .i64 p2), (3, .slice a_p3 p3.length c_p3), (4, .int .i64 p4), (5, .pointer (some ⟨b1, 0, none⟩)), (10, .int .i64 0), (14, .int .i64 s_4), (16, .slice a43 ((l_8).length) c45), (51, .slice a_p3 p3.length c_p3), (52, .int .i64 (p3.length : Int)), (53, .int .i64 s_4), (71, .slice a35 ((v_7).length) c36), (72, .int .i64 ((v_7).length : Int)), (73, .int .i64 s_9), (91, .bool (decide ((w64 (v_11 + v_13)) < v_10)))] rfl ⟨rfl, rfl, rfl, rfl, rfl, rfl, rfl, rfl, rfl, rfl, rfl, rfl, rfl, rfl, rfl, trivial⟩ ?_
                    refine WO_tail ?_
                    refine WO_end ?_
                    refine WK_cond (b := decide ((w64 (v_11 + v_13)) < v_10)) rfl (fun hb69 => ?_) (fun hb69 => ?_)
                    · have hm51 := ifT hb69 hm51
                      refine WK_seq ?_
                      refine WK_region ?_
                      refine WO_pure tbok 1 [(1, .int .i64 p1), (2, .int .i64 p2), (3, .slice a_p3 p3.length c_p3), (4, .int .i64 p4), (5, .pointer (some ⟨b1, 0, none⟩)), (10, .int .i64 12), (14, .int .i64 s_4), (16, .slice a43 ((l_8).length) c45), (51, .slice a_p3 p3.length c_p3), (52, .int .i64 (p3.length : Int)), (53, .int .i64 s_4), (71, .slice a35 ((v_7).length) c36), (72, .int .i64 ((v_7).length : Int)), (73, .int .i64 s_9)] rfl ⟨rfl, rfl, rfl, rfl, rfl, rfl, rfl, rfl, rfl, rfl, rfl, rfl, rfl, rfl, trivial⟩ ?_
                      refine WO_end ?_
                      cases hm51
                      have hq := hd55 _ rfl
                      subst hq
                      have hm19 : some _ = some _ := hm19
                      cases hm19
                      have hq := hd23 _ rfl
                      subst hq
                      have hm : some _ = some _ := hm
                      cases hm
                      exact WK_ret (ret_out (L := []) (RLc_tmp rfl RLc_nil) (List.nil_sublist _) rfl)
                    · have hm51 := ifF hb69 hm51
                      refine WK_skip ?_
                      refine WK_blk ?_
                      refine WK_region ?_
                      refine WO_pure tbok 2 [(1, .int .i64 p1), (2, .int .i64 p2), (3, .slice a_p3 p3.length c_p3), (4, .int .i64 p4), (5, .pointer (some ⟨b1, 0, none⟩)), (10, .int .i64 0), (14, .int .i64 s_4), (16, .slice a43 ((l_8).length) c45), (51, .slice a_p3 p3.length c_p3), (52, .int .i64 (p3.length : Int)), (53, .int .i64 s_4), (71, .slice a35 ((v_7).length) c36), (72, .int .i64 ((v_7).length : Int)), (73, .int .i64 (w64 (s_9 + 1)))] rfl ⟨rfl, rfl, rfl, rfl, rfl, rfl, rfl, rfl, rfl, rfl, rfl, rfl, rfl, rfl, trivial⟩ ?_
                      refine WO_end ?_
                      cases hm51
                      refine WK.sub ?_ (WK.cls (fun _ h => h) (hn54 _ () rfl trivial))
                      exact ⟨rfl, rfl, rfl, rfl, rfl, rfl, rfl, rfl, rfl, rfl, rfl, rfl, rfl, rfl, trivial⟩
                  · have hm51 := ifF hb57 hm51
                    refine WK_exit rfl ?_
                    cases hm51
                    refine WK.sub ?_ (WK.cls (fun _ h => h) (hk50 ((), ()) (hd55 _ rfl)))
                    exact ⟨rfl, rfl, rfl, rfl, rfl, rfl, rfl, rfl, rfl, trivial⟩
              · refine WK_cond (b := decide (0 < s_4)) rfl (fun hb70 => ?_) (fun hb70 => ?_)
                · have hx46 := ifT hb70 hx46
                  refine WK_region ?_
                  refine WO_pure tbok 3 [(1, .int .i64 p1), (2, .int .i64 p2), (3, .slice a_p3 p3.length c_p3), (4, .int .i64 p4), (5, .pointer (some ⟨b1, 0, none⟩)), (10, .int .i64 0), (14, .int .i64 s_4), (15, .slice a35 ((v_7).length) c36), (16, .slice (some ⟨b39, 0, none⟩) ((List.replicate ((v_7).length : Int).toNat (0 : Int)).length) c40), (51, .slice a_p3 p3.length c_p3), (52, .int .i64 (p3.length : Int)), (53, .int .i64 s_4), (63, .slice a_p3 p3.length c_p3), (65, .int .i64 (w64 (s_4 - 1)))] rfl ⟨rfl, rfl, rfl, rfl, rfl, rfl, rfl, rfl, rfl, rfl, rfl, rfl, rfl, rfl, trivial⟩ ?_
                  obtain ⟨v_14, hy71, hx46⟩ := bind_some hx46
                  obtain ⟨hc72, hy71⟩ := ix_some hy71
                  refine WO_index tbok rfl rfl rfl rfl rfl rfl rfl rfl (SlR.addr h_p3) hc72 ?_
                  refine WO_loadR tbok rfl rfl rfl rfl (fun _ h => St.sat h) h_p3 hy71 rfl rfl (fun a73 c74 h75 => ?_)
                  refine WO_pure tbok 2 [(1, .int .i64 p1), (2, .int .i64 p2), (3, .slice a_p3 p3.length c_p3), (4, .int .i64 p4), (5, .pointer (some ⟨b1, 0, none⟩)), (10, .int .i64 0), (14, .int .i64 s_4), (15, .slice a35 ((v_7).length) c36), (16, .slice (some ⟨b39, 0, none⟩) ((List.replicate ((v_7).length : Int).toNat (0 : Int)).length) c40), (51, .slice a_p3 p3.length c_p3), (52, .int .i64 (p3.length : Int)), (53, .int .i64 s_4), (67, .slice a73 ((v_14).length) c74), (68, .int .i64 p1), (69, .int .i64 p2)] rfl ⟨rfl, rfl, rfl, rfl, rfl, rfl, rfl, rfl, rfl, rfl, rfl, rfl, rfl, rfl, rfl, trivial⟩ ?_
                  obtain ⟨y_15, hc76, hx46⟩ := bind_some hx46
                  refine WO_call1 (aggregate_reached_Q y_15) rfl rfl trivial rfl rfl rfl rfl ⟨42, #[], #[], rfl, callable_42, fun w hw => ⟨_, hw.sat, aggregate_reached_walk h75 hc76⟩⟩ (fun v80 L79 hq => ?_)
                  obtain ⟨a77, qa77, c78, rfl, hL79⟩ := hq
                  obtain rfl := OwnE.qlen hL79
                  refine WO.cls (C' := St w0 m m [[⟨b1, 22, [.slice a_p0 p0.length c_p0]⟩], L41, L79]) (fun _ h => h) ?_
                  refine WO_pure tbok 1 [(1, .int .i64 p1), (2, .int .i64 p2), (3, .slice a_p3 p3.length c_p3), (4, .int .i64 p4), (5, .pointer (some ⟨b1, 0, none⟩)), (10, .int .i64 0), (14, .int .i64 s_4), (15, .slice a35 ((v_7).length) c36), (16, .slice a77 ((y_15).length) c78), (51, .slice a_p3 p3.length c_p3), (52, .int .i64 (p3.length : Int)), (53, .int .i64 s_4)] rfl ⟨rfl, rfl, rfl, rfl, rfl, rfl, rfl, rfl, rfl, rfl, rfl, rfl, trivial⟩ ?_
                  refine WO_end ?_
                  refine WK_move 1 2 rfl rfl rfl ?_
                  refine WK.cls (C' := St w0 m m [[⟨b1, 22, [.slice a_p0 p0.length c_p0]⟩], L79, []]) (fun _ h => h) ?_
                  cases hx46
                  refine WK.sub ?_ (WK.cls (fun _ h => St.take 2 h) (hk47 ⟨a77, _, c78, L79⟩ hL79))
                  exact ⟨rfl, rfl, rfl, rfl, rfl, rfl, rfl, rfl, rfl, rfl, rfl, rfl, trivial⟩
                · have hx46 := ifF hb70 hx46
                  refine WK_skip ?_
                  cases hx46
                  refine WK.sub ?_ (WK.cls (fun _ h => h) (hk47 ⟨some ⟨b39, 0, none⟩, (List.replicate ((v_7).length : Int).toNat (0 : Int)).length, c40, L41⟩ hL41))
                  exact ⟨rfl, rfl, rfl, rfl, rfl, rfl, rfl, rfl, rfl, rfl, rfl, rfl, trivial⟩
            · have hm19 := ifF hb32 hm19
              refine WK_exit rfl ?_
              cases hm19
              refine WK.sub ?_ (WK.cls (fun _ h => h) (hk18 ((), ()) (hd23 _ rfl)))
              exact ⟨rfl, rfl, rfl, trivial⟩
        · refine WK_block ?_
          refine WK_loop (S := Int) (G := Unit) (fun s => aggregate_Prove_s1 p3 s) (fun s g => [(1, .int .i64 p1), (2, .int .i64 p2), (3, .slice a_p3 p3.length c_p3), (4, .int .i64 p4), (5, .pointer (some ⟨b1, 0, none⟩)), (10, .int .i64 0), (36, .slice a_p3 p3.length c_p3), (37, .int .i64 (p3.length : Int)), (38, .int .i64 s)]) (fun s g => St w0 m m [[⟨b1, 22, [.slice a_p0 p0.length c_p0]⟩]]) (fun s g => True) FUEL 0 () x7 hx8 trivial ⟨rfl, rfl, rfl, rfl, rfl, rfl, rfl, rfl, rfl, trivial⟩ (fun _ h => h) ?_
          rintro s_3 ⟨⟩ o11 fl12 hm10 - hn13 hd14
          have hm10 : aggregate_Prove_s1 p3 s_3 = some o11 := hm10
          unfold aggregate_Prove_s1 at hm10
          refine WK.sub (e' := [(1, .int .i64 p1), (2, .int .i64 p2), (3, .slice a_p3 p3.length c_p3), (4, .int .i64 p4), (5, .pointer (some ⟨b1, 0, none⟩)), (10, .int .i64 0), (36, .slice a_p3 p3.length c_p3), (37, .int .i64 (p3.length : Int)), (38, .int .i64 s_3)]) ⟨rfl, rfl, rfl, rfl, rfl, rfl, rfl, rfl, rfl, trivial⟩ (WK.cls (C' := St w0 m m [[⟨b1, 22, [.slice a_p0 p0.length c_p0]⟩]]) (fun _ h => h) ?_)
          refine WK_seq ?_
          refine WK_region ?_
          refine WO_pure tbok 1 [(1, .int .i64 p1), (2, .int .i64 p2), (3, .slice a_p3 p3.length c_p3), (4, .int .i64 p4), (5, .pointer (some ⟨b1, 0, none⟩)), (10, .int .i64 0), (36, .slice a_p3 p3.length c_p3), (37, .int .i64 (p3.length : Int)), (38, .int .i64 s_3), (39, .bool (decide (s_3 < (p3.length : Int))))] rfl ⟨rfl, rfl, rfl, rfl, rfl, rfl, rfl, rfl, rfl, rfl, trivial⟩ ?_
          refine WO_end ?_
          refine WK_seq ?_
          refine WK_cond (b := decide (s_3 < (p3.length : Int))) rfl (fun hb81 => ?_) (fun hb81 => ?_)
          · have hm10 := ifT hb81 hm10
            refine WK_skip ?_
            refine WK_seq ?_
            refine WK_block ?_
            refine WK_seq ?_
            refine WK_region ?_
            obtain ⟨v_16, hy82, hm10⟩ := bind_some hm10
            obtain ⟨hc83, hy82⟩ := ix_some hy82
            refine WO_index tbok rfl rfl rfl rfl rfl rfl rfl rfl (SlR.addr h_p3) hc83 ?_
            refine WO_loadR tbok rfl rfl rfl rfl (fun _ h => St.sat h) h_p3 hy82 rfl rfl (fun a84 c85 h86 => ?_)
            refine WO_pure tbok 1 [(1, .int .i64 p1), (2, .int .i64 p2), (3, .slice a_p3 p3.length c_p3), (4, .int .i64 p4), (5, .pointer (some ⟨b1, 0, none⟩)), (10, .int .i64 0), (13, .slice a84 ((v_16).length) c85), (36, .slice a_p3 p3.length c_p3), (37, .int .i64 (p3.length : Int)), (38, .int .i64 s_3)] rfl ⟨rfl, rfl, rfl, rfl, rfl, rfl, rfl, rfl, rfl, rfl, trivial⟩ ?_
            refine WO_end ?_
            refine WK_seq ?_
            obtain ⟨s_17, hx87, hm10⟩ := bind_some hm10
            refine WK_meet [(1, .int .i64 p1), (2, .int .i64 p2), (3, .slice a_p3 p3.length c_p3), (4, .int .i64 p4), (5, .pointer (some ⟨b1, 0, none⟩)), (10, .int .i64 0), (36, .slice a_p3 p3.length c_p3), (37, .int .i64 (p3.length : Int)), (38, .int .i64 s_3), (49, .bool s_17)] (St w0 m m [[⟨b1, 22, [.slice a_p0 p0.length c_p0]⟩]]) ?_ (fun hk88 => ?_)
            · refine WK_cond (b := s_17) rfl (fun hb89 => ?_) (fun hb89 => ?_)
              · have hm10 := ifT hb89 hm10
                refine WK_seq ?_
                refine WK_region ?_
                refine WO_pure tbok 1 [(1, .int .i64 p1), (2, .int .i64 p2), (3, .slice a_p3 p3.length c_p3), (4, .int .i64 p4), (5, .pointer (some ⟨b1, 0, none⟩)), (10, .int .i64 2), (36, .slice a_p3 p3.length c_p3), (37, .int .i64 (p3.length : Int)), (38, .int .i64 s_3)] rfl ⟨rfl, rfl, rfl, rfl, rfl, rfl, rfl, rfl, rfl, trivial⟩ ?_
                refine WO_end ?_
                cases hm10
                have hq := hd14 _ rfl
                subst hq
                have hm : some _ = some _ := hm
                cases hm
                exact WK_ret (ret_out (L := []) (RLc_tmp rfl RLc_nil) (List.nil_sublist _) rfl)
              · have hm10 := ifF hb89 hm10
                refine WK_skip ?_
                refine WK_blk ?_
                refine WK_region ?_
                refine WO_pure tbok 2 [(1, .int .i64 p1), (2, .int .i64 p2), (3, .slice a_p3 p3.length c_p3), (4, .int .i64 p4), (5, .pointer (some ⟨b1, 0, none⟩)), (10, .int .i64 0), (36, .slice a_p3 p3.length c_p3), (37, .int .i64 (p3.length : Int)), (38, .int .i64 (w64 (s_3 + 1)))] rfl ⟨rfl, rfl, rfl, rfl, rfl, rfl, rfl, rfl, rfl, trivial⟩ ?_
                refine WO_end ?_
                cases hm10
                refine WK.sub ?_ (WK.cls (fun _ h => h) (hn13 _ () rfl trivial))
                exact ⟨rfl, rfl, rfl, rfl, rfl, rfl, rfl, rfl, rfl, trivial⟩
            · refine WK_region ?_
              refine WO_pure tbok 1 [(1, .int .i64 p1), (2, .int .i64 p2), (3, .slice a_p3 p3.length c_p3), (4, .int .i64 p4), (5, .pointer (some ⟨b1, 0, none⟩)), (10, .int .i64 0), (13, .slice a84 ((v_16).length) c85), (36, .slice a_p3 p3.length c_p3), (37, .int .i64 (p3.length : Int)), (38, .int .i64 s_3), (42, .slice a84 ((v_16).length) c85)] rfl ⟨rfl, rfl, rfl, rfl, rfl, rfl, rfl, rfl, rfl, rfl, rfl, trivial⟩ ?_
              obtain ⟨y_18, hc90, hx87⟩ := bind_some hx87
              refine WO_call0 (.int .i64 y_18) rfl rfl trivial rfl rfl rfl rfl St_closed ⟨34, #[], #[], rfl, callable_34, fun w hw => ⟨_, hw.sat, slices_Min_sint_walk h86 hc90⟩⟩ ?_
              refine WO_pure tbok 2 [(1, .int .i64 p1), (2, .int .i64 p2), (3, .slice a_p3 p3.length c_p3), (4, .int .i64 p4), (5, .pointer (some ⟨b1, 0, none⟩)), (10, .int .i64 0), (13, .slice a84 ((v_16).length) c85), (36, .slice a_p3 p3.length c_p3), (37, .int .i64 (p3.length : Int)), (38, .int .i64 s_3), (45, .bool (decide (y_18 < (-1099511627776))))] rfl ⟨rfl, rfl, rfl, rfl, rfl, rfl, rfl, rfl, rfl, rfl, rfl, trivial⟩ ?_
              refine WO_split (d := 45) (b := decide (y_18 < (-1099511627776))) rfl (fun hb91 => ?_) (fun hb91 => ?_)
              · have hx87 := ifT hb91 hx87
                refine WO_pure tbok 1 [(1, .int .i64 p1), (2, .int .i64 p2), (3, .slice a_p3 p3.length c_p3), (4, .int .i64 p4), (5, .pointer (some ⟨b1, 0, none⟩)), (10, .int .i64 0), (36, .slice a_p3 p3.length c_p3), (37, .int .i64 (p3.length : Int)), (38, .int .i64 s_3), (45, .bool true)] rfl ⟨rfl, rfl, rfl, rfl, rfl, rfl, rfl, rfl, rfl, rfl, trivial⟩ ?_
                refine WO_skip rfl rfl ?_
                refine WO_pure tbok 2 [(1, .int .i64 p1), (2, .int .i64 p2), (3, .slice a_p3 p3.length c_p3), (4, .int .i64 p4), (5, .pointer (some ⟨b1, 0, none⟩)), (10, .int .i64 0), (36, .slice a_p3 p3.length c_p3), (37, .int .i64 (p3.length : Int)), (38, .int .i64 s_3), (49, .bool true)] rfl ⟨rfl, rfl, rfl, rfl, rfl, rfl, rfl, rfl, rfl, rfl, trivial⟩ ?_
                refine WO_end ?_
                cases hx87
                refine WK.sub ?_ (WK.cls (fun _ h => h) hk88)
                exact ⟨rfl, rfl, rfl, rfl, rfl, rfl, rfl, rfl, rfl, rfl, trivial⟩
              · have hx87 := ifF hb91 hx87
                refine WO_pure tbok 1 [(1, .int .i64 p1), (2, .int .i64 p2), (3, .slice a_p3 p3.length c_p3), (4, .int .i64 p4), (5, .pointer (some ⟨b1, 0, none⟩)), (10, .int .i64 0), (36, .slice a_p3 p3.length c_p3), (37, .int .i64 (p3.length : Int)), (38, .int .i64 s_3), (45, .bool false), (46, .slice a84 ((v_16).length) c85)] rfl ⟨rfl, rfl, rfl, rfl, rfl, rfl, rfl, rfl, rfl, rfl, rfl, trivial⟩ ?_
                obtain ⟨y_19, hc92, hx87⟩ := bind_some hx87
                refine WO_call0 (.int .i64 y_19) rfl rfl trivial rfl rfl rfl rfl St_closed ⟨41, #[], #[], rfl, callable_41, fun w hw => ⟨_, hw.sat, slices_Max_sint_walk h86 hc92⟩⟩ ?_
                refine WO_pure tbok 2 [(1, .int .i64 p1), (2, .int .i64 p2), (3, .slice a_p3 p3.length c_p3), (4, .int .i64 p4), (5, .pointer (some ⟨b1, 0, none⟩)), (10, .int .i64 0), (36, .slice a_p3 p3.length c_p3), (37, .int .i64 (p3.length : Int)), (38, .int .i64 s_3), (49, .bool (decide (1099511627776 < y_19)))] rfl ⟨rfl, rfl, rfl, rfl, rfl, rfl, rfl, rfl, rfl, rfl, trivial⟩ ?_
                refine WO_end ?_
                cases hx87
                refine WK.sub ?_ (WK.cls (fun _ h => h) hk88)
                exact ⟨rfl, rfl, rfl, rfl, rfl, rfl, rfl, rfl, rfl, rfl, trivial⟩
          · have hm10 := ifF hb81 hm10
            refine WK_exit rfl ?_
            cases hm10
            refine WK.sub ?_ (WK.cls (fun _ h => h) (hk9 ((), ()) (hd14 _ rfl)))
            exact ⟨rfl, rfl, rfl, rfl, rfl, rfl, trivial⟩
    · refine WK_region ?_
      refine WO_pure tbok 2 [(1, .int .i64 p1), (2, .int .i64 p2), (3, .slice a_p3 p3.length c_p3), (4, .int .i64 p4), (5, .pointer (some ⟨b1, 0, none⟩)), (10, .int .i64 0), (27, .int .i64 (p3.length : Int))] rfl ⟨rfl, rfl, rfl, rfl, rfl, rfl, rfl, trivial⟩ ?_
      refine WO_loadB tbok 0 rfl rfl rfl rfl (fun _ h => h) rfl rfl ?_
      refine WO_pure tbok 3 [(1, .int .i64 p1), (2, .int .i64 p2), (3, .slice a_p3 p3.length c_p3), (4, .int .i64 p4), (5, .pointer (some ⟨b1, 0, none⟩)), (10, .int .i64 0), (31, .bool ((p3.length : Int) != (p0.length : Int)))] rfl ⟨rfl, rfl, rfl, rfl, rfl, rfl, rfl, trivial⟩ ?_
      refine WO_split (d := 31) (b := (p3.length : Int) != (p0.length : Int)) rfl (fun hb93 => ?_) (fun hb93 => ?_)
      · have hx4 := ifT hb93 hx4
        refine WO_pure tbok 2 [(1, .int .i64 p1), (2, .int .i64 p2), (3, .slice a_p3 p3.length c_p3), (4, .int .i64 p4), (5, .pointer (some ⟨b1, 0, none⟩)), (10, .int .i64 0), (31, .bool true)] rfl ⟨rfl, rfl, rfl, rfl, rfl, rfl, rfl, trivial⟩ ?_
        refine WO_skip rfl rfl ?_
        refine WO_pure tbok 1 [(1, .int .i64 p1), (2, .int .i64 p2), (3, .slice a_p3 p3.length c_p3), (4, .int .i64 p4), (5, .pointer (some ⟨b1, 0, none⟩)), (10, .int .i64 0), (35, .bool true)] rfl ⟨rfl, rfl, rfl, rfl, rfl, rfl, rfl, trivial⟩ ?_
        refine WO_end ?_
        cases hx4
        refine WK.sub ?_ (WK.cls (fun _ h => h) hk5)
        exact ⟨rfl, rfl, rfl, rfl, rfl, rfl, rfl, trivial⟩
      · have hx4 := ifF hb93 hx4
        refine WO_pure tbok 2 [(1, .int .i64 p1), (2, .int .i64 p2), (3, .slice a_p3 p3.length c_p3), (4, .int .i64 p4), (5, .pointer (some ⟨b1, 0, none⟩)), (10, .int .i64 0), (31, .bool false), (32, .slice a_p3 p3.length c_p3), (33, .func (.func 40) #[] #[.pointer (some ⟨b1, 0, none⟩)])] rfl ⟨rfl, rfl, rfl, rfl, rfl, rfl, rfl, rfl, rfl, trivial⟩ ?_
        obtain ⟨y_21, hc95, hx4⟩ := bind_some hx4
        refine WO_call0 (.bool y_21) rfl rfl trivial rfl rfl rfl rfl St_closed ⟨29, #[], #[], rfl, callable_29, fun w hw => ⟨_, hw.satV, slices_ContainsFunc_ssint_walk (h_p3.mono (mono_RowE (mono_FE _) _) hw.leV) (fun m1 hm1 _ _ _ z_20 h94 _ h => specV_cap callable_40 (aggregate_Prove_c1_walk h94 (hm1 _ _ (hw.memV (i := 0) rfl (List.mem_singleton.2 rfl))) ((h_p0.mono (mono_RowE (mono_FE _) _) hw.leV).mono (mono_RowE (mono_FE _) _) hm1) h)) hc95⟩⟩ ?_
        refine WO_pure tbok 1 [(1, .int .i64 p1), (2, .int .i64 p2), (3, .slice a_p3 p3.length c_p3), (4, .int .i64 p4), (5, .pointer (some ⟨b1, 0, none⟩)), (10, .int .i64 0), (35, .bool y_21)] rfl ⟨rfl, rfl, rfl, rfl, rfl, rfl, rfl, trivial⟩ ?_
        refine WO_end ?_
        cases hx4
        refine WK.sub ?_ (WK.cls (fun _ h => h) hk5)
        exact ⟨rfl, rfl, rfl, rfl, rfl, rfl, rfl, trivial⟩
theorem fiduciallaw45_known_walk {m : Mu}    {r : Bool} (hm : fiduciallaw45_known = some r) :
    Go.E.Spec Try.prog 8 [] m (fun v _ _ => v = .bool r) := by
  refine Spec_enter Try.func8 rfl rfl rfl (fun w0 => ?_)
  refine WK.sub (e' := []) trivial ?_
  refine WK.sub (e' := []) trivial ?_
  unfold fiduciallaw45_known at hm
  refine WK_seq ?_
  refine WK_region ?_
  refine WO_pure tbok 1 [(0, .bool false)] rfl ⟨rfl, trivial⟩ ?_
  refine WO_end ?_
  refine WK_seq ?_
  refine WK_region ?_
  refine WO_bslice (E := (I1 .i64)) tbok (fun _ => rfl) (by decide) [.int .i64 0, .int .i64 3] ([0, 3] : List Int) rfl rfl trivial rfl rfl rfl rfl rfl rfl rfl rfl rfl rfl rfl rfl (fun b1 hb1 => ?_)
  refine WO.cls (C' := St w0 m m [[⟨b1, 3, ([0, 3] : List Int).flatMap (I1 .i64)⟩]]) (fun _ h => h) ?_
  refine WO_bslice (E := (I1 .i64)) tbok (fun _ => rfl) (by decide) [.int .i64 5, .int .i64 1] ([5, 1] : List Int) rfl rfl trivial rfl rfl rfl rfl rfl rfl rfl rfl rfl rfl rfl rfl (fun b2 hb2 => ?_)
  refine WO.cls (C' := St w0 m m [[⟨b1, 3, ([0, 3] : List Int).flatMap (I1 .i64)⟩], [⟨b2, 3, ([5, 1] : List Int).flatMap (I1 .i64)⟩]]) (fun _ h => h) ?_
  refine WO_bslice (E := (I1 .i64)) tbok (fun _ => rfl) (by decide) [.int .i64 0, .int .i64 3] ([0, 3] : List Int) rfl rfl trivial rfl rfl rfl rfl rfl rfl rfl rfl rfl rfl rfl rfl (fun b3 hb3 => ?_)
  refine WO.cls (C' := St w0 m m [[⟨b1, 3, ([0, 3] : List Int).flatMap (I1 .i64)⟩], [⟨b2, 3, ([5, 1] : List Int).flatMap (I1 .i64)⟩], [⟨b3, 3, ([0, 3] : List Int).flatMap (I1 .i64)⟩]]) (fun _ h => h) ?_
  refine WO_freeze 0 rfl (fun m5 hle6 hmm7 => ?_)
  refine WO.cls (C' := St w0 m m5 [[], [⟨b2, 3, ([5, 1] : List Int).flatMap (I1 .i64)⟩], [⟨b3, 3, ([0, 3] : List Int).flatMap (I1 .i64)⟩]]) (fun _ h => h) ?_
  refine WO_freeze 1 rfl (fun m8 hle9 hmm10 => ?_)
  refine WO.cls (C' := St w0 m m8 [[], [], [⟨b3, 3, ([0, 3] : List Int).flatMap (I1 .i64)⟩]]) (fun _ h => h) ?_
  refine WO_freeze 2 rfl (fun m11 hle12 hmm13 => ?_)
  refine WO.cls (C' := St w0 m m11 [[], [], []]) (fun _ h => h) ?_
  refine WO_bsliceX (E := V1) (El := (RowE (FE (I1 .i64)) 1)) tbok (fun _ => rfl) (by decide) [.slice (some ⟨b1, 0, none⟩) 2 2, .slice (some ⟨b2, 0, none⟩) 2 2, .slice (some ⟨b3, 0, none⟩) 2 2] [.slice (some ⟨b1, 0, none⟩) 2 2, .slice (some ⟨b2, 0, none⟩) 2 2, .slice (some ⟨b3, 0, none⟩) 2 2] ([([0, 3] : List Int), ([5, 1] : List Int), ([0, 3] : List Int)] : List (List Int)) rfl rfl trivial rfl rfl rfl rfl rfl rfl rfl rfl rfl rfl rfl rfl ⟨⟨_, rfl, (((OwnE.rd (E := (I1 .i64)) (k := 1) (fun _ => rfl) hb1 hmm7).mono (mono_FE _) hle9).mono (mono_FE _) hle12)⟩, ⟨_, rfl, ((OwnE.rd (E := (I1 .i64)) (k := 1) (fun _ => rfl) hb2 hmm10).mono (mono_FE _) hle12)⟩, ⟨_, rfl, (OwnE.rd (E := (I1 .i64)) (k := 1) (fun _ => rfl) hb3 hmm13)⟩, trivial⟩ (fun b4 hb4 => ?_)
  refine WO.cls (C' := St w0 m m11 [[], [], [], [⟨b4, 24, [.slice (some ⟨b1, 0, none⟩) 2 2, .slice (some ⟨b2, 0, none⟩) 2 2, .slice (some ⟨b3, 0, none⟩) 2 2]⟩]]) (fun _ h => h) ?_
  refine WO_pure tbok 1 [(0, .bool false), (1, .slice (some ⟨b4, 0, none⟩) 3 3)] rfl ⟨rfl, rfl, trivial⟩ ?_
  refine WO_end ?_
  refine WK_seq ?_
  refine WK_region ?_
  refine WO_pure tbok 1 [(0, .bool false), (1, .slice (some ⟨b4, 0, none⟩) 3 3), (11, .slice (some ⟨b4, 0, none⟩) 3 3)] rfl ⟨rfl, rfl, rfl, trivial⟩ ?_
  refine WO_freeze 3 rfl (fun m14 hle15 hmm16 => ?_)
  refine WO.cls (C' := St w0 m m14 [[], [], [], []]) (fun _ h => h) ?_
  obtain ⟨⟨y_1, y_2, y_3, y_4⟩, hc17, hm⟩ := bind_some hm
  refine WO_call2 (aggregate_Line_Q (y_1, y_2, y_3, y_4)) rfl rfl trivial rfl rfl rfl rfl ⟨10, #[], #[], rfl, callable_10, aggregate_Line_walk (OwnX.rd (E := V1) (k := 1) (fun _ => rfl) hb4 (mono_RowE (mono_FE _) _) hle15 hmm16) hc17⟩ (fun v23 m24 L22 hle25 hq => ?_)
  obtain ⟨a18, qa18, c19, a20, qa20, c21, rfl, h26, h27⟩ := hq
  obtain rfl := SlR.qlen h26
  obtain rfl := SlR.qlen h27
  refine WO.cls (C' := St w0 m m24 [[], [], [], [], L22]) (fun _ h => h.sub (by simp)) ?_
  refine WO_pure tbok 9 [(0, .bool false), (1, .slice (some ⟨b4, 0, none⟩) 3 3), (2, .slice a18 ((y_1).length) c19), (3, .int .i64 y_2), (4, .slice a20 ((y_3).length) c21), (5, .int .i64 y_4)] rfl ⟨rfl, rfl, rfl, rfl, rfl, rfl, trivial⟩ ?_
  refine WO_end ?_
  refine WK_seq ?_
  refine WK_region ?_
  refine WO_pure tbok 3 [(0, .bool false), (1, .slice (some ⟨b4, 0, none⟩) 3 3), (2, .slice a18 ((y_1).length) c19), (3, .int .i64 y_2), (4, .slice a20 ((y_3).length) c21), (19, .bool (y_4 == 0))] rfl ⟨rfl, rfl, rfl, rfl, rfl, rfl, trivial⟩ ?_
  refine WO_split (d := 19) (b := y_4 == 0) rfl (fun hb28 => ?_) (fun hb28 => ?_)
  · have hm := ifT hb28 hm
    refine WO_pure tbok 4 [(0, .bool false), (1, .slice (some ⟨b4, 0, none⟩) 3 3), (2, .slice a18 ((y_1).length) c19), (4, .slice a20 ((y_3).length) c21), (23, .bool (y_2 == 3))] rfl ⟨rfl, rfl, rfl, rfl, rfl, trivial⟩ ?_
    refine WO_split (d := 23) (b := y_2 == 3) rfl (fun hb29 => ?_) (fun hb29 => ?_)
    · have hm := ifT hb29 hm
      refine WO_pure tbok 1 [(0, .bool false), (1, .slice (some ⟨b4, 0, none⟩) 3 3), (4, .slice a20 ((y_3).length) c21), (23, .bool true), (24, .slice a18 ((y_1).length) c19)] rfl ⟨rfl, rfl, rfl, rfl, rfl, trivial⟩ ?_
      refine WO_bslice (E := (I1 .i64)) tbok (fun _ => rfl) (by decide) [.int .i64 0, .int .i64 1, .int .i64 0] ([0, 1, 0] : List Int) rfl rfl trivial rfl rfl rfl rfl rfl rfl rfl rfl rfl rfl rfl rfl (fun b30 hb30 => ?_)
      refine WO.cls (C' := St w0 m m24 [[], [], [], [], L22, [⟨b30, 3, ([0, 1, 0] : List Int).flatMap (I1 .i64)⟩]]) (fun _ h => h) ?_
      obtain ⟨y_5, hc31, hm⟩ := bind_some hm
      refine WO_call0 (.bool y_5) rfl rfl trivial rfl rfl rfl rfl St_closed ⟨13, #[], #[], rfl, callable_13, fun w hw => ⟨_, hw.satV, slices_Equal_sint_walk (h26.mono (mono_FE _) hw.leV) (OwnE.rd (E := (I1 .i64)) (k := 1) (fun _ => rfl) hb30 (fun _ hx => hw.memV (i := 5) rfl hx)) hc31⟩⟩ ?_
      refine WO_pure tbok 2 [(0, .bool false), (1, .slice (some ⟨b4, 0, none⟩) 3 3), (4, .slice a20 ((y_3).length) c21), (28, .bool y_5)] rfl ⟨rfl, rfl, rfl, rfl, trivial⟩ ?_
      refine WO_split (d := 28) (b := y_5) rfl (fun hb32 => ?_) (fun hb32 => ?_)
      · have hm := ifT hb32 hm
        refine WO_pure tbok 2 [(0, .bool false), (1, .slice (some ⟨b4, 0, none⟩) 3 3), (4, .slice a20 ((y_3).length) c21), (28, .bool true), (29, .slice (some ⟨b4, 0, none⟩) 3 3), (30, .slice a20 ((y_3).length) c21)] rfl ⟨rfl, rfl, rfl, rfl, rfl, rfl, trivial⟩ ?_
        obtain ⟨y_6, hc33, hm⟩ := bind_some hm
        refine WO_call0 (.int .i64 y_6) rfl rfl trivial rfl rfl rfl rfl St_closed ⟨15, #[], #[], rfl, callable_15, fun w hw => ⟨_, hw.sat, aggregate_Prove_walk ((OwnX.rd (E := V1) (k := 1) (fun _ => rfl) hb4 (mono_RowE (mono_FE _) _) hle15 hmm16).mono (mono_RowE (mono_FE _) _) hle25) h27 hc33⟩⟩ ?_
        refine WO_pure tbok 3 [(0, .bool false), (1, .slice (some ⟨b4, 0, none⟩) 3 3), (4, .slice a20 ((y_3).length) c21), (34, .bool (y_6 == 0))] rfl ⟨rfl, rfl, rfl, rfl, trivial⟩ ?_
        refine WO_split (d := 34) (b := y_6 == 0) rfl (fun hb34 => ?_) (fun hb34 => ?_)
        · have hm := ifT hb34 hm
          refine WO_pure tbok 2 [(0, .bool false), (34, .bool true), (35, .slice (some ⟨b4, 0, none⟩) 3 3), (36, .slice a20 ((y_3).length) c21)] rfl ⟨rfl, rfl, rfl, rfl, trivial⟩ ?_
          obtain ⟨y_7, hc35, hm⟩ := bind_some hm
          refine WO_call0 (.int .i64 y_7) rfl rfl trivial rfl rfl rfl rfl St_closed ⟨15, #[], #[], rfl, callable_15, fun w hw => ⟨_, hw.sat, aggregate_Prove_walk ((OwnX.rd (E := V1) (k := 1) (fun _ => rfl) hb4 (mono_RowE (mono_FE _) _) hle15 hmm16).mono (mono_RowE (mono_FE _) _) hle25) h27 hc35⟩⟩ ?_
          refine WO_pure tbok 3 [(0, .bool false), (40, .bool (y_7 == 12))] rfl ⟨rfl, rfl, trivial⟩ ?_
          refine WO_split (d := 40) (b := y_7 == 12) rfl (fun hb36 => ?_) (fun hb36 => ?_)
          · have hm := ifT hb36 hm
            obtain ⟨y_8, hc37, hm⟩ := bind_some hm
            refine WO_call0 (.int .i64 y_8) rfl rfl trivial rfl rfl rfl rfl St_closed ⟨20, #[], #[], rfl, callable_20, fun w hw => ⟨_, hw.sat, aggregate_Check_walk SlR_nil hc37⟩⟩ ?_
            refine WO_pure tbok 3 [(0, .bool (y_8 == 1))] rfl ⟨rfl, trivial⟩ ?_
            refine WO_end ?_
            cases hm
            exact WK_ret (ret_out (L := []) (RLc_tmp rfl RLc_nil) (List.nil_sublist _) rfl)
          · have hm := ifF hb36 hm
            refine WO_skip rfl rfl ?_
            refine WO_pure tbok 3 [(0, .bool false)] rfl ⟨rfl, trivial⟩ ?_
            refine WO_end ?_
            cases hm
            exact WK_ret (ret_out (L := []) (RLc_tmp rfl RLc_nil) (List.nil_sublist _) rfl)
        · have hm := ifF hb34 hm
          refine WO_pure tbok 2 [(0, .bool false), (34, .bool false)] rfl ⟨rfl, rfl, trivial⟩ ?_
          refine WO_skip rfl rfl ?_
          refine WO_pure tbok 3 [(0, .bool false), (40, .bool false)] rfl ⟨rfl, rfl, trivial⟩ ?_
          refine WO_skip rfl rfl ?_
          refine WO_pure tbok 3 [(0, .bool false)] rfl ⟨rfl, trivial⟩ ?_
          refine WO_end ?_
          cases hm
          exact WK_ret (ret_out (L := []) (RLc_tmp rfl RLc_nil) (List.nil_sublist _) rfl)
      · have hm := ifF hb32 hm
        refine WO_pure tbok 2 [(0, .bool false), (1, .slice (some ⟨b4, 0, none⟩) 3 3), (4, .slice a20 ((y_3).length) c21), (28, .bool false)] rfl ⟨rfl, rfl, rfl, rfl, trivial⟩ ?_
        refine WO_skip rfl rfl ?_
        refine WO_pure tbok 5 [(0, .bool false), (34, .bool false)] rfl ⟨rfl, rfl, trivial⟩ ?_
        refine WO_skip rfl rfl ?_
        refine WO_pure tbok 3 [(0, .bool false), (40, .bool false)] rfl ⟨rfl, rfl, trivial⟩ ?_
        refine WO_skip rfl rfl ?_
        refine WO_pure tbok 3 [(0, .bool false)] rfl ⟨rfl, trivial⟩ ?_
        refine WO_end ?_
        cases hm
        exact WK_ret (ret_out (L := []) (RLc_tmp rfl RLc_nil) (List.nil_sublist _) rfl)
    · have hm := ifF hb29 hm
      refine WO_pure tbok 1 [(0, .bool false), (1, .slice (some ⟨b4, 0, none⟩) 3 3), (4, .slice a20 ((y_3).length) c21), (23, .bool false)] rfl ⟨rfl, rfl, rfl, rfl, trivial⟩ ?_
      refine WO_skip rfl rfl ?_
      refine WO_skip rfl rfl ?_
      refine WO_pure tbok 4 [(0, .bool false), (1, .slice (some ⟨b4, 0, none⟩) 3 3), (4, .slice a20 ((y_3).length) c21), (28, .bool false)] rfl ⟨rfl, rfl, rfl, rfl, trivial⟩ ?_
      refine WO_skip rfl rfl ?_
      refine WO_pure tbok 5 [(0, .bool false), (34, .bool false)] rfl ⟨rfl, rfl, trivial⟩ ?_
      refine WO_skip rfl rfl ?_
      refine WO_pure tbok 3 [(0, .bool false), (40, .bool false)] rfl ⟨rfl, rfl, trivial⟩ ?_
      refine WO_skip rfl rfl ?_
      refine WO_pure tbok 3 [(0, .bool false)] rfl ⟨rfl, trivial⟩ ?_
      refine WO_end ?_
      cases hm
      exact WK_ret (ret_out (L := []) (RLc_tmp rfl RLc_nil) (List.nil_sublist _) rfl)
  · have hm := ifF hb28 hm
    refine WO_pure tbok 5 [(0, .bool false), (1, .slice (some ⟨b4, 0, none⟩) 3 3), (4, .slice a20 ((y_3).length) c21), (23, .bool false)] rfl ⟨rfl, rfl, rfl, rfl, trivial⟩ ?_
    refine WO_skip rfl rfl ?_
    refine WO_skip rfl rfl ?_
    refine WO_pure tbok 4 [(0, .bool false), (1, .slice (some ⟨b4, 0, none⟩) 3 3), (4, .slice a20 ((y_3).length) c21), (28, .bool false)] rfl ⟨rfl, rfl, rfl, rfl, trivial⟩ ?_
    refine WO_skip rfl rfl ?_
    refine WO_pure tbok 5 [(0, .bool false), (34, .bool false)] rfl ⟨rfl, rfl, trivial⟩ ?_
    refine WO_skip rfl rfl ?_
    refine WO_pure tbok 3 [(0, .bool false), (40, .bool false)] rfl ⟨rfl, rfl, trivial⟩ ?_
    refine WO_skip rfl rfl ?_
    refine WO_pure tbok 3 [(0, .bool false)] rfl ⟨rfl, trivial⟩ ?_
    refine WO_end ?_
    cases hm
    exact WK_ret (ret_out (L := []) (RLc_tmp rfl RLc_nil) (List.nil_sublist _) rfl)
theorem fiduciallaw45_few_c1_walk {m : Mu} {p0 : List Int} {a_p0 : Option Addr} {q_p0 c_p0 : Nat} (h_p0 : SlR (FE (I1 .i64)) 1 m (.slice a_p0 q_p0 c_p0) p0) {r : Bool} (hm : fiduciallaw45_few_c1 p0 = some r) :
    Go.E.Spec Try.prog 30 [.slice a_p0 q_p0 c_p0] m (fun v _ _ => v = .bool r) := by
  refine Spec_enter Try.func30 rfl rfl rfl (fun w0 => ?_)
  refine WK.sub (e' := [(0, .slice a_p0 q_p0 c_p0)]) ⟨rfl, trivial⟩ ?_
  obtain rfl := SlR.qlen h_p0
  refine WK.sub (e' := [(0, .slice a_p0 p0.length c_p0)]) ⟨rfl, trivial⟩ ?_
  unfold fiduciallaw45_few_c1 at hm
  refine WK_seq ?_
  refine WK_region ?_
  refine WO_pure tbok 1 [(0, .slice a_p0 p0.length c_p0), (2, .bool false)] rfl ⟨rfl, rfl, trivial⟩ ?_
  refine WO_end ?_
  refine WK_seq ?_
  refine WK_region ?_
  refine WO_pure tbok 4 [(2, .bool (decide (20 < (p0.length : Int))))] rfl ⟨rfl, trivial⟩ ?_
  refine WO_end ?_
  cases hm
  exact WK_ret (ret_out (L := []) (RLc_tmp rfl RLc_nil) (List.nil_sublist _) rfl)
theorem fiduciallaw45_few_walk {m : Mu} {p0 : List (List Int)} {a_p0 : Option Addr} {q_p0 c_p0 : Nat} (h_p0 : SlR (RowE (FE (I1 .i64)) 1) 1 m (.slice a_p0 q_p0 c_p0) p0) {r : Bool} (hm : fiduciallaw45_few p0 = some r) :
    Go.E.Spec Try.prog 9 [.slice a_p0 q_p0 c_p0] m (fun v _ _ => v = .bool r) := by
  refine Spec_enter Try.func9 rfl rfl rfl (fun w0 => ?_)
  refine WK.sub (e' := [(0, .slice a_p0 q_p0 c_p0)]) ⟨rfl, trivial⟩ ?_
  obtain rfl := SlR.qlen h_p0
  refine WK.sub (e' := [(0, .slice a_p0 p0.length c_p0)]) ⟨rfl, trivial⟩ ?_
  unfold fiduciallaw45_few at hm
  refine WK_seq ?_
  refine WK_region ?_
  refine WO_pure tbok 1 [(0, .slice a_p0 p0.length c_p0), (2, .bool false)] rfl ⟨rfl, rfl, trivial⟩ ?_
  refine WO_end ?_
  refine WK_seq ?_
  refine WK_region ?_
  refine WO_pure tbok 4 [(0, .slice a_p0 p0.length c_p0), (2, .bool false), (6, .bool (decide ((p0.length : Int) ≤ 20)))] rfl ⟨rfl, rfl, rfl, trivial⟩ ?_
  refine WO_split (d := 6) (b := decide ((p0.length : Int) ≤ 20)) rfl (fun hb1 => ?_) (fun hb1 => ?_)
  · have hm := ifT hb1 hm
    refine WO_pure tbok 1 [(2, .bool false), (6, .bool true), (7, .slice a_p0 p0.length c_p0)] rfl ⟨rfl, rfl, rfl, trivial⟩ ?_
    obtain ⟨y_2, hc3, hm⟩ := bind_some hm
    refine WO_call0 (.bool y_2) rfl rfl trivial rfl rfl rfl rfl St_closed ⟨29, #[], #[], rfl, callable_29, fun w hw => ⟨_, hw.sat, slices_ContainsFunc_ssint_walk h_p0 (fun m1 hm1 _ _ _ z_1 h2 _ h => specV_cap callable_30 (fiduciallaw45_few_c1_walk h2 h)) hc3⟩⟩ ?_
    refine WO_pure tbok 3 [(2, .bool (!y_2))] rfl ⟨rfl, trivial⟩ ?_
    refine WO_end ?_
    cases hm
    exact WK_ret (ret_out (L := []) (RLc_tmp rfl RLc_nil) (List.nil_sublist _) rfl)
  · have hm := ifF hb1 hm
    refine WO_pure tbok 1 [(2, .bool false), (6, .bool false)] rfl ⟨rfl, rfl, trivial⟩ ?_
    refine WO_skip rfl rfl ?_
    refine WO_pure tbok 3 [(2, .bool false)] rfl ⟨rfl, trivial⟩ ?_
    refine WO_end ?_
    cases hm
    exact WK_ret (ret_out (L := []) (RLc_tmp rfl RLc_nil) (List.nil_sublist _) rfl)
theorem slices_IndexFunc_sint_walk {m : Mu} {p0 : List Int} {p1 : Int → Option Bool} {a_p0 : Option Addr} {q_p0 c_p0 : Nat} {p1v : Value} (h_p0 : SlR (FE (I1 .i64)) 1 m (.slice a_p0 q_p0 c_p0) p0) (hp1 : ∀ (m1 : Mu), Le m m1 → ∀ (u1 : Int), ∀ (r : Bool), p1 u1 = some r → SpecV Try.prog p1v [.int .i64 u1] m1 (fun v _ _ => v = .bool r)) {r : Int} (hm : slices_IndexFunc_sint p0 p1 = some r) :
    Go.E.Spec Try.prog 59 [.slice a_p0 q_p0 c_p0, p1v] m (fun v _ _ => v = .int .i64 r) := by
  refine Spec_enter Try.func59 rfl rfl rfl (fun w0 => ?_)
  refine WK.sub (e' := [(0, .slice a_p0 q_p0 c_p0), (1, p1v)]) ⟨rfl, rfl, trivial⟩ ?_
  obtain rfl := SlR.qlen h_p0
  refine WK.sub (e' := [(0, .slice a_p0 p0.length c_p0), (1, p1v)]) ⟨rfl, rfl, trivial⟩ ?_
  unfold slices_IndexFunc_sint at hm
  refine WK_seq ?_
  refine WK_region ?_
  refine WO_pure tbok 1 [(0, .slice a_p0 p0.length c_p0), (1, p1v), (4, .int .i64 0)] rfl ⟨rfl, rfl, rfl, trivial⟩ ?_
  refine WO_end ?_
  refine WK_seq ?_
  refine WK_seq ?_
  refine WK_region ?_
  refine WO_pure tbok 3 [(0, .slice a_p0 p0.length c_p0), (1, p1v), (4, .int .i64 0), (7, .int .i64 (p0.length : Int)), (8, .int .i64 0)] rfl ⟨rfl, rfl, rfl, rfl, rfl, trivial⟩ ?_
  refine WO_end ?_
  obtain ⟨x1, hx2, hm⟩ := bind_some hm
  refine WK_join (β := Unit × Unit) (fun p => Sum.inr p.1 = x1) (fun p => [(4, .int .i64 0)]) (fun p => St w0 m m []) ?_ (fun hk3 => ?_)
  · rintro ⟨⟨⟩, ⟨⟩⟩ hq9
    subst hq9
    refine WK.sub (e' := [(4, .int .i64 0)]) ⟨rfl, trivial⟩ (WK.cls (C' := St w0 m m []) (fun _ h => h) ?_)
    refine WK_seq ?_
    refine WK_region ?_
    refine WO_pure tbok 1 [(4, .int .i64 (-1))] rfl ⟨rfl, trivial⟩ ?_
    refine WO_end ?_
    cases hm
    exact WK_ret (ret_out (L := []) (RLc_tmp rfl RLc_nil) (List.nil_sublist _) rfl)
  · refine WK_block ?_
    refine WK_loop (S := Int) (G := Unit) (fun s => slices_IndexFunc_sint_s1 p0 p1 s) (fun s g => [(0, .slice a_p0 p0.length c_p0), (1, p1v), (4, .int .i64 0), (7, .int .i64 (p0.length : Int)), (8, .int .i64 s)]) (fun s g => St w0 m m []) (fun s g => True) FUEL 0 () x1 hx2 trivial ⟨rfl, rfl, rfl, rfl, rfl, trivial⟩ (fun _ h => h) ?_
    rintro s_1 ⟨⟩ o5 fl6 hm4 - hn7 hd8
    have hm4 : slices_IndexFunc_sint_s1 p0 p1 s_1 = some o5 := hm4
    unfold slices_IndexFunc_sint_s1 at hm4
    refine WK.sub (e' := [(0, .slice a_p0 p0.length c_p0), (1, p1v), (4, .int .i64 0), (7, .int .i64 (p0.length : Int)), (8, .int .i64 s_1)]) ⟨rfl, rfl, rfl, rfl, rfl, trivial⟩ (WK.cls (C' := St w0 m m []) (fun _ h => h) ?_)
    refine WK_seq ?_
    refine WK_region ?_
    refine WO_pure tbok 1 [(0, .slice a_p0 p0.length c_p0), (1, p1v), (4, .int .i64 0), (7, .int .i64 (p0.length : Int)), (8, .int .i64 s_1), (9, .bool (decide (s_1 < (p0.length : Int))))] rfl ⟨rfl, rfl, rfl, rfl, rfl, rfl, trivial⟩ ?_
    refine WO_end ?_
    refine WK_seq ?_
    refine WK_cond (b := decide (s_1 < (p0.length : Int))) rfl (fun hb10 => ?_) (fun hb10 => ?_)
    · have hm4 := ifT hb10 hm4
      refine WK_skip ?_
      refine WK_seq ?_
      refine WK_block ?_
      refine WK_seq ?_
      refine WK_region ?_
      refine WO_pure tbok 2 [(0, .slice a_p0 p0.length c_p0), (1, p1v), (4, .int .i64 0), (5, .int .i64 s_1), (7, .int .i64 (p0.length : Int)), (8, .int .i64 s_1)] rfl ⟨rfl, rfl, rfl, rfl, rfl, rfl, trivial⟩ ?_
      refine WO_end ?_
      refine WK_seq ?_
      refine WK_region ?_
      refine WO_pure tbok 3 [(0, .slice a_p0 p0.length c_p0), (1, p1v), (4, .int .i64 0), (5, .int .i64 s_1), (7, .int .i64 (p0.length : Int)), (8, .int .i64 s_1), (11, p1v), (12, .slice a_p0 p0.length c_p0), (13, .int .i64 s_1)] rfl ⟨rfl, rfl, rfl, rfl, rfl, rfl, rfl, rfl, rfl, trivial⟩ ?_
      obtain ⟨v_2, hy11, hm4⟩ := bind_some hm4
      obtain ⟨hc12, hy11⟩ := ix_some hy11
      refine WO_index tbok rfl rfl rfl rfl rfl rfl rfl rfl (SlR.addr h_p0) hc12 ?_
      refine WO_loadE tbok rfl rfl rfl rfl (fun _ h => St.sat h) h_p0 hy11 rfl ?_
      obtain ⟨y_3, hc13, hm4⟩ := bind_some hm4
      obtain ⟨f0, first0, cap0, hf0, hcal0, hsp0⟩ := hp1 _ (Le.refl _) v_2 _ hc13
      refine WO_call0 (.bool y_3) rfl rfl trivial rfl rfl rfl rfl St_closed ⟨f0, first0, cap0, hf0, hcal0, fun w hw => ⟨m, hw.sat, hsp0⟩⟩ ?_
      refine WO_end ?_
      refine WK_cond (b := y_3) rfl (fun hb14 => ?_) (fun hb14 => ?_)
      · have hm4 := ifT hb14 hm4
        refine WK_seq ?_
        refine WK_region ?_
        refine WO_pure tbok 2 [(0, .slice a_p0 p0.length c_p0), (1, p1v), (4, .int .i64 s_1), (7, .int .i64 (p0.length : Int)), (8, .int .i64 s_1)] rfl ⟨rfl, rfl, rfl, rfl, rfl, trivial⟩ ?_
        refine WO_end ?_
        cases hm4
        have hq := hd8 _ rfl
        subst hq
        have hm : some _ = some _ := hm
        cases hm
        exact WK_ret (ret_out (L := []) (RLc_tmp rfl RLc_nil) (List.nil_sublist _) rfl)
      · have hm4 := ifF hb14 hm4
        refine WK_skip ?_
        refine WK_blk ?_
        refine WK_region ?_
        refine WO_pure tbok 2 [(0, .slice a_p0 p0.length c_p0), (1, p1v), (4, .int .i64 0), (7, .int .i64 (p0.length : Int)), (8, .int .i64 (w64 (s_1 + 1)))] rfl ⟨rfl, rfl, rfl, rfl, rfl, trivial⟩ ?_
        refine WO_end ?_
        cases hm4
        refine WK.sub ?_ (WK.cls (fun _ h => h) (hn7 _ () rfl trivial))
        exact ⟨rfl, rfl, rfl, rfl, rfl, trivial⟩
    · have hm4 := ifF hb10 hm4
      refine WK_exit rfl ?_
      cases hm4
      refine WK.sub ?_ (WK.cls (fun _ h => h) (hk3 ((), ()) (hd8 _ rfl)))
      exact ⟨rfl, trivial⟩
theorem slices_ContainsFunc_sint_walk {m : Mu} {p0 : List Int} {p1 : Int → Option Bool} {a_p0 : Option Addr} {q_p0 c_p0 : Nat} {p1v : Value} (h_p0 : SlR (FE (I1 .i64)) 1 m (.slice a_p0 q_p0 c_p0) p0) (hp1 : ∀ (m1 : Mu), Le m m1 → ∀ (u1 : Int), ∀ (r : Bool), p1 u1 = some r → SpecV Try.prog p1v [.int .i64 u1] m1 (fun v _ _ => v = .bool r)) {r : Bool} (hm : slices_ContainsFunc_sint p0 p1 = some r) :
    Go.E.Spec Try.prog 43 [.slice a_p0 q_p0 c_p0, p1v] m (fun v _ _ => v = .bool r) := by
  refine Spec_enter Try.func43 rfl rfl rfl (fun w0 => ?_)
  refine WK.sub (e' := [(0, .slice a_p0 q_p0 c_p0), (1, p1v)]) ⟨rfl, rfl, trivial⟩ ?_
  obtain rfl := SlR.qlen h_p0
  refine WK.sub (e' := [(0, .slice a_p0 p0.length c_p0), (1, p1v)]) ⟨rfl, rfl, trivial⟩ ?_
  unfold slices_ContainsFunc_sint at hm
  refine WK_seq ?_
  refine WK_region ?_
  refine WO_pure tbok 1 [(0, .slice a_p0 p0.length c_p0), (1, p1v), (4, .bool false)] rfl ⟨rfl, rfl, rfl, trivial⟩ ?_
  refine WO_end ?_
  refine WK_seq ?_
  refine WK_region ?_
  refine WO_pure tbok 2 [(4, .bool false), (5, .slice a_p0 p0.length c_p0), (6, p1v)] rfl ⟨rfl, rfl, rfl, trivial⟩ ?_
  obtain ⟨y_1, hc1, hm⟩ := bind_some hm
  refine WO_call0 (.int .i64 y_1) rfl rfl trivial rfl rfl rfl rfl St_closed ⟨59, #[], #[], rfl, callable_59, fun w hw => ⟨_, hw.sat, slices_IndexFunc_sint_walk h_p0 hp1 hc1⟩⟩ ?_
  refine WO_pure tbok 2 [(4, .bool (decide (0 ≤ y_1)))] rfl ⟨rfl, trivial⟩ ?_
  refine WO_end ?_
  cases hm
  exact WK_ret (ret_out (L := []) (RLc_tmp rfl RLc_nil) (List.nil_sublist _) rfl)
theorem fiduciallaw45_line_c1_walk {m : Mu} {p0 : Int}   {r : Bool} (hm : fiduciallaw45_line_c1 p0 = some r) :
    Go.E.Spec Try.prog 45 [.int .i64 p0] m (fun v _ _ => v = .bool r) := by
  refine Spec_enter Try.func45 rfl rfl rfl (fun w0 => ?_)
  refine WK.sub (e' := [(0, .int .i64 p0)]) ⟨rfl, trivial⟩ ?_
  refine WK.sub (e' := [(0, .int .i64 p0)]) ⟨rfl, trivial⟩ ?_
  unfold fiduciallaw45_line_c1 at hm
  refine WK_seq ?_
  refine WK_region ?_
  refine WO_pure tbok 1 [(0, .int .i64 p0), (2, .bool false)] rfl ⟨rfl, rfl, trivial⟩ ?_
  refine WO_end ?_
  refine WK_seq ?_
  refine WK_region ?_
  refine WO_pure tbok 3 [(0, .int .i64 p0), (2, .bool false), (5, .bool (decide (p0 < 0)))] rfl ⟨rfl, rfl, rfl, trivial⟩ ?_
  refine WO_split (d := 5) (b := decide (p0 < 0)) rfl (fun hb1 => ?_) (fun hb1 => ?_)
  · have hm := ifT hb1 hm
    refine WO_pure tbok 4 [(2, .bool true)] rfl ⟨rfl, trivial⟩ ?_
    refine WO_end ?_
    cases hm
    exact WK_ret (ret_out (L := []) (RLc_tmp rfl RLc_nil) (List.nil_sublist _) rfl)
  · have hm := ifF hb1 hm
    refine WO_pure tbok 4 [(2, .bool (decide (1048576 < p0)))] rfl ⟨rfl, trivial⟩ ?_
    refine WO_end ?_
    cases hm
    exact WK_ret (ret_out (L := []) (RLc_tmp rfl RLc_nil) (List.nil_sublist _) rfl)
theorem fiduciallaw45_line_walk {m : Mu} {p0 : List (List Int)} {a_p0 : Option Addr} {q_p0 c_p0 : Nat} (h_p0 : SlR (RowE (FE (I1 .i64)) 1) 1 m (.slice a_p0 q_p0 c_p0) p0) {r : Bool} (hm : fiduciallaw45_line p0 = some r) :
    Go.E.Spec Try.prog 21 [.slice a_p0 q_p0 c_p0] m (fun v _ _ => v = .bool r) := by
  refine Spec_enter Try.func21 rfl rfl rfl (fun w0 => ?_)
  refine WK.sub (e' := [(0, .slice a_p0 q_p0 c_p0)]) ⟨rfl, trivial⟩ ?_
  obtain rfl := SlR.qlen h_p0
  refine WK.sub (e' := [(0, .slice a_p0 p0.length c_p0)]) ⟨rfl, trivial⟩ ?_
  unfold fiduciallaw45_line at hm
  refine WK_seq ?_
  refine WK_region ?_
  refine WO_pure tbok 1 [(0, .slice a_p0 p0.length c_p0), (2, .bool false)] rfl ⟨rfl, rfl, trivial⟩ ?_
  refine WO_end ?_
  refine WK_seq ?_
  refine WK_seq ?_
  obtain ⟨s_1, hx1, hm⟩ := bind_some hm
  refine WK_meet [(0, .slice a_p0 p0.length c_p0), (2, .bool false), (26, .bool s_1)] (St w0 m m []) ?_ (fun hk2 => ?_)
  · refine WK_cond (b := s_1) rfl (fun hb3 => ?_) (fun hb3 => ?_)
    · have hm := ifT hb3 hm
      refine WK_seq ?_
      refine WK_region ?_
      refine WO_pure tbok 1 [(0, .slice a_p0 p0.length c_p0), (2, .bool false)] rfl ⟨rfl, rfl, trivial⟩ ?_
      refine WO_end ?_
      cases hm
      exact WK_ret (ret_out (L := []) (RLc_tmp rfl RLc_nil) (List.nil_sublist _) rfl)
    · have hm := ifF hb3 hm
      refine WK_skip ?_
      refine WK_seq ?_
      refine WK_seq ?_
      refine WK_region ?_
      refine WO_pure tbok 3 [(0, .slice a_p0 p0.length c_p0), (2, .bool false), (27, .slice a_p0 p0.length c_p0), (28, .int .i64 (p0.length : Int)), (29, .int .i64 0)] rfl ⟨rfl, rfl, rfl, rfl, rfl, trivial⟩ ?_
      refine WO_end ?_
      obtain ⟨x4, hx5, hm⟩ := bind_some hm
      refine WK_join (β := Unit × Unit) (fun p => Sum.inr p.1 = x4) (fun p => [(2, .bool false)]) (fun p => St w0 m m []) ?_ (fun hk6 => ?_)
      · rintro ⟨⟨⟩, ⟨⟩⟩ hq12
        subst hq12
        refine WK.sub (e' := [(2, .bool false)]) ⟨rfl, trivial⟩ (WK.cls (C' := St w0 m m []) (fun _ h => h) ?_)
        refine WK_seq ?_
        refine WK_region ?_
        refine WO_pure tbok 1 [(2, .bool true)] rfl ⟨rfl, trivial⟩ ?_
        refine WO_end ?_
        cases hm
        exact WK_ret (ret_out (L := []) (RLc_tmp rfl RLc_nil) (List.nil_sublist _) rfl)
      · refine WK_block ?_
        refine WK_loop (S := Int) (G := Unit) (fun s => fiduciallaw45_line_s1 p0 s) (fun s g => [(0, .slice a_p0 p0.length c_p0), (2, .bool false), (27, .slice a_p0 p0.length c_p0), (28, .int .i64 (p0.length : Int)), (29, .int .i64 s)]) (fun s g => St w0 m m []) (fun s g => True) FUEL 0 () x4 hx5 trivial ⟨rfl, rfl, rfl, rfl, rfl, trivial⟩ (fun _ h => h) ?_
        rintro s_2 ⟨⟩ o8 fl9 hm7 - hn10 hd11
        have hm7 : fiduciallaw45_line_s1 p0 s_2 = some o8 := hm7
        unfold fiduciallaw45_line_s1 at hm7
        refine WK.sub (e' := [(0, .slice a_p0 p0.length c_p0), (2, .bool false), (27, .slice a_p0 p0.length c_p0), (28, .int .i64 (p0.length : Int)), (29, .int .i64 s_2)]) ⟨rfl, rfl, rfl, rfl, rfl, trivial⟩ (WK.cls (C' := St w0 m m []) (fun _ h => h) ?_)
        refine WK_seq ?_
        refine WK_region ?_
        refine WO_pure tbok 1 [(0, .slice a_p0 p0.length c_p0), (2, .bool false), (27, .slice a_p0 p0.length c_p0), (28, .int .i64 (p0.length : Int)), (29, .int .i64 s_2), (30, .bool (decide (s_2 < (p0.length : Int))))] rfl ⟨rfl, rfl, rfl, rfl, rfl, rfl, trivial⟩ ?_
        refine WO_end ?_
        refine WK_seq ?_
        refine WK_cond (b := decide (s_2 < (p0.length : Int))) rfl (fun hb13 => ?_) (fun hb13 => ?_)
        · have hm7 := ifT hb13 hm7
          refine WK_skip ?_
          refine WK_seq ?_
          refine WK_block ?_
          refine WK_seq ?_
          refine WK_region ?_
          obtain ⟨v_3, hy14, hm7⟩ := bind_some hm7
          obtain ⟨hc15, hy14⟩ := ix_some hy14
          refine WO_index tbok rfl rfl rfl rfl rfl rfl rfl rfl (SlR.addr h_p0) hc15 ?_
          refine WO_loadR tbok rfl rfl rfl rfl (fun _ h => St.sat h) h_p0 hy14 rfl rfl (fun a16 c17 h18 => ?_)
          refine WO_pure tbok 1 [(0, .slice a_p0 p0.length c_p0), (2, .bool false), (4, .slice a16 ((v_3).length) c17), (27, .slice a_p0 p0.length c_p0), (28, .int .i64 (p0.length : Int)), (29, .int .i64 s_2)] rfl ⟨rfl, rfl, rfl, rfl, rfl, rfl, trivial⟩ ?_
          refine WO_end ?_
          refine WK_seq ?_
          obtain ⟨s_4, hx19, hm7⟩ := bind_some hm7
          refine WK_meet [(0, .slice a_p0 p0.length c_p0), (2, .bool false), (27, .slice a_p0 p0.length c_p0), (28, .int .i64 (p0.length : Int)), (29, .int .i64 s_2), (43, .bool s_4)] (St w0 m m []) ?_ (fun hk20 => ?_)
          · refine WK_cond (b := s_4) rfl (fun hb21 => ?_) (fun hb21 => ?_)
            · have hm7 := ifT hb21 hm7
              refine WK_seq ?_
              refine WK_region ?_
              refine WO_pure tbok 1 [(0, .slice a_p0 p0.length c_p0), (2, .bool false), (27, .slice a_p0 p0.length c_p0), (28, .int .i64 (p0.length : Int)), (29, .int .i64 s_2)] rfl ⟨rfl, rfl, rfl, rfl, rfl, trivial⟩ ?_
              refine WO_end ?_
              cases hm7
              have hq := hd11 _ rfl
              subst hq
              have hm : some _ = some _ := hm
              cases hm
              exact WK_ret (ret_out (L := []) (RLc_tmp rfl RLc_nil) (List.nil_sublist _) rfl)
            · have hm7 := ifF hb21 hm7
              refine WK_skip ?_
              refine WK_blk ?_
              refine WK_region ?_
              refine WO_pure tbok 2 [(0, .slice a_p0 p0.length c_p0), (2, .bool false), (27, .slice a_p0 p0.length c_p0), (28, .int .i64 (p0.length : Int)), (29, .int .i64 (w64 (s_2 + 1)))] rfl ⟨rfl, rfl, rfl, rfl, rfl, trivial⟩ ?_
              refine WO_end ?_
              cases hm7
              refine WK.sub ?_ (WK.cls (fun _ h => h) (hn10 _ () rfl trivial))
              exact ⟨rfl, rfl, rfl, rfl, rfl, trivial⟩
          · refine WK_region ?_
            refine WO_pure tbok 3 [(0, .slice a_p0 p0.length c_p0), (2, .bool false), (4, .slice a16 ((v_3).length) c17), (27, .slice a_p0 p0.length c_p0), (28, .int .i64 (p0.length : Int)), (29, .int .i64 s_2), (34, .int .i64 ((v_3).length : Int)), (35, .slice a_p0 p0.length c_p0)] rfl ⟨rfl, rfl, rfl, rfl, rfl, rfl, rfl, rfl, trivial⟩ ?_
            obtain ⟨v_5, hy22, hx19⟩ := bind_some hx19
            obtain ⟨hc23, hy22⟩ := ix_some hy22
            refine WO_index tbok rfl rfl rfl rfl rfl rfl rfl rfl (SlR.addr h_p0) hc23 ?_
            refine WO_loadR tbok rfl rfl rfl rfl (fun _ h => St.sat h) h_p0 hy22 rfl rfl (fun a24 c25 h26 => ?_)
            refine WO_pure tbok 3 [(0, .slice a_p0 p0.length c_p0), (2, .bool false), (4, .slice a16 ((v_3).length) c17), (27, .slice a_p0 p0.length c_p0), (28, .int .i64 (p0.length : Int)), (29, .int .i64 s_2), (40, .bool (((v_3).length : Int) != ((v_5).length : Int)))] rfl ⟨rfl, rfl, rfl, rfl, rfl, rfl, rfl, trivial⟩ ?_
            refine WO_split (d := 40) (b := ((v_3).length : Int) != ((v_5).length : Int)) rfl (fun hb27 => ?_) (fun hb27 => ?_)
            · have hx19 := ifT hb27 hx19
              refine WO_pure tbok 1 [(0, .slice a_p0 p0.length c_p0), (2, .bool false), (27, .slice a_p0 p0.length c_p0), (28, .int .i64 (p0.length : Int)), (29, .int .i64 s_2), (40, .bool true)] rfl ⟨rfl, rfl, rfl, rfl, rfl, rfl, trivial⟩ ?_
              refine WO_skip rfl rfl ?_
              refine WO_pure tbok 1 [(0, .slice a_p0 p0.length c_p0), (2, .bool false), (27, .slice a_p0 p0.length c_p0), (28, .int .i64 (p0.length : Int)), (29, .int .i64 s_2), (43, .bool true)] rfl ⟨rfl, rfl, rfl, rfl, rfl, rfl, trivial⟩ ?_
              refine WO_end ?_
              cases hx19
              refine WK.sub ?_ (WK.cls (fun _ h => h) hk20)
              exact ⟨rfl, rfl, rfl, rfl, rfl, rfl, trivial⟩
            · have hx19 := ifF hb27 hx19
              refine WO_pure tbok 1 [(0, .slice a_p0 p0.length c_p0), (2, .bool false), (27, .slice a_p0 p0.length c_p0), (28, .int .i64 (p0.length : Int)), (29, .int .i64 s_2), (40, .bool false), (41, .slice a16 ((v_3).length) c17)] rfl ⟨rfl, rfl, rfl, rfl, rfl, rfl, rfl, trivial⟩ ?_
              obtain ⟨y_7, hc28, hx19⟩ := bind_some hx19
              refine WO_call0 (.bool y_7) rfl rfl trivial rfl rfl rfl rfl St_closed ⟨43, #[], #[], rfl, callable_43, fun w hw => ⟨_, hw.sat, slices_ContainsFunc_sint_walk h18 (fun m1 hm1 z_6 _ h => specV_cap callable_45 (fiduciallaw45_line_c1_walk h)) hc28⟩⟩ ?_
              refine WO_pure tbok 1 [(0, .slice a_p0 p0.length c_p0), (2, .bool false), (27, .slice a_p0 p0.length c_p0), (28, .int .i64 (p0.length : Int)), (29, .int .i64 s_2), (43, .bool y_7)] rfl ⟨rfl, rfl, rfl, rfl, rfl, rfl, trivial⟩ ?_
              refine WO_end ?_
              cases hx19
              refine WK.sub ?_ (WK.cls (fun _ h => h) hk20)
              exact ⟨rfl, rfl, rfl, rfl, rfl, rfl, trivial⟩
        · have hm7 := ifF hb13 hm7
          refine WK_exit rfl ?_
          cases hm7
          refine WK.sub ?_ (WK.cls (fun _ h => h) (hk6 ((), ()) (hd11 _ rfl)))
          exact ⟨rfl, trivial⟩
  · refine WK_region ?_
    refine WO_pure tbok 4 [(0, .slice a_p0 p0.length c_p0), (2, .bool false), (8, .bool (decide ((p0.length : Int) < 1)))] rfl ⟨rfl, rfl, rfl, trivial⟩ ?_
    refine WO_split (d := 8) (b := decide ((p0.length : Int) < 1)) rfl (fun hb29 => ?_) (fun hb29 => ?_)
    · have hx1 := ifT hb29 hx1
      refine WO_pure tbok 18 [(0, .slice a_p0 p0.length c_p0), (2, .bool false), (26, .bool true)] rfl ⟨rfl, rfl, rfl, trivial⟩ ?_
      refine WO_end ?_
      cases hx1
      refine WK.sub ?_ (WK.cls (fun _ h => h) hk2)
      exact ⟨rfl, rfl, rfl, trivial⟩
    · have hx1 := ifF hb29 hx1
      refine WO_pure tbok 5 [(0, .slice a_p0 p0.length c_p0), (2, .bool false), (13, .bool (decide (64 < (p0.length : Int))))] rfl ⟨rfl, rfl, rfl, trivial⟩ ?_
      refine WO_split (d := 13) (b := decide (64 < (p0.length : Int))) rfl (fun hb30 => ?_) (fun hb30 => ?_)
      · have hx1 := ifT hb30 hx1
        refine WO_pure tbok 13 [(0, .slice a_p0 p0.length c_p0), (2, .bool false), (26, .bool true)] rfl ⟨rfl, rfl, rfl, trivial⟩ ?_
        refine WO_end ?_
        cases hx1
        refine WK.sub ?_ (WK.cls (fun _ h => h) hk2)
        exact ⟨rfl, rfl, rfl, trivial⟩
      · have hx1 := ifF hb30 hx1
        refine WO_pure tbok 1 [(0, .slice a_p0 p0.length c_p0), (2, .bool false), (13, .bool false), (14, .slice a_p0 p0.length c_p0)] rfl ⟨rfl, rfl, rfl, rfl, trivial⟩ ?_
        obtain ⟨v_8, hy31, hx1⟩ := bind_some hx1
        obtain ⟨hc32, hy31⟩ := ix_some hy31
        refine WO_index tbok rfl rfl rfl rfl rfl rfl rfl rfl (SlR.addr h_p0) hc32 ?_
        refine WO_loadR tbok rfl rfl rfl rfl (fun _ h => St.sat h) h_p0 hy31 rfl rfl (fun a33 c34 h35 => ?_)
        refine WO_pure tbok 4 [(0, .slice a_p0 p0.length c_p0), (2, .bool false), (20, .bool (decide (((v_8).length : Int) < 1)))] rfl ⟨rfl, rfl, rfl, trivial⟩ ?_
        refine WO_split (d := 20) (b := decide (((v_8).length : Int) < 1)) rfl (fun hb36 => ?_) (fun hb36 => ?_)
        · have hx1 := ifT hb36 hx1
          refine WO_pure tbok 6 [(0, .slice a_p0 p0.length c_p0), (2, .bool false), (26, .bool true)] rfl ⟨rfl, rfl, rfl, trivial⟩ ?_
          refine WO_end ?_
          cases hx1
          refine WK.sub ?_ (WK.cls (fun _ h => h) hk2)
          exact ⟨rfl, rfl, rfl, trivial⟩
        · have hx1 := ifF hb36 hx1
          refine WO_pure tbok 1 [(0, .slice a_p0 p0.length c_p0), (2, .bool false), (20, .bool false), (21, .slice a_p0 p0.length c_p0)] rfl ⟨rfl, rfl, rfl, rfl, trivial⟩ ?_
          obtain ⟨v_9, hy37, hx1⟩ := bind_some hx1
          obtain ⟨hc38, hy37⟩ := ix_some hy37
          refine WO_index tbok rfl rfl rfl rfl rfl rfl rfl rfl (SlR.addr h_p0) hc38 ?_
          refine WO_loadR tbok rfl rfl rfl rfl (fun _ h => St.sat h) h_p0 hy37 rfl rfl (fun a39 c40 h41 => ?_)
          refine WO_pure tbok 3 [(0, .slice a_p0 p0.length c_p0), (2, .bool false), (26, .bool (decide (64 < ((v_9).length : Int))))] rfl ⟨rfl, rfl, rfl, trivial⟩ ?_
          refine WO_end ?_
          cases hx1
          refine WK.sub ?_ (WK.cls (fun _ h => h) hk2)
          exact ⟨rfl, rfl, rfl, trivial⟩
theorem fiduciallaw45_penalties_walk {m : Mu} {p0 : Int} {p1 : Int}   {r : Bool} (hm : fiduciallaw45_penalties p0 p1 = some r) :
    Go.E.Spec Try.prog 37 [.int .i64 p0, .int .i64 p1] m (fun v _ _ => v = .bool r) := by
  refine Spec_enter Try.func37 rfl rfl rfl (fun w0 => ?_)
  refine WK.sub (e' := [(0, .int .i64 p0), (1, .int .i64 p1)]) ⟨rfl, rfl, trivial⟩ ?_
  refine WK.sub (e' := [(0, .int .i64 p0), (1, .int .i64 p1)]) ⟨rfl, rfl, trivial⟩ ?_
  unfold fiduciallaw45_penalties at hm
  refine WK_seq ?_
  refine WK_region ?_
  refine WO_pure tbok 1 [(0, .int .i64 p0), (1, .int .i64 p1), (4, .bool false)] rfl ⟨rfl, rfl, rfl, trivial⟩ ?_
  refine WO_end ?_
  refine WK_seq ?_
  refine WK_region ?_
  refine WO_pure tbok 3 [(0, .int .i64 p0), (1, .int .i64 p1), (4, .bool false), (7, .bool (decide (0 ≤ p0)))] rfl ⟨rfl, rfl, rfl, rfl, trivial⟩ ?_
  refine WO_split (d := 7) (b := decide (0 ≤ p0)) rfl (fun hb1 => ?_) (fun hb1 => ?_)
  · have hm := ifT hb1 hm
    refine WO_pure tbok 5 [(1, .int .i64 p1), (4, .bool false), (12, .bool (decide (p0 ≤ p1)))] rfl ⟨rfl, rfl, rfl, trivial⟩ ?_
    refine WO_split (d := 12) (b := decide (p0 ≤ p1)) rfl (fun hb2 => ?_) (fun hb2 => ?_)
    · have hm := ifT hb2 hm
      refine WO_pure tbok 4 [(4, .bool (decide (p1 ≤ 1048576)))] rfl ⟨rfl, trivial⟩ ?_
      refine WO_end ?_
      cases hm
      exact WK_ret (ret_out (L := []) (RLc_tmp rfl RLc_nil) (List.nil_sublist _) rfl)
    · have hm := ifF hb2 hm
      refine WO_pure tbok 4 [(4, .bool false)] rfl ⟨rfl, trivial⟩ ?_
      refine WO_end ?_
      cases hm
      exact WK_ret (ret_out (L := []) (RLc_tmp rfl RLc_nil) (List.nil_sublist _) rfl)
  · have hm := ifF hb1 hm
    refine WO_pure tbok 9 [(4, .bool false)] rfl ⟨rfl, trivial⟩ ?_
    refine WO_end ?_
    cases hm
    exact WK_ret (ret_out (L := []) (RLc_tmp rfl RLc_nil) (List.nil_sublist _) rfl)
theorem fiduciallaw45_lined_walk {m : Mu} {p0 : List (List Int)} {p1_0 : Int} {p1_1 : Int} {a_p0 : Option Addr} {q_p0 c_p0 : Nat} (h_p0 : SlR (RowE (FE (I1 .i64)) 1) 1 m (.slice a_p0 q_p0 c_p0) p0) {r : Int} (hm : fiduciallaw45_lined p0 p1_0 p1_1 = some r) :
    Go.E.Spec Try.prog 11 [.slice a_p0 q_p0 c_p0, .agg #[.int .i64 p1_0, .int .i64 p1_1]] m (fun v _ _ => v = .int .i64 r) := by
  refine Spec_enter Try.func11 rfl rfl rfl (fun w0 => ?_)
  refine WK.sub (e' := [(0, .slice a_p0 q_p0 c_p0), (1, .agg #[.int .i64 p1_0, .int .i64 p1_1])]) ⟨rfl, rfl, trivial⟩ ?_
  obtain rfl := SlR.qlen h_p0
  refine WK.sub (e' := [(0, .slice a_p0 p0.length c_p0), (1, .agg #[.int .i64 p1_0, .int .i64 p1_1])]) ⟨rfl, rfl, trivial⟩ ?_
  unfold fiduciallaw45_lined at hm
  refine WK_seq ?_
  refine WK_region ?_
  refine WO_box [.int .i64 p1_0, .int .i64 p1_1] rfl rfl trivial rfl rfl rfl (fun b1 => ?_)
  refine WO.cls (C' := St w0 m m [[⟨b1, 23, [.int .i64 p1_0, .int .i64 p1_1]⟩]]) (fun _ h => h) ?_
  refine WO_pure tbok 1 [(0, .slice a_p0 p0.length c_p0), (3, .pointer (some ⟨b1, 0, none⟩)), (4, .int .i64 0)] rfl ⟨rfl, rfl, rfl, trivial⟩ ?_
  refine WO_end ?_
  refine WK_seq ?_
  refine WK_seq ?_
  refine WK_region ?_
  refine WO_pure tbok 1 [(3, .pointer (some ⟨b1, 0, none⟩)), (4, .int .i64 0), (5, .slice a_p0 p0.length c_p0)] rfl ⟨rfl, rfl, rfl, trivial⟩ ?_
  obtain ⟨y_1, hc2, hm⟩ := bind_some hm
  refine WO_call0 (.bool y_1) rfl rfl trivial rfl rfl rfl rfl St_closed ⟨21, #[], #[], rfl, callable_21, fun w hw => ⟨_, hw.sat, fiduciallaw45_line_walk h_p0 hc2⟩⟩ ?_
  refine WO_pure tbok 1 [(3, .pointer (some ⟨b1, 0, none⟩)), (4, .int .i64 0), (7, .bool (!y_1))] rfl ⟨rfl, rfl, rfl, trivial⟩ ?_
  refine WO_end ?_
  refine WK_cond (b := !y_1) rfl (fun hb3 => ?_) (fun hb3 => ?_)
  · have hm := ifT hb3 hm
    refine WK_seq ?_
    refine WK_region ?_
    refine WO_pure tbok 1 [(3, .pointer (some ⟨b1, 0, none⟩)), (4, .int .i64 1)] rfl ⟨rfl, rfl, trivial⟩ ?_
    refine WO_end ?_
    cases hm
    exact WK_ret (ret_out (L := []) (RLc_tmp rfl RLc_nil) (List.nil_sublist _) rfl)
  · have hm := ifF hb3 hm
    refine WK_skip ?_
    refine WK_seq ?_
    refine WK_seq ?_
    refine WK_region ?_
    refine WO_pure tbok 1 [(3, .pointer (some ⟨b1, 0, none⟩)), (4, .int .i64 0), (8, .pointer (some ⟨b1, 0, none⟩))] rfl ⟨rfl, rfl, rfl, trivial⟩ ?_
    refine WO_loadB tbok 0 rfl rfl rfl rfl (fun _ h => h) rfl rfl ?_
    refine WO_pure tbok 1 [(4, .int .i64 0), (9, .int .i64 p1_0), (10, .pointer (some ⟨b1, 1, none⟩))] rfl ⟨rfl, rfl, rfl, trivial⟩ ?_
    refine WO_loadB tbok 0 rfl rfl rfl rfl (fun _ h => h) rfl rfl ?_
    obtain ⟨y_2, hc4, hm⟩ := bind_some hm
    refine WO_call0 (.bool y_2) rfl rfl trivial rfl rfl rfl rfl St_closed ⟨37, #[], #[], rfl, callable_37, fun w hw => ⟨_, hw.sat, fiduciallaw45_penalties_walk hc4⟩⟩ ?_
    refine WO_pure tbok 1 [(4, .int .i64 0), (13, .bool (!y_2))] rfl ⟨rfl, rfl, trivial⟩ ?_
    refine WO_end ?_
    refine WK_cond (b := !y_2) rfl (fun hb5 => ?_) (fun hb5 => ?_)
    · have hm := ifT hb5 hm
      refine WK_seq ?_
      refine WK_region ?_
      refine WO_pure tbok 1 [(4, .int .i64 2)] rfl ⟨rfl, trivial⟩ ?_
      refine WO_end ?_
      cases hm
      exact WK_ret (ret_out (L := []) (RLc_tmp rfl RLc_nil) (List.nil_sublist _) rfl)
    · have hm := ifF hb5 hm
      refine WK_skip ?_
      refine WK_seq ?_
      refine WK_region ?_
      refine WO_pure tbok 1 [(4, .int .i64 0)] rfl ⟨rfl, trivial⟩ ?_
      refine WO_end ?_
      cases hm
      exact WK_ret (ret_out (L := []) (RLc_tmp rfl RLc_nil) (List.nil_sublist _) rfl)
theorem fiduciallaw45_jump_walk {m : Mu} {p0 : Int} {p1 : Int} {p2 : Int}   {r : Int} (hm : fiduciallaw45_jump p0 p1 p2 = some r) :
    Go.E.Spec Try.prog 39 [.int .i64 p0, .int .i64 p1, .int .i64 p2] m (fun v _ _ => v = .int .i64 r) := by
  refine Spec_enter Try.func39 rfl rfl rfl (fun w0 => ?_)
  refine WK.sub (e' := [(0, .int .i64 p0), (1, .int .i64 p1), (2, .int .i64 p2)]) ⟨rfl, rfl, rfl, trivial⟩ ?_
  refine WK.sub (e' := [(0, .int .i64 p0), (1, .int .i64 p1), (2, .int .i64 p2)]) ⟨rfl, rfl, rfl, trivial⟩ ?_
  unfold fiduciallaw45_jump at hm
  refine WK_seq ?_
  refine WK_region ?_
  refine WO_pure tbok 1 [(0, .int .i64 p0), (1, .int .i64 p1), (2, .int .i64 p2), (6, .int .i64 0)] rfl ⟨rfl, rfl, rfl, rfl, trivial⟩ ?_
  refine WO_end ?_
  refine WK_seq ?_
  refine WK_seq ?_
  refine WK_region ?_
  refine WO_pure tbok 1 [(1, .int .i64 p1), (2, .int .i64 p2), (6, .int .i64 0), (7, .int .i64 p0)] rfl ⟨rfl, rfl, rfl, rfl, trivial⟩ ?_
  refine WO_end ?_
  refine WK_block ?_
  refine WK_seq ?_
  refine WK_region ?_
  refine WO_pure tbok 2 [(1, .int .i64 p1), (2, .int .i64 p2), (6, .int .i64 0), (7, .int .i64 p0), (8, .bool (p0 == 0))] rfl ⟨rfl, rfl, rfl, rfl, rfl, trivial⟩ ?_
  refine WO_end ?_
  refine WK_cond (b := p0 == 0) rfl (fun hb1 => ?_) (fun hb1 => ?_)
  · have hm := ifT hb1 hm
    refine WK_seq ?_
    refine WK_region ?_
    refine WO_pure tbok 1 [(2, .int .i64 p2), (6, .int .i64 0)] rfl ⟨rfl, rfl, trivial⟩ ?_
    refine WO_end ?_
    cases hm
    exact WK_ret (ret_out (L := []) (RLc_tmp rfl RLc_nil) (List.nil_sublist _) rfl)
  · have hm := ifF hb1 hm
    refine WK_seq ?_
    refine WK_seq ?_
    refine WK_region ?_
    refine WO_pure tbok 2 [(1, .int .i64 p1), (2, .int .i64 p2), (6, .int .i64 0), (7, .int .i64 p0), (10, .bool (p0 == 1))] rfl ⟨rfl, rfl, rfl, rfl, rfl, trivial⟩ ?_
    refine WO_end ?_
    obtain ⟨s_1, hx2, hm⟩ := bind_some hm
    refine WK_meet [(1, .int .i64 p1), (2, .int .i64 p2), (6, .int .i64 0), (10, .bool s_1)] (St w0 m m []) ?_ (fun hk3 => ?_)
    · refine WK_cond (b := s_1) rfl (fun hb4 => ?_) (fun hb4 => ?_)
      · have hm := ifT hb4 hm
        refine WK_seq ?_
        refine WK_region ?_
        refine WO_pure tbok 2 [(2, .int .i64 p2), (6, .int .i64 p1)] rfl ⟨rfl, rfl, trivial⟩ ?_
        refine WO_end ?_
        cases hm
        exact WK_ret (ret_out (L := []) (RLc_tmp rfl RLc_nil) (List.nil_sublist _) rfl)
      · have hm := ifF hb4 hm
        refine WK_skip ?_
        refine WK_blk ?_
        refine WK_seq ?_
        refine WK_region ?_
        refine WO_pure tbok 2 [(6, .int .i64 p2)] rfl ⟨rfl, trivial⟩ ?_
        refine WO_end ?_
        cases hm
        exact WK_ret (ret_out (L := []) (RLc_tmp rfl RLc_nil) (List.nil_sublist _) rfl)
    · refine WK_cond (b := p0 == 1) rfl (fun hb5 => ?_) (fun hb5 => ?_)
      · have hx2 := ifT hb5 hx2
        refine WK_skip ?_
        cases hx2
        refine WK.sub ?_ (WK.cls (fun _ h => h) hk3)
        exact ⟨rfl, rfl, rfl, rfl, trivial⟩
      · have hx2 := ifF hb5 hx2
        refine WK_region ?_
        refine WO_pure tbok 2 [(1, .int .i64 p1), (2, .int .i64 p2), (6, .int .i64 0), (10, .bool (p0 == (-1)))] rfl ⟨rfl, rfl, rfl, rfl, trivial⟩ ?_
        refine WO_end ?_
        cases hx2
        refine WK.sub ?_ (WK.cls (fun _ h => h) hk3)
        exact ⟨rfl, rfl, rfl, rfl, trivial⟩
def fiduciallaw45_least_Q (r : List (List Int)) : Value → Mu → List Ent → Prop := fun v m L => ∃ (a0 : Option Addr) (q0 c0 : Nat), v = .slice a0 q0 c0 ∧ SlR (RowE (FE (I1 .i64)) 1) 1 m (.slice a0 q0 c0) r
theorem fiduciallaw45_least_walk {m : Mu} {p0 : List (List Int)} {p1 : Int} {p2 : Int} {a_p0 : Option Addr} {q_p0 c_p0 : Nat} (h_p0 : SlR (RowE (FE (I1 .i64)) 1) 1 m (.slice a_p0 q_p0 c_p0) p0) {r : List (List Int)} (hm : fiduciallaw45_least p0 p1 p2 = some r) :
    Go.E.Spec Try.prog 38 [.slice a_p0 q_p0 c_p0, .int .i64 p1, .int .i64 p2] m (fiduciallaw45_least_Q r) := by
  refine Spec_enter Try.func38 rfl rfl rfl (fun w0 => ?_)
  refine WK.sub (e' := [(0, .slice a_p0 q_p0 c_p0), (1, .int .i64 p1), (2, .int .i64 p2)]) ⟨rfl, rfl, rfl, trivial⟩ ?_
  obtain rfl := SlR.qlen h_p0
  refine WK.sub (e' := [(0, .slice a_p0 p0.length c_p0), (1, .int .i64 p1), (2, .int .i64 p2)]) ⟨rfl, rfl, rfl, trivial⟩ ?_
  unfold fiduciallaw45_least at hm
  refine WK_seq ?_
  refine WK_region ?_
  refine WO_pure tbok 1 [(0, .slice a_p0 p0.length c_p0), (1, .int .i64 p1), (2, .int .i64 p2), (6, .slice none 0 0)] rfl ⟨rfl, rfl, rfl, rfl, trivial⟩ ?_
  refine WO_end ?_
  refine WK_seq ?_
  refine WK_region ?_
  refine WO_pure tbok 2 [(0, .slice a_p0 p0.length c_p0), (1, .int .i64 p1), (2, .int .i64 p2), (6, .slice none 0 0), (14, .int .i64 (p0.length : Int))] rfl ⟨rfl, rfl, rfl, rfl, rfl, trivial⟩ ?_
  obtain ⟨hc1, hm⟩ := chk_some hm
  refine WO_makeT (E := (I1 .i64)) (k := 1) (T0 := 24) (T1 := 3) tbok rfl rfl trivial rfl rfl rfl rfl rfl rfl rfl rfl rfl rfl (mk_ok (by decide) hc1) (fun b2 c3 L4 hL4 => ?_)
  refine WO.cls (C' := St w0 m m [L4]) (fun _ h => h) ?_
  refine WO_pure tbok 1 [(0, .slice a_p0 p0.length c_p0), (1, .int .i64 p1), (2, .int .i64 p2), (6, .slice none 0 0), (7, .slice (some ⟨b2, 0, none⟩) ((List.replicate ((p0.length : Int) : Int).toNat ([] : List Int)).length) c3)] rfl ⟨rfl, rfl, rfl, rfl, rfl, trivial⟩ ?_
  refine WO_end ?_
  refine WK_seq ?_
  refine WK_seq ?_
  refine WK_region ?_
  refine WO_pure tbok 4 [(0, .slice a_p0 p0.length c_p0), (1, .int .i64 p1), (2, .int .i64 p2), (6, .slice none 0 0), (7, .slice (some ⟨b2, 0, none⟩) ((List.replicate ((p0.length : Int) : Int).toNat ([] : List Int)).length) c3), (8, .int .i64 (w64 ((p0.length : Int) - 1)))] rfl ⟨rfl, rfl, rfl, rfl, rfl, rfl, trivial⟩ ?_
  refine WO_end ?_
  obtain ⟨x9, hx10, hm⟩ := bind_some hm
  refine WK_join (β := (List (List Int)) × (List Value × List Ent)) (fun p => p.1 = x9 ∧ OwnT 24 3 1 (I1 .i64) (.slice (some ⟨b2, 0, none⟩) ((List.replicate ((p0.length : Int) : Int).toNat ([] : List Int)).length) c3) p.2.1 p.1 p.2.2) (fun p => [(6, .slice none 0 0), (7, .slice (some ⟨b2, 0, none⟩) ((List.replicate ((p0.length : Int) : Int).toNat ([] : List Int)).length) c3)]) (fun p => St w0 m m [p.2.2]) ?_ (fun hk11 => ?_)
  · rintro ⟨l_3, ⟨vs8, L7⟩⟩ ⟨hq17, hL7⟩
    subst hq17
    refine WK.sub (e' := [(6, .slice none 0 0), (7, .slice (some ⟨b2, 0, none⟩) ((List.replicate ((p0.length : Int) : Int).toNat ([] : List Int)).length) c3)]) ⟨rfl, rfl, trivial⟩ (WK.cls (C' := St w0 m m [L7]) (fun _ h => h) ?_)
    refine WK_seq ?_
    refine WK_region ?_
    refine WO_pure tbok 2 [(6, .slice (some ⟨b2, 0, none⟩) ((List.replicate ((p0.length : Int) : Int).toNat ([] : List Int)).length) c3)] rfl ⟨rfl, trivial⟩ ?_
    refine WO_end ?_
    cases hm
    refine WK_freeze 0 rfl (fun m18 hle19 hmm20 => ?_)
    refine WK.cls (C' := St w0 m m18 [[]]) (fun _ h => h) ?_
    exact WK_ret (ret_out (L := []) (RLc_tmp rfl RLc_nil) (List.nil_sublist _) ⟨(some ⟨b2, 0, none⟩), ((List.replicate ((p0.length : Int) : Int).toNat ([] : List Int)).length), c3, rfl, (OwnT.rd (E := (I1 .i64)) (k := 1) (fun _ => rfl) hL7 hmm20)⟩)
  · refine WK_block ?_
    refine WK_loop (S := List (List Int) × Int) (G := List Value × List Ent) (fun s => fiduciallaw45_least_s1 p0 p1 p2 s.1 s.2) (fun s g => [(0, .slice a_p0 p0.length c_p0), (1, .int .i64 p1), (2, .int .i64 p2), (6, .slice none 0 0), (7, .slice (some ⟨b2, 0, none⟩) ((List.replicate ((p0.length : Int) : Int).toNat ([] : List Int)).length) c3), (8, .int .i64 s.2)]) (fun s g => St w0 m m [g.2]) (fun s g => OwnT 24 3 1 (I1 .i64) (.slice (some ⟨b2, 0, none⟩) ((List.replicate ((p0.length : Int) : Int).toNat ([] : List Int)).length) c3) g.1 s.1 g.2) FUEL ((List.replicate ((p0.length : Int) : Int).toNat ([] : List Int)), w64 ((p0.length : Int) - 1)) ((List.replicate ((p0.length : Int) : Int).toNat (Value.slice none 0 0)), L4) x9 hx10 hL4 ⟨rfl, rfl, rfl, rfl, rfl, rfl, trivial⟩ (fun _ h => h) ?_
    rintro ⟨l_1, s_2⟩ ⟨vs6, L5⟩ o13 fl14 hm12 hL5 hn15 hd16
    have hm12 : fiduciallaw45_least_s1 p0 p1 p2 l_1 s_2 = some o13 := hm12
    unfold fiduciallaw45_least_s1 at hm12
    refine WK.sub (e' := [(0, .slice a_p0 p0.length c_p0), (1, .int .i64 p1), (2, .int .i64 p2), (6, .slice none 0 0), (7, .slice (some ⟨b2, 0, none⟩) ((List.replicate ((p0.length : Int) : Int).toNat ([] : List Int)).length) c3), (8, .int .i64 s_2)]) ⟨rfl, rfl, rfl, rfl, rfl, rfl, trivial⟩ (WK.cls (C' := St w0 m m [L5]) (fun _ h => h) ?_)
    refine WK_seq ?_
    refine WK_seq ?_
    refine WK_region ?_
    refine WO_pure tbok 2 [(0, .slice a_p0 p0.length c_p0), (1, .int .i64 p1), (2, .int .i64 p2), (6, .slice none 0 0), (7, .slice (some ⟨b2, 0, none⟩) ((List.replicate ((p0.length : Int) : Int).toNat ([] : List Int)).length) c3), (8, .int .i64 s_2), (20, .bool (decide (0 ≤ s_2)))] rfl ⟨rfl, rfl, rfl, rfl, rfl, rfl, rfl, trivial⟩ ?_
    refine WO_end ?_
    refine WK_cond (b := decide (0 ≤ s_2)) rfl (fun hb21 => ?_) (fun hb21 => ?_)
    · have hm12 := ifT hb21 hm12
      refine WK_skip ?_
      refine WK_seq ?_
      refine WK_block ?_
      refine WK_seq ?_
      refine WK_region ?_
      refine WO_pure tbok 2 [(0, .slice a_p0 p0.length c_p0), (1, .int .i64 p1), (2, .int .i64 p2), (6, .slice none 0 0), (7, .slice (some ⟨b2, 0, none⟩) ((List.replicate ((p0.length : Int) : Int).toNat ([] : List Int)).length) c3), (8, .int .i64 s_2), (23, .slice a_p0 p0.length c_p0), (24, .int .i64 s_2)] rfl ⟨rfl, rfl, rfl, rfl, rfl, rfl, rfl, rfl, trivial⟩ ?_
      obtain ⟨v_4, hy22, hm12⟩ := bind_some hm12
      obtain ⟨hc23, hy22⟩ := ix_some hy22
      refine WO_index tbok rfl rfl rfl rfl rfl rfl rfl rfl (SlR.addr h_p0) hc23 ?_
      refine WO_loadR tbok rfl rfl rfl rfl (fun _ h => St.sat h) h_p0 hy22 rfl rfl (fun a24 c25 h26 => ?_)
      refine WO_pure tbok 2 [(0, .slice a_p0 p0.length c_p0), (1, .int .i64 p1), (2, .int .i64 p2), (6, .slice none 0 0), (7, .slice (some ⟨b2, 0, none⟩) ((List.replicate ((p0.length : Int) : Int).toNat ([] : List Int)).length) c3), (8, .int .i64 s_2), (26, .slice a24 ((v_4).length) c25), (27, .int .i64 ((v_4).length : Int)), (28, .int .i64 0)] rfl ⟨rfl, rfl, rfl, rfl, rfl, rfl, rfl, rfl, rfl, trivial⟩ ?_
      refine WO_end ?_
      obtain ⟨x31, hx32, hm12⟩ := bind_some hm12
      refine WK_join (β := (List (List Int)) × (List Value × List Ent)) (fun p => p.1 = x31 ∧ OwnT 24 3 1 (I1 .i64) (.slice (some ⟨b2, 0, none⟩) ((List.replicate ((p0.length : Int) : Int).toNat ([] : List Int)).length) c3) p.2.1 p.1 p.2.2) (fun p => [(0, .slice a_p0 p0.length c_p0), (1, .int .i64 p1), (2, .int .i64 p2), (6, .slice none 0 0), (7, .slice (some ⟨b2, 0, none⟩) ((List.replicate ((p0.length : Int) : Int).toNat ([] : List Int)).length) c3), (8, .int .i64 s_2)]) (fun p => St w0 m m [p.2.2]) ?_ (fun hk33 => ?_)
      · rintro ⟨l_7, ⟨vs30, L29⟩⟩ ⟨hq39, hL29⟩
        subst hq39
        refine WK.sub (e' := [(0, .slice a_p0 p0.length c_p0), (1, .int .i64 p1), (2, .int .i64 p2), (6, .slice none 0 0), (7, .slice (some ⟨b2, 0, none⟩) ((List.replicate ((p0.length : Int) : Int).toNat ([] : List Int)).length) c3), (8, .int .i64 s_2)]) ⟨rfl, rfl, rfl, rfl, rfl, rfl, trivial⟩ (WK.cls (C' := St w0 m m [L29]) (fun _ h => h) ?_)
        refine WK_blk ?_
        refine WK_region ?_
        refine WO_pure tbok 3 [(0, .slice a_p0 p0.length c_p0), (1, .int .i64 p1), (2, .int .i64 p2), (6, .slice none 0 0), (7, .slice (some ⟨b2, 0, none⟩) ((List.replicate ((p0.length : Int) : Int).toNat ([] : List Int)).length) c3), (8, .int .i64 (w64 (s_2 - 1)))] rfl ⟨rfl, rfl, rfl, rfl, rfl, rfl, trivial⟩ ?_
        refine WO_end ?_
        cases hm12
        refine WK.sub ?_ (WK.cls (fun _ h => h) (hn15 _ (vs30, L29) rfl hL29))
        exact ⟨rfl, rfl, rfl, rfl, rfl, rfl, trivial⟩
      · refine WK_block ?_
        refine WK_loop (S := List (List Int) × Int) (G := List Value × List Ent) (fun s => fiduciallaw45_least_s2 p0 p1 p2 s_2 v_4 s.1 s.2) (fun s g => [(0, .slice a_p0 p0.length c_p0), (1, .int .i64 p1), (2, .int .i64 p2), (6, .slice none 0 0), (7, .slice (some ⟨b2, 0, none⟩) ((List.replicate ((p0.length : Int) : Int).toNat ([] : List Int)).length) c3), (8, .int .i64 s_2), (26, .slice a24 ((v_4).length) c25), (27, .int .i64 ((v_4).length : Int)), (28, .int .i64 s.2)]) (fun s g => St w0 m m [g.2]) (fun s g => OwnT 24 3 1 (I1 .i64) (.slice (some ⟨b2, 0, none⟩) ((List.replicate ((p0.length : Int) : Int).toNat ([] : List Int)).length) c3) g.1 s.1 g.2) FUEL (l_1, 0) (vs6, L5) x31 hx32 hL5 ⟨rfl, rfl, rfl, rfl, rfl, rfl, rfl, rfl, rfl, trivial⟩ (fun _ h => h) ?_
        rintro ⟨l_5, s_6⟩ ⟨vs28, L27⟩ o35 fl36 hm34 hL27 hn37 hd38
        have hm34 : fiduciallaw45_least_s2 p0 p1 p2 s_2 v_4 l_5 s_6 = some o35 := hm34
        unfold fiduciallaw45_least_s2 at hm34
        refine WK.sub (e' := [(0, .slice a_p0 p0.length c_p0), (1, .int .i64 p1), (2, .int .i64 p2), (6, .slice none 0 0), (7, .slice (some ⟨b2, 0, none⟩) ((List.replicate ((p0.length : Int) : Int).toNat ([] : List Int)).length) c3), (8, .int .i64 s_2), (26, .slice a24 ((v_4).length) c25), (27, .int .i64 ((v_4).length : Int)), (28, .int .i64 s_6)]) ⟨rfl, rfl, rfl, rfl, rfl, rfl, rfl, rfl, rfl, trivial⟩ (WK.cls (C' := St w0 m m [L27]) (fun _ h => h) ?_)
        refine WK_seq ?_
        refine WK_region ?_
        refine WO_pure tbok 1 [(0, .slice a_p0 p0.length c_p0), (1, .int .i64 p1), (2, .int .i64 p2), (6, .slice none 0 0), (7, .slice (some ⟨b2, 0, none⟩) ((List.replicate ((p0.length : Int) : Int).toNat ([] : List Int)).length) c3), (8, .int .i64 s_2), (26, .slice a24 ((v_4).length) c25), (27, .int .i64 ((v_4).length : Int)), (28, .int .i64 s_6), (29, .bool (decide (s_6 < ((v_4).length : Int))))] rfl ⟨rfl, rfl, rfl, rfl, rfl, rfl, rfl, rfl, rfl, rfl, trivial⟩ ?_
        refine WO_end ?_
        refine WK_seq ?_
        refine WK_cond (b := decide (s_6 < ((v_4).length : Int))) rfl (fun hb40 => ?_) (fun hb40 => ?_)
        · have hm34 := ifT hb40 hm34
          refine WK_skip ?_
          refine WK_seq ?_
          refine WK_block ?_
          refine WK_seq ?_
          refine WK_region ?_
          refine WO_pure tbok 1 [(0, .slice a_p0 p0.length c_p0), (1, .int .i64 p1), (2, .int .i64 p2), (6, .slice none 0 0), (7, .slice (some ⟨b2, 0, none⟩) ((List.replicate ((p0.length : Int) : Int).toNat ([] : List Int)).length) c3), (8, .int .i64 s_2), (26, .slice a24 ((v_4).length) c25), (27, .int .i64 ((v_4).length : Int)), (28, .int .i64 s_6), (30, .int .i64 s_6)] rfl ⟨rfl, rfl, rfl, rfl, rfl, rfl, rfl, rfl, rfl, rfl, trivial⟩ ?_
          obtain ⟨v_8, hy41, hm34⟩ := bind_some hm34
          obtain ⟨hc42, hy41⟩ := ix_some hy41
          refine WO_index tbok rfl rfl rfl rfl rfl rfl rfl rfl (SlR.addr h26) hc42 ?_
          refine WO_loadE tbok rfl rfl rfl rfl (fun _ h => St.sat h) h26 hy41 rfl ?_
          refine WO_pure tbok 2 [(0, .slice a_p0 p0.length c_p0), (1, .int .i64 p1), (2, .int .i64 p2), (6, .slice none 0 0), (7, .slice (some ⟨b2, 0, none⟩) ((List.replicate ((p0.length : Int) : Int).toNat ([] : List Int)).length) c3), (8, .int .i64 s_2), (9, .int .i64 s_6), (10, .int .i64 v_8), (26, .slice a24 ((v_4).length) c25), (27, .int .i64 ((v_4).length : Int)), (28, .int .i64 s_6)] rfl ⟨rfl, rfl, rfl, rfl, rfl, rfl, rfl, rfl, rfl, rfl, rfl, trivial⟩ ?_
          refine WO_end ?_
          refine WK_seq ?_
          refine WK_region ?_
          refine WO_pure tbok 1 [(0, .slice a_p0 p0.length c_p0), (1, .int .i64 p1), (2, .int .i64 p2), (6, .slice none 0 0), (7, .slice (some ⟨b2, 0, none⟩) ((List.replicate ((p0.length : Int) : Int).toNat ([] : List Int)).length) c3), (8, .int .i64 s_2), (9, .int .i64 s_6), (10, .int .i64 v_8), (11, .int .i64 0), (26, .slice a24 ((v_4).length) c25), (27, .int .i64 ((v_4).length : Int)), (28, .int .i64 s_6)] rfl ⟨rfl, rfl, rfl, rfl, rfl, rfl, rfl, rfl, rfl, rfl, rfl, rfl, trivial⟩ ?_
          refine WO_end ?_
          refine WK_seq ?_
          refine WK_seq ?_
          refine WK_region ?_
          refine WO_pure tbok 2 [(0, .slice a_p0 p0.length c_p0), (1, .int .i64 p1), (2, .int .i64 p2), (6, .slice none 0 0), (7, .slice (some ⟨b2, 0, none⟩) ((List.replicate ((p0.length : Int) : Int).toNat ([] : List Int)).length) c3), (8, .int .i64 s_2), (9, .int .i64 s_6), (10, .int .i64 v_8), (11, .int .i64 0), (26, .slice a24 ((v_4).length) c25), (27, .int .i64 ((v_4).length : Int)), (28, .int .i64 s_6), (33, .slice a_p0 p0.length c_p0), (34, .int .i64 s_2)] rfl ⟨rfl, rfl, rfl, rfl, rfl, rfl, rfl, rfl, rfl, rfl, rfl, rfl, rfl, rfl, trivial⟩ ?_
          obtain ⟨v_9, hy43, hm34⟩ := bind_some hm34
          obtain ⟨hc44, hy43⟩ := ix_some hy43
          refine WO_index tbok rfl rfl rfl rfl rfl rfl rfl rfl (SlR.addr h_p0) hc44 ?_
          refine WO_loadR tbok rfl rfl rfl rfl (fun _ h => St.sat h) h_p0 hy43 rfl rfl (fun a45 c46 h47 => ?_)
          refine WO_pure tbok 2 [(0, .slice a_p0 p0.length c_p0), (1, .int .i64 p1), (2, .int .i64 p2), (6, .slice none 0 0), (7, .slice (some ⟨b2, 0, none⟩) ((List.replicate ((p0.length : Int) : Int).toNat ([] : List Int)).length) c3), (8, .int .i64 s_2), (9, .int .i64 s_6), (10, .int .i64 v_8), (11, .int .i64 0), (26, .slice a24 ((v_4).length) c25), (27, .int .i64 ((v_4).length : Int)), (28, .int .i64 s_6), (37, .int .i64 ((v_9).length : Int)), (38, .int .i64 0)] rfl ⟨rfl, rfl, rfl, rfl, rfl, rfl, rfl, rfl, rfl, rfl, rfl, rfl, rfl, rfl, trivial⟩ ?_
          refine WO_end ?_
          obtain ⟨x48, hx49, hm34⟩ := bind_some hm34
          refine WK_join (β := Int × Unit) (fun p => p.1 = x48) (fun p => [(0, .slice a_p0 p0.length c_p0), (1, .int .i64 p1), (2, .int .i64 p2), (6, .slice none 0 0), (7, .slice (some ⟨b2, 0, none⟩) ((List.replicate ((p0.length : Int) : Int).toNat ([] : List Int)).length) c3), (8, .int .i64 s_2), (10, .int .i64 v_8), (11, .int .i64 p.1), (26, .slice a24 ((v_4).length) c25), (27, .int .i64 ((v_4).length : Int)), (28, .int .i64 s_6)]) (fun p => St w0 m m [L27]) ?_ (fun hk50 => ?_)
          · rintro ⟨s_12, ⟨⟩⟩ hq56
            subst hq56
            refine WK.sub (e' := [(0, .slice a_p0 p0.length c_p0), (1, .int .i64 p1), (2, .int .i64 p2), (6, .slice none 0 0), (7, .slice (some ⟨b2, 0, none⟩) ((List.replicate ((p0.length : Int) : Int).toNat ([] : List Int)).length) c3), (8, .int .i64 s_2), (10, .int .i64 v_8), (11, .int .i64 s_12), (26, .slice a24 ((v_4).length) c25), (27, .int .i64 ((v_4).length : Int)), (28, .int .i64 s_6)]) ⟨rfl, rfl, rfl, rfl, rfl, rfl, rfl, rfl, rfl, rfl, rfl, trivial⟩ (WK.cls (C' := St w0 m m [L27]) (fun _ h => h) ?_)
            refine WK_region ?_
            refine WO_pure tbok 4 [(0, .slice a_p0 p0.length c_p0), (1, .int .i64 p1), (2, .int .i64 p2), (6, .slice none 0 0), (7, .slice (some ⟨b2, 0, none⟩) ((List.replicate ((p0.length : Int) : Int).toNat ([] : List Int)).length) c3), (8, .int .i64 s_2), (10, .int .i64 v_8), (11, .int .i64 s_12), (26, .slice a24 ((v_4).length) c25), (27, .int .i64 ((v_4).length : Int)), (28, .int .i64 s_6), (85, .slice (some ⟨b2, 0, none⟩) ((List.replicate ((p0.length : Int) : Int).toNat ([] : List Int)).length) c3), (86, .int .i64 s_2), (87, .slice (some ⟨b2, 0, none⟩) ((List.replicate ((p0.length : Int) : Int).toNat ([] : List Int)).length) c3), (88, .int .i64 s_2)] rfl ⟨rfl, rfl, rfl, rfl, rfl, rfl, rfl, rfl, rfl, rfl, rfl, rfl, rfl, rfl, rfl, trivial⟩ ?_
            obtain ⟨v_13, hy57, hm34⟩ := bind_some hm34
            obtain ⟨hc58, hy57⟩ := ix_some hy57
            refine WO_index tbok rfl rfl rfl rfl rfl rfl rfl rfl (OwnT.addr hL27) (by simpa using hc58) ?_
            refine WO_loadT tbok 0 rfl rfl rfl rfl (fun _ h => h) hL27 rfl hy57 rfl rfl (fun a59 c60 L61 hv62 hr63 => ?_)
            refine WO_pure tbok 3 [(0, .slice a_p0 p0.length c_p0), (1, .int .i64 p1), (2, .int .i64 p2), (6, .slice none 0 0), (7, .slice (some ⟨b2, 0, none⟩) ((List.replicate ((p0.length : Int) : Int).toNat ([] : List Int)).length) c3), (8, .int .i64 s_2), (26, .slice a24 ((v_4).length) c25), (27, .int .i64 ((v_4).length : Int)), (28, .int .i64 s_6), (85, .slice (some ⟨b2, 0, none⟩) ((List.replicate ((p0.length : Int) : Int).toNat ([] : List Int)).length) c3), (86, .int .i64 s_2), (90, .slice a59 v_13.length c60), (93, .int .i64 (w64 (v_8 + s_12)))] rfl ⟨rfl, rfl, rfl, rfl, rfl, rfl, rfl, rfl, rfl, rfl, rfl, rfl, rfl, trivial⟩ ?_
            refine WO_bslice (E := (I1 .i64)) tbok (fun _ => rfl) (by decide) [.int .i64 (w64 (v_8 + s_12))] ([w64 (v_8 + s_12)] : List Int) rfl rfl trivial rfl rfl rfl rfl rfl rfl rfl rfl rfl rfl rfl rfl (fun b64 hb64 => ?_)
            refine WO.cls (C' := St w0 m m [L27, [⟨b64, 3, ([w64 (v_8 + s_12)] : List Int).flatMap (I1 .i64)⟩]]) (fun _ h => h) ?_
            refine WO_takeT (E := (I1 .i64)) (k := 1) 0 hL27 rfl hv62 hy57 (fun L65 L66 hL65 hL66 => ?_)
            refine WO.cls (C' := St w0 m m [L65, [⟨b64, 3, ([w64 (v_8 + s_12)] : List Int).flatMap (I1 .i64)⟩], L66]) (fun _ h => h) ?_
            obtain ⟨hc67, hm34⟩ := chk_some hm34
            refine WO_append (E := (I1 .i64)) tbok (fun _ => rfl) 2 ([w64 (v_8 + s_12)] : List Int) (fun _ _ => rfl) rfl rfl rfl rfl rfl rfl rfl rfl rfl rfl rfl rfl hL66 rfl (src_seg (j := 1) rfl) (ap_ok (by decide) hc67) (ap_max hc67) (fun a68 c69 L70 hL70 => ?_)
            refine WO.cls (C' := St w0 m m [L65, [⟨b64, 3, ([w64 (v_8 + s_12)] : List Int).flatMap (I1 .i64)⟩], L70]) (fun _ h => h) ?_
            obtain ⟨hc71, hm34⟩ := chk_some hm34
            refine WO_index tbok rfl rfl rfl rfl rfl rfl rfl rfl (OwnH.addr hL65) (by simpa using hc71) ?_
            refine WO_storeTH tbok 0 2 rfl rfl rfl rfl rfl hL65 rfl hL70 rfl rfl (by simpa using idx_lt hc71) rfl rfl rfl rfl (fun L72 hL72 => ?_)
            refine WO.cls (C' := St w0 m m [L72, [⟨b64, 3, ([w64 (v_8 + s_12)] : List Int).flatMap (I1 .i64)⟩], []]) (fun _ h => h) ?_
            refine WO_end ?_
            refine WK_blk ?_
            refine WK_region ?_
            refine WO_pure tbok 2 [(0, .slice a_p0 p0.length c_p0), (1, .int .i64 p1), (2, .int .i64 p2), (6, .slice none 0 0), (7, .slice (some ⟨b2, 0, none⟩) ((List.replicate ((p0.length : Int) : Int).toNat ([] : List Int)).length) c3), (8, .int .i64 s_2), (26, .slice a24 ((v_4).length) c25), (27, .int .i64 ((v_4).length : Int)), (28, .int .i64 (w64 (s_6 + 1)))] rfl ⟨rfl, rfl, rfl, rfl, rfl, rfl, rfl, rfl, rfl, trivial⟩ ?_
            refine WO_end ?_
            cases hm34
            refine WK.sub ?_ (WK.cls (fun _ h => St.take 1 h) (hn37 _ ((vs28.set s_2.toNat (.slice a68 ((v_13 ++ ([w64 (v_8 + s_12)] : List Int)).length) c69)), L72) rfl hL72))
            exact ⟨rfl, rfl, rfl, rfl, rfl, rfl, rfl, rfl, rfl, trivial⟩
          · refine WK_block ?_
            refine WK_loop (S := Int × Int) (G := Unit) (fun s => fiduciallaw45_least_s3 p0 p1 p2 s_2 l_5 s_6 v_9 s.1 s.2) (fun s g => [(0, .slice a_p0 p0.length c_p0), (1, .int .i64 p1), (2, .int .i64 p2), (6, .slice none 0 0), (7, .slice (some ⟨b2, 0, none⟩) ((List.replicate ((p0.length : Int) : Int).toNat ([] : List Int)).length) c3), (8, .int .i64 s_2), (9, .int .i64 s_6), (10, .int .i64 v_8), (11, .int .i64 s.1), (26, .slice a24 ((v_4).length) c25), (27, .int .i64 ((v_4).length : Int)), (28, .int .i64 s_6), (37, .int .i64 ((v_9).length : Int)), (38, .int .i64 s.2)]) (fun s g => St w0 m m [L27]) (fun s g => True) FUEL (0, 0) () x48 hx49 trivial ⟨rfl, rfl, rfl, rfl, rfl, rfl, rfl, rfl, rfl, rfl, rfl, rfl, rfl, rfl, trivial⟩ (fun _ h => h) ?_
            rintro ⟨s_10, s_11⟩ ⟨⟩ o52 fl53 hm51 - hn54 hd55
            have hm51 : fiduciallaw45_least_s3 p0 p1 p2 s_2 l_5 s_6 v_9 s_10 s_11 = some o52 := hm51
            unfold fiduciallaw45_least_s3 at hm51
            refine WK.sub (e' := [(0, .slice a_p0 p0.length c_p0), (1, .int .i64 p1), (2, .int .i64 p2), (6, .slice none 0 0), (7, .slice (some ⟨b2, 0, none⟩) ((List.replicate ((p0.length : Int) : Int).toNat ([] : List Int)).length) c3), (8, .int .i64 s_2), (9, .int .i64 s_6), (10, .int .i64 v_8), (11, .int .i64 s_10), (26, .slice a24 ((v_4).length) c25), (27, .int .i64 ((v_4).length : Int)), (28, .int .i64 s_6), (37, .int .i64 ((v_9).length : Int)), (38, .int .i64 s_11)]) ⟨rfl, rfl, rfl, rfl, rfl, rfl, rfl, rfl, rfl, rfl, rfl, rfl, rfl, rfl, trivial⟩ (WK.cls (C' := St w0 m m [L27]) (fun _ h => h) ?_)
            refine WK_seq ?_
            refine WK_region ?_
            refine WO_pure tbok 1 [(0, .slice a_p0 p0.length c_p0), (1, .int .i64 p1), (2, .int .i64 p2), (6, .slice none 0 0), (7, .slice (some ⟨b2, 0, none⟩) ((List.replicate ((p0.length : Int) : Int).toNat ([] : List Int)).length) c3), (8, .int .i64 s_2), (9, .int .i64 s_6), (10, .int .i64 v_8), (11, .int .i64 s_10), (26, .slice a24 ((v_4).length) c25), (27, .int .i64 ((v_4).length : Int)), (28, .int .i64 s_6), (37, .int .i64 ((v_9).length : Int)), (38, .int .i64 s_11), (39, .bool (decide (s_11 < ((v_9).length : Int))))] rfl ⟨rfl, rfl, rfl, rfl, rfl, rfl, rfl, rfl, rfl, rfl, rfl, rfl, rfl, rfl, rfl, trivial⟩ ?_
            refine WO_end ?_
            refine WK_seq ?_
            refine WK_cond (b := decide (s_11 < ((v_9).length : Int))) rfl (fun hb73 => ?_) (fun hb73 => ?_)
            · have hm51 := ifT hb73 hm51
              refine WK_skip ?_
              refine WK_seq ?_
              refine WK_block ?_
              refine WK_seq ?_
              refine WK_region ?_
              refine WO_pure tbok 2 [(0, .slice a_p0 p0.length c_p0), (1, .int .i64 p1), (2, .int .i64 p2), (6, .slice none 0 0), (7, .slice (some ⟨b2, 0, none⟩) ((List.replicate ((p0.length : Int) : Int).toNat ([] : List Int)).length) c3), (8, .int .i64 s_2), (9, .int .i64 s_6), (10, .int .i64 v_8), (11, .int .i64 s_10), (12, .int .i64 s_11), (26, .slice a24 ((v_4).length) c25), (27, .int .i64 ((v_4).length : Int)), (28, .int .i64 s_6), (37, .int .i64 ((v_9).length : Int)), (38, .int .i64 s_11)] rfl ⟨rfl, rfl, rfl, rfl, rfl, rfl, rfl, rfl, rfl, rfl, rfl, rfl, rfl, rfl, rfl, trivial⟩ ?_
              refine WO_end ?_
              refine WK_seq ?_
              obtain ⟨s_14, hx74, hm51⟩ := bind_some hm51
              refine WK_meet [(0, .slice a_p0 p0.length c_p0), (1, .int .i64 p1), (2, .int .i64 p2), (6, .slice none 0 0), (7, .slice (some ⟨b2, 0, none⟩) ((List.replicate ((p0.length : Int) : Int).toNat ([] : List Int)).length) c3), (8, .int .i64 s_2), (9, .int .i64 s_6), (10, .int .i64 v_8), (11, .int .i64 s_10), (12, .int .i64 s_11), (26, .slice a24 ((v_4).length) c25), (27, .int .i64 ((v_4).length : Int)), (28, .int .i64 s_6), (37, .int .i64 ((v_9).length : Int)), (38, .int .i64 s_11), (68, .bool s_14)] (St w0 m m [L27]) ?_ (fun hk75 => ?_)
              · obtain ⟨s_15, hx76, hm51⟩ := bind_some hm51
                refine WK_meet [(0, .slice a_p0 p0.length c_p0), (1, .int .i64 p1), (2, .int .i64 p2), (6, .slice none 0 0), (7, .slice (some ⟨b2, 0, none⟩) ((List.replicate ((p0.length : Int) : Int).toNat ([] : List Int)).length) c3), (8, .int .i64 s_2), (9, .int .i64 s_6), (10, .int .i64 v_8), (11, .int .i64 s_15), (26, .slice a24 ((v_4).length) c25), (27, .int .i64 ((v_4).length : Int)), (28, .int .i64 s_6), (37, .int .i64 ((v_9).length : Int)), (38, .int .i64 s_11)] (St w0 m m [L27]) ?_ (fun hk77 => ?_)
                · refine WK_blk ?_
                  refine WK_region ?_
                  refine WO_pure tbok 2 [(0, .slice a_p0 p0.length c_p0), (1, .int .i64 p1), (2, .int .i64 p2), (6, .slice none 0 0), (7, .slice (some ⟨b2, 0, none⟩) ((List.replicate ((p0.length : Int) : Int).toNat ([] : List Int)).length) c3), (8, .int .i64 s_2), (9, .int .i64 s_6), (10, .int .i64 v_8), (11, .int .i64 s_15), (26, .slice a24 ((v_4).length) c25), (27, .int .i64 ((v_4).length : Int)), (28, .int .i64 s_6), (37, .int .i64 ((v_9).length : Int)), (38, .int .i64 (w64 (s_11 + 1)))] rfl ⟨rfl, rfl, rfl, rfl, rfl, rfl, rfl, rfl, rfl, rfl, rfl, rfl, rfl, rfl, trivial⟩ ?_
                  refine WO_end ?_
                  cases hm51
                  refine WK.sub ?_ (WK.cls (fun _ h => h) (hn54 _ () rfl trivial))
                  exact ⟨rfl, rfl, rfl, rfl, rfl, rfl, rfl, rfl, rfl, rfl, rfl, rfl, rfl, rfl, trivial⟩
                · refine WK_cond (b := s_14) rfl (fun hb78 => ?_) (fun hb78 => ?_)
                  · have hx76 := ifT hb78 hx76
                    refine WK_draw 16 [0, 1, 2, 3, 4, 5, 6, 7, 8, 9, 10, 11, 12, 13, 14, 15] follows_ok (by kernel_rfl) St_closed ?_
                    refine WO_pure tbok 3 [(0, .slice a_p0 p0.length c_p0), (1, .int .i64 p1), (2, .int .i64 p2), (6, .slice none 0 0), (7, .slice (some ⟨b2, 0, none⟩) ((List.replicate ((p0.length : Int) : Int).toNat ([] : List Int)).length) c3), (8, .int .i64 s_2), (9, .int .i64 s_6), (10, .int .i64 v_8), (11, .int .i64 s_10), (12, .int .i64 s_11), (26, .slice a24 ((v_4).length) c25), (27, .int .i64 ((v_4).length : Int)), (28, .int .i64 s_6), (37, .int .i64 ((v_9).length : Int)), (38, .int .i64 s_11), (69, .slice (some ⟨b2, 0, none⟩) ((List.replicate ((p0.length : Int) : Int).toNat ([] : List Int)).length) c3), (71, .int .i64 (w64 (s_2 + 1)))] rfl ⟨rfl, rfl, rfl, rfl, rfl, rfl, rfl, rfl, rfl, rfl, rfl, rfl, rfl, rfl, rfl, rfl, rfl, trivial⟩ ?_
                    obtain ⟨v_16, hy79, hx76⟩ := bind_some hx76
                    obtain ⟨hc80, hy79⟩ := ix_some hy79
                    refine WO_index tbok rfl rfl rfl rfl rfl rfl rfl rfl (OwnT.addr hL27) (by simpa using hc80) ?_
                    refine WO_loadT tbok 0 rfl rfl rfl rfl (fun _ h => h) hL27 rfl hy79 rfl rfl (fun a81 c82 L83 hv84 hr85 => ?_)
                    refine WO_pure tbok 1 [(0, .slice a_p0 p0.length c_p0), (1, .int .i64 p1), (2, .int .i64 p2), (6, .slice none 0 0), (7, .slice (some ⟨b2, 0, none⟩) ((List.replicate ((p0.length : Int) : Int).toNat ([] : List Int)).length) c3), (8, .int .i64 s_2), (9, .int .i64 s_6), (10, .int .i64 v_8), (11, .int .i64 s_10), (12, .int .i64 s_11), (26, .slice a24 ((v_4).length) c25), (27, .int .i64 ((v_4).length : Int)), (28, .int .i64 s_6), (37, .int .i64 ((v_9).length : Int)), (38, .int .i64 s_11), (73, .slice a81 v_16.length c82), (74, .int .i64 s_11)] rfl ⟨rfl, rfl, rfl, rfl, rfl, rfl, rfl, rfl, rfl, rfl, rfl, rfl, rfl, rfl, rfl, rfl, rfl, trivial⟩ ?_
                    obtain ⟨v_17, hy86, hx76⟩ := bind_some hx76
                    obtain ⟨hc87, hy86⟩ := ix_some hy86
                    refine WO_index tbok rfl rfl rfl rfl rfl rfl rfl rfl (OwnE.addr hr85) (by simpa using hc87) ?_
                    refine WO_loadTE (E := (I1 .i64)) tbok (fun _ => rfl) 0 rfl rfl rfl rfl (fun _ h => h) hL27 rfl hv84 hy79 hy86 rfl ?_
                    refine WO_pure tbok 5 [(0, .slice a_p0 p0.length c_p0), (1, .int .i64 p1), (2, .int .i64 p2), (6, .slice none 0 0), (7, .slice (some ⟨b2, 0, none⟩) ((List.replicate ((p0.length : Int) : Int).toNat ([] : List Int)).length) c3), (8, .int .i64 s_2), (9, .int .i64 s_6), (10, .int .i64 v_8), (11, .int .i64 s_10), (26, .slice a24 ((v_4).length) c25), (27, .int .i64 ((v_4).length : Int)), (28, .int .i64 s_6), (37, .int .i64 ((v_9).length : Int)), (38, .int .i64 s_11), (76, .int .i64 v_17), (79, .int .i64 (w64 (s_11 - s_6))), (80, .int .i64 p1), (81, .int .i64 p2)] rfl ⟨rfl, rfl, rfl, rfl, rfl, rfl, rfl, rfl, rfl, rfl, rfl, rfl, rfl, rfl, rfl, rfl, rfl, rfl, trivial⟩ ?_
                    obtain ⟨y_18, hc88, hx76⟩ := bind_some hx76
                    refine WO_call0 (.int .i64 y_18) rfl rfl St_closed rfl rfl rfl rfl St_closed ⟨39, #[], #[], rfl, callable_39, fun w hw => ⟨_, hw.sat, fiduciallaw45_jump_walk hc88⟩⟩ ?_
                    refine WO_pure tbok 2 [(0, .slice a_p0 p0.length c_p0), (1, .int .i64 p1), (2, .int .i64 p2), (6, .slice none 0 0), (7, .slice (some ⟨b2, 0, none⟩) ((List.replicate ((p0.length : Int) : Int).toNat ([] : List Int)).length) c3), (8, .int .i64 s_2), (9, .int .i64 s_6), (10, .int .i64 v_8), (11, .int .i64 (w64 (v_17 + y_18))), (26, .slice a24 ((v_4).length) c25), (27, .int .i64 ((v_4).length : Int)), (28, .int .i64 s_6), (37, .int .i64 ((v_9).length : Int)), (38, .int .i64 s_11)] rfl ⟨rfl, rfl, rfl, rfl, rfl, rfl, rfl, rfl, rfl, rfl, rfl, rfl, rfl, rfl, trivial⟩ ?_
                    refine WO_tail ?_
                    refine WO_end ?_
                    cases hx76
                    refine WK.sub ?_ (WK.cls (fun _ h => h) hk77)
                    exact ⟨rfl, rfl, rfl, rfl, rfl, rfl, rfl, rfl, rfl, rfl, rfl, rfl, rfl, rfl, trivial⟩
                  · have hx76 := ifF hb78 hx76
                    refine WK_skip ?_
                    cases hx76
                    refine WK.sub ?_ (WK.cls (fun _ h => h) hk77)
                    exact ⟨rfl, rfl, rfl, rfl, rfl, rfl, rfl, rfl, rfl, rfl, rfl, rfl, rfl, rfl, trivial⟩
              · refine WK_draw 28 [0, 1, 2, 3, 4, 5, 6, 7, 8, 9, 10, 11, 12, 13, 14, 15, 16, 17, 18, 19, 20, 21, 24, 22, 23, 25, 26, 27] follows_ok (by kernel_rfl) St_closed ?_
                refine WO_pure tbok 6 [(0, .slice a_p0 p0.length c_p0), (1, .int .i64 p1), (2, .int .i64 p2), (6, .slice none 0 0), (7, .slice (some ⟨b2, 0, none⟩) ((List.replicate ((p0.length : Int) : Int).toNat ([] : List Int)).length) c3), (8, .int .i64 s_2), (9, .int .i64 s_6), (10, .int .i64 v_8), (11, .int .i64 s_10), (12, .int .i64 s_11), (26, .slice a24 ((v_4).length) c25), (27, .int .i64 ((v_4).length : Int)), (28, .int .i64 s_6), (37, .int .i64 ((v_9).length : Int)), (38, .int .i64 s_11), (46, .bool (decide ((w64 (s_2 + 1)) < (p0.length : Int))))] rfl ⟨rfl, rfl, rfl, rfl, rfl, rfl, rfl, rfl, rfl, rfl, rfl, rfl, rfl, rfl, rfl, rfl, trivial⟩ ?_
                refine WO_split (d := 46) (b := decide ((w64 (s_2 + 1)) < (p0.length : Int))) rfl (fun hb89 => ?_) (fun hb89 => ?_)
                · have hx74 := ifT hb89 hx74
                  refine WO_pure tbok 3 [(0, .slice a_p0 p0.length c_p0), (1, .int .i64 p1), (2, .int .i64 p2), (6, .slice none 0 0), (7, .slice (some ⟨b2, 0, none⟩) ((List.replicate ((p0.length : Int) : Int).toNat ([] : List Int)).length) c3), (8, .int .i64 s_2), (9, .int .i64 s_6), (10, .int .i64 v_8), (11, .int .i64 s_10), (12, .int .i64 s_11), (26, .slice a24 ((v_4).length) c25), (27, .int .i64 ((v_4).length : Int)), (28, .int .i64 s_6), (37, .int .i64 ((v_9).length : Int)), (38, .int .i64 s_11), (46, .bool true), (49, .bool (s_11 == 0))] rfl ⟨rfl, rfl, rfl, rfl, rfl, rfl, rfl, rfl, rfl, rfl, rfl, rfl, rfl, rfl, rfl, rfl, rfl, trivial⟩ ?_
                  refine WO_split (d := 49) (b := s_11 == 0) rfl (fun hb90 => ?_) (fun hb90 => ?_)
                  · have hx74 := ifT hb90 hx74
                    refine WO_pure tbok 14 [(0, .slice a_p0 p0.length c_p0), (1, .int .i64 p1), (2, .int .i64 p2), (6, .slice none 0 0), (7, .slice (some ⟨b2, 0, none⟩) ((List.replicate ((p0.length : Int) : Int).toNat ([] : List Int)).length) c3), (8, .int .i64 s_2), (9, .int .i64 s_6), (10, .int .i64 v_8), (11, .int .i64 s_10), (12, .int .i64 s_11), (26, .slice a24 ((v_4).length) c25), (27, .int .i64 ((v_4).length : Int)), (28, .int .i64 s_6), (37, .int .i64 ((v_9).length : Int)), (38, .int .i64 s_11), (46, .bool true), (49, .bool true)] rfl ⟨rfl, rfl, rfl, rfl, rfl, rfl, rfl, rfl, rfl, rfl, rfl, rfl, rfl, rfl, rfl, rfl, rfl, trivial⟩ ?_
                    refine WO_skip rfl rfl ?_
                    refine WO_pure tbok 4 [(0, .slice a_p0 p0.length c_p0), (1, .int .i64 p1), (2, .int .i64 p2), (6, .slice none 0 0), (7, .slice (some ⟨b2, 0, none⟩) ((List.replicate ((p0.length : Int) : Int).toNat ([] : List Int)).length) c3), (8, .int .i64 s_2), (9, .int .i64 s_6), (10, .int .i64 v_8), (11, .int .i64 s_10), (12, .int .i64 s_11), (26, .slice a24 ((v_4).length) c25), (27, .int .i64 ((v_4).length : Int)), (28, .int .i64 s_6), (37, .int .i64 ((v_9).length : Int)), (38, .int .i64 s_11), (68, .bool true)] rfl ⟨rfl, rfl, rfl, rfl, rfl, rfl, rfl, rfl, rfl, rfl, rfl, rfl, rfl, rfl, rfl, rfl, trivial⟩ ?_
                    refine WO_tail ?_
                    refine WO_end ?_
                    cases hx74
                    refine WK.sub ?_ (WK.cls (fun _ h => h) hk75)
                    exact ⟨rfl, rfl, rfl, rfl, rfl, rfl, rfl, rfl, rfl, rfl, rfl, rfl, rfl, rfl, rfl, rfl, trivial⟩
                  · have hx74 := ifF hb90 hx74
                    refine WO_pure tbok 3 [(0, .slice a_p0 p0.length c_p0), (1, .int .i64 p1), (2, .int .i64 p2), (6, .slice none 0 0), (7, .slice (some ⟨b2, 0, none⟩) ((List.replicate ((p0.length : Int) : Int).toNat ([] : List Int)).length) c3), (8, .int .i64 s_2), (9, .int .i64 s_6), (10, .int .i64 v_8), (11, .int .i64 s_10), (12, .int .i64 s_11), (26, .slice a24 ((v_4).length) c25), (27, .int .i64 ((v_4).length : Int)), (28, .int .i64 s_6), (37, .int .i64 ((v_9).length : Int)), (38, .int .i64 s_11), (46, .bool true), (49, .bool false), (50, .slice (some ⟨b2, 0, none⟩) ((List.replicate ((p0.length : Int) : Int).toNat ([] : List Int)).length) c3), (52, .int .i64 (w64 (s_2 + 1)))] rfl ⟨rfl, rfl, rfl, rfl, rfl, rfl, rfl, rfl, rfl, rfl, rfl, rfl, rfl, rfl, rfl, rfl, rfl, rfl, rfl, trivial⟩ ?_
                    obtain ⟨v_19, hy91, hx74⟩ := bind_some hx74
                    obtain ⟨hc92, hy91⟩ := ix_some hy91
                    refine WO_index tbok rfl rfl rfl rfl rfl rfl rfl rfl (OwnT.addr hL27) (by simpa using hc92) ?_
                    refine WO_loadT tbok 0 rfl rfl rfl rfl (fun _ h => h) hL27 rfl hy91 rfl rfl (fun a93 c94 L95 hv96 hr97 => ?_)
                    refine WO_pure tbok 1 [(0, .slice a_p0 p0.length c_p0), (1, .int .i64 p1), (2, .int .i64 p2), (6, .slice none 0 0), (7, .slice (some ⟨b2, 0, none⟩) ((List.replicate ((p0.length : Int) : Int).toNat ([] : List Int)).length) c3), (8, .int .i64 s_2), (9, .int .i64 s_6), (10, .int .i64 v_8), (11, .int .i64 s_10), (12, .int .i64 s_11), (26, .slice a24 ((v_4).length) c25), (27, .int .i64 ((v_4).length : Int)), (28, .int .i64 s_6), (37, .int .i64 ((v_9).length : Int)), (38, .int .i64 s_11), (46, .bool true), (49, .bool false), (54, .slice a93 v_19.length c94), (55, .int .i64 s_11)] rfl ⟨rfl, rfl, rfl, rfl, rfl, rfl, rfl, rfl, rfl, rfl, rfl, rfl, rfl, rfl, rfl, rfl, rfl, rfl, rfl, trivial⟩ ?_
                    obtain ⟨v_20, hy98, hx74⟩ := bind_some hx74
                    obtain ⟨hc99, hy98⟩ := ix_some hy98
                    refine WO_index tbok rfl rfl rfl rfl rfl rfl rfl rfl (OwnE.addr hr97) (by simpa using hc99) ?_
                    refine WO_loadTE (E := (I1 .i64)) tbok (fun _ => rfl) 0 rfl rfl rfl rfl (fun _ h => h) hL27 rfl hv96 hy91 hy98 rfl ?_
                    refine WO_pure tbok 6 [(0, .slice a_p0 p0.length c_p0), (1, .int .i64 p1), (2, .int .i64 p2), (6, .slice none 0 0), (7, .slice (some ⟨b2, 0, none⟩) ((List.replicate ((p0.length : Int) : Int).toNat ([] : List Int)).length) c3), (8, .int .i64 s_2), (9, .int .i64 s_6), (10, .int .i64 v_8), (11, .int .i64 s_10), (12, .int .i64 s_11), (26, .slice a24 ((v_4).length) c25), (27, .int .i64 ((v_4).length : Int)), (28, .int .i64 s_6), (37, .int .i64 ((v_9).length : Int)), (38, .int .i64 s_11), (46, .bool true), (49, .bool false), (57, .int .i64 v_20), (60, .int .i64 (w64 (s_11 - s_6))), (61, .int .i64 p1), (62, .int .i64 p2), (65, .int .i64 s_10)] rfl ⟨rfl, rfl, rfl, rfl, rfl, rfl, rfl, rfl, rfl, rfl, rfl, rfl, rfl, rfl, rfl, rfl, rfl, rfl, rfl, rfl, rfl, rfl, trivial⟩ ?_
                    obtain ⟨y_21, hc100, hx74⟩ := bind_some hx74
                    refine WO_call0 (.int .i64 y_21) rfl rfl St_closed rfl rfl rfl rfl St_closed ⟨39, #[], #[], rfl, callable_39, fun w hw => ⟨_, hw.sat, fiduciallaw45_jump_walk hc100⟩⟩ ?_
                    refine WO_pure tbok 4 [(0, .slice a_p0 p0.length c_p0), (1, .int .i64 p1), (2, .int .i64 p2), (6, .slice none 0 0), (7, .slice (some ⟨b2, 0, none⟩) ((List.replicate ((p0.length : Int) : Int).toNat ([] : List Int)).length) c3), (8, .int .i64 s_2), (9, .int .i64 s_6), (10, .int .i64 v_8), (11, .int .i64 s_10), (12, .int .i64 s_11), (26, .slice a24 ((v_4).length) c25), (27, .int .i64 ((v_4).length : Int)), (28, .int .i64 s_6), (37, .int .i64 ((v_9).length : Int)), (38, .int .i64 s_11), (68, .bool (decide ((w64 (v_20 + y_21)) < s_10)))] rfl ⟨rfl, rfl, rfl, rfl, rfl, rfl, rfl, rfl, rfl, rfl, rfl, rfl, rfl, rfl, rfl, rfl, trivial⟩ ?_
                    refine WO_tail ?_
                    refine WO_end ?_
                    cases hx74
                    refine WK.sub ?_ (WK.cls (fun _ h => h) hk75)
                    exact ⟨rfl, rfl, rfl, rfl, rfl, rfl, rfl, rfl, rfl, rfl, rfl, rfl, rfl, rfl, rfl, rfl, trivial⟩
                · have hx74 := ifF hb89 hx74
                  refine WO_pure tbok 17 [(0, .slice a_p0 p0.length c_p0), (1, .int .i64 p1), (2, .int .i64 p2), (6, .slice none 0 0), (7, .slice (some ⟨b2, 0, none⟩) ((List.replicate ((p0.length : Int) : Int).toNat ([] : List Int)).length) c3), (8, .int .i64 s_2), (9, .int .i64 s_6), (10, .int .i64 v_8), (11, .int .i64 s_10), (12, .int .i64 s_11), (26, .slice a24 ((v_4).length) c25), (27, .int .i64 ((v_4).length : Int)), (28, .int .i64 s_6), (37, .int .i64 ((v_9).length : Int)), (38, .int .i64 s_11), (46, .bool false), (49, undef)] rfl ⟨rfl, rfl, rfl, rfl, rfl, rfl, rfl, rfl, rfl, rfl, rfl, rfl, rfl, rfl, rfl, rfl, rfl, trivial⟩ ?_
                  refine WO_skip rfl rfl ?_
                  refine WO_pure tbok 4 [(0, .slice a_p0 p0.length c_p0), (1, .int .i64 p1), (2, .int .i64 p2), (6, .slice none 0 0), (7, .slice (some ⟨b2, 0, none⟩) ((List.replicate ((p0.length : Int) : Int).toNat ([] : List Int)).length) c3), (8, .int .i64 s_2), (9, .int .i64 s_6), (10, .int .i64 v_8), (11, .int .i64 s_10), (12, .int .i64 s_11), (26, .slice a24 ((v_4).length) c25), (27, .int .i64 ((v_4).length : Int)), (28, .int .i64 s_6), (37, .int .i64 ((v_9).length : Int)), (38, .int .i64 s_11), (68, .bool false)] rfl ⟨rfl, rfl, rfl, rfl, rfl, rfl, rfl, rfl, rfl, rfl, rfl, rfl, rfl, rfl, rfl, rfl, trivial⟩ ?_
                  refine WO_tail ?_
                  refine WO_end ?_
                  cases hx74
                  refine WK.sub ?_ (WK.cls (fun _ h => h) hk75)
                  exact ⟨rfl, rfl, rfl, rfl, rfl, rfl, rfl, rfl, rfl, rfl, rfl, rfl, rfl, rfl, rfl, rfl, trivial⟩
            · have hm51 := ifF hb73 hm51
              refine WK_exit rfl ?_
              cases hm51
              refine WK.sub ?_ (WK.cls (fun _ h => h) (hk50 (s_10, ()) (hd55 _ rfl)))
              exact ⟨rfl, rfl, rfl, rfl, rfl, rfl, rfl, rfl, rfl, rfl, rfl, trivial⟩
        · have hm34 := ifF hb40 hm34
          refine WK_exit rfl ?_
          cases hm34
          refine WK.sub ?_ (WK.cls (fun _ h => h) (hk33 (l_5, (vs28, L27)) ⟨(hd38 _ rfl), hL27⟩))
          exact ⟨rfl, rfl, rfl, rfl, rfl, rfl, trivial⟩
    · have hm12 := ifF hb21 hm12
      refine WK_exit rfl ?_
      cases hm12
      refine WK.sub ?_ (WK.cls (fun _ h => h) (hk11 (l_1, (vs6, L5)) ⟨(hd16 _ rfl), hL5⟩))
      exact ⟨rfl, rfl, trivial⟩
def fiduciallaw45_first_Q (r : List Int × Int) : Value → List Ent → Prop := fun v L => ∃ (a0 : Option Addr) (q0 c0 : Nat), v = .tuple #[.slice a0 q0 c0, .int .i64 r.2] ∧ OwnE 3 1 (I1 .i64) (.slice a0 q0 c0) r.1 L
theorem fiduciallaw45_first_walk {m : Mu} {p0 : List (List Int)} {p1 : Int} {p2 : Int} {a_p0 : Option Addr} {q_p0 c_p0 : Nat} (h_p0 : SlR (RowE (FE (I1 .i64)) 1) 1 m (.slice a_p0 q_p0 c_p0) p0) {r : List Int × Int} (hm : fiduciallaw45_first p0 p1 p2 = some r) :
    Go.E.Spec Try.prog 12 [.slice a_p0 q_p0 c_p0, .int .i64 p1, .int .i64 p2] m (fun v _ L => fiduciallaw45_first_Q r v L) := by
  refine Spec_enter Try.func12 rfl rfl rfl (fun w0 => ?_)
  refine WK.sub (e' := [(0, .slice a_p0 q_p0 c_p0), (1, .int .i64 p1), (2, .int .i64 p2)]) ⟨rfl, rfl, rfl, trivial⟩ ?_
  obtain rfl := SlR.qlen h_p0
  refine WK.sub (e' := [(0, .slice a_p0 p0.length c_p0), (1, .int .i64 p1), (2, .int .i64 p2)]) ⟨rfl, rfl, rfl, trivial⟩ ?_
  unfold fiduciallaw45_first at hm
  refine WK_seq ?_
  refine WK_region ?_
  refine WO_pure tbok 2 [(0, .slice a_p0 p0.length c_p0), (1, .int .i64 p1), (2, .int .i64 p2), (6, .slice none 0 0), (7, .int .i64 0)] rfl ⟨rfl, rfl, rfl, rfl, rfl, trivial⟩ ?_
  refine WO_end ?_
  refine WK_seq ?_
  refine WK_region ?_
  refine WO_pure tbok 3 [(0, .slice a_p0 p0.length c_p0), (1, .int .i64 p1), (2, .int .i64 p2), (6, .slice none 0 0), (7, .int .i64 0), (15, .slice a_p0 p0.length c_p0), (16, .int .i64 p1), (17, .int .i64 p2)] rfl ⟨rfl, rfl, rfl, rfl, rfl, rfl, rfl, rfl, trivial⟩ ?_
  obtain ⟨y_1, hc1, hm⟩ := bind_some hm
  refine WO_call2 (fiduciallaw45_least_Q y_1) rfl rfl trivial rfl rfl rfl rfl ⟨38, #[], #[], rfl, callable_38, fiduciallaw45_least_walk h_p0 hc1⟩ (fun v5 m6 L4 hle7 hq => ?_)
  obtain ⟨a2, qa2, c3, rfl, h8⟩ := hq
  obtain rfl := SlR.qlen h8
  refine WO.cls (C' := St w0 m m6 [L4]) (fun _ h => h.sub (by simp)) ?_
  refine WO_pure tbok 1 [(0, .slice a_p0 p0.length c_p0), (1, .int .i64 p1), (2, .int .i64 p2), (6, .slice none 0 0), (7, .int .i64 0), (8, .slice a2 ((y_1).length) c3)] rfl ⟨rfl, rfl, rfl, rfl, rfl, rfl, trivial⟩ ?_
  refine WO_end ?_
  refine WK_seq ?_
  refine WK_region ?_
  refine WO_pure tbok 1 [(0, .slice a_p0 p0.length c_p0), (1, .int .i64 p1), (2, .int .i64 p2), (6, .slice none 0 0), (7, .int .i64 0), (8, .slice a2 ((y_1).length) c3), (19, .slice a2 ((y_1).length) c3)] rfl ⟨rfl, rfl, rfl, rfl, rfl, rfl, rfl, trivial⟩ ?_
  obtain ⟨v_2, hy9, hm⟩ := bind_some hm
  obtain ⟨hc10, hy9⟩ := ix_some hy9
  refine WO_index tbok rfl rfl rfl rfl rfl rfl rfl rfl (SlR.addr h8) hc10 ?_
  refine WO_loadR tbok rfl rfl rfl rfl (fun _ h => St.sat h) h8 hy9 rfl rfl (fun a11 c12 h13 => ?_)
  obtain ⟨y_3, hc14, hm⟩ := bind_some hm
  refine WO_call0 (.int .i64 y_3) rfl rfl trivial rfl rfl rfl rfl St_closed ⟨34, #[], #[], rfl, callable_34, fun w hw => ⟨_, hw.sat, slices_Min_sint_walk h13 hc14⟩⟩ ?_
  refine WO_pure tbok 1 [(0, .slice a_p0 p0.length c_p0), (1, .int .i64 p1), (2, .int .i64 p2), (6, .slice none 0 0), (7, .int .i64 0), (8, .slice a2 ((y_1).length) c3), (9, .int .i64 y_3)] rfl ⟨rfl, rfl, rfl, rfl, rfl, rfl, rfl, trivial⟩ ?_
  refine WO_end ?_
  refine WK_seq ?_
  refine WK_region ?_
  refine WO_pure tbok 1 [(0, .slice a_p0 p0.length c_p0), (1, .int .i64 p1), (2, .int .i64 p2), (6, .slice none 0 0), (7, .int .i64 0), (8, .slice a2 ((y_1).length) c3), (9, .int .i64 y_3), (23, .slice a2 ((y_1).length) c3)] rfl ⟨rfl, rfl, rfl, rfl, rfl, rfl, rfl, rfl, trivial⟩ ?_
  obtain ⟨v_4, hy15, hm⟩ := bind_some hm
  obtain ⟨hc16, hy15⟩ := ix_some hy15
  refine WO_index tbok rfl rfl rfl rfl rfl rfl rfl rfl (SlR.addr h8) hc16 ?_
  refine WO_loadR tbok rfl rfl rfl rfl (fun _ h => St.sat h) h8 hy15 rfl rfl (fun a17 c18 h19 => ?_)
  refine WO_pure tbok 1 [(0, .slice a_p0 p0.length c_p0), (1, .int .i64 p1), (2, .int .i64 p2), (6, .slice none 0 0), (7, .int .i64 0), (8, .slice a2 ((y_1).length) c3), (9, .int .i64 y_3), (25, .slice a17 ((v_4).length) c18), (26, .int .i64 y_3)] rfl ⟨rfl, rfl, rfl, rfl, rfl, rfl, rfl, rfl, rfl, trivial⟩ ?_
  obtain ⟨y_5, hc20, hm⟩ := bind_some hm
  refine WO_call0 (.int .i64 y_5) rfl rfl trivial rfl rfl rfl rfl St_closed ⟨35, #[], #[], rfl, callable_35, fun w hw => ⟨_, hw.sat, slices_Index_sint_walk h19 hc20⟩⟩ ?_
  refine WO_bslice (E := (I1 .i64)) tbok (fun _ => rfl) (by decide) [.int .i64 y_5] ([y_5] : List Int) rfl rfl trivial rfl rfl rfl rfl rfl rfl rfl rfl rfl rfl rfl rfl (fun b21 hb21 => ?_)
  refine WO.cls (C' := St w0 m m6 [L4, [⟨b21, 3, ([y_5] : List Int).flatMap (I1 .i64)⟩]]) (fun _ h => h) ?_
  refine WO_pure tbok 1 [(0, .slice a_p0 p0.length c_p0), (1, .int .i64 p1), (2, .int .i64 p2), (6, .slice none 0 0), (7, .int .i64 0), (8, .slice a2 ((y_1).length) c3), (9, .int .i64 y_3), (10, .slice (some ⟨b21, 0, none⟩) 1 1)] rfl ⟨rfl, rfl, rfl, rfl, rfl, rfl, rfl, rfl, trivial⟩ ?_
  refine WO_end ?_
  refine WK_seq ?_
  refine WK_seq ?_
  refine WK_region ?_
  refine WO_pure tbok 1 [(0, .slice a_p0 p0.length c_p0), (1, .int .i64 p1), (2, .int .i64 p2), (6, .slice none 0 0), (7, .int .i64 0), (8, .slice a2 ((y_1).length) c3), (9, .int .i64 y_3), (10, .slice (some ⟨b21, 0, none⟩) 1 1), (11, .int .i64 1)] rfl ⟨rfl, rfl, rfl, rfl, rfl, rfl, rfl, rfl, rfl, trivial⟩ ?_
  refine WO_end ?_
  obtain ⟨x30, hx31, hm⟩ := bind_some hm
  refine WK_join (β := (List Int) × (Option Addr × Nat × Nat × List Ent)) (fun p => p.1 = x30 ∧ OwnE 3 1 (I1 .i64) (.slice p.2.1 p.2.2.1 p.2.2.2.1) p.1 p.2.2.2.2) (fun p => [(6, .slice none 0 0), (7, .int .i64 0), (9, .int .i64 y_3), (10, .slice p.2.1 p.2.2.1 p.2.2.2.1)]) (fun p => St w0 m m6 [L4, p.2.2.2.2]) ?_ (fun hk32 => ?_)
  · rintro ⟨l_8, ⟨a27, q28, c29, L26⟩⟩ ⟨hq38, hL26⟩
    subst hq38
    have hqq : q28 = l_8.length := OwnE.qlen hL26
    subst hqq
    refine WK.sub (e' := [(6, .slice none 0 0), (7, .int .i64 0), (9, .int .i64 y_3), (10, .slice a27 ((l_8).length) c29)]) ⟨rfl, rfl, rfl, rfl, trivial⟩ (WK.cls (C' := St w0 m m6 [L4, L26]) (fun _ h => h) ?_)
    refine WK_seq ?_
    refine WK_region ?_
    refine WO_pure tbok 4 [(6, .slice a27 ((l_8).length) c29), (7, .int .i64 y_3)] rfl ⟨rfl, rfl, trivial⟩ ?_
    refine WO_end ?_
    cases hm
    exact WK_ret (ret_out (L := L26) (RLc_tmp rfl (RLc_tmp rfl RLc_nil)) (seg_sub 1 rfl) ⟨a27, _, c29, rfl, hL26⟩)
  · refine WK_block ?_
    refine WK_loop (S := List Int × Int) (G := Option Addr × Nat × Nat × List Ent) (fun s => fiduciallaw45_first_s1 p0 p1 p2 y_1 s.1 s.2) (fun s g => [(0, .slice a_p0 p0.length c_p0), (1, .int .i64 p1), (2, .int .i64 p2), (6, .slice none 0 0), (7, .int .i64 0), (8, .slice a2 ((y_1).length) c3), (9, .int .i64 y_3), (10, .slice g.1 g.2.1 g.2.2.1), (11, .int .i64 s.2)]) (fun s g => St w0 m m6 [L4, g.2.2.2]) (fun s g => OwnE 3 1 (I1 .i64) (.slice g.1 g.2.1 g.2.2.1) s.1 g.2.2.2) FUEL (([y_5] : List Int), 1) (some ⟨b21, 0, none⟩, 1, 1, [⟨b21, 3, ([y_5] : List Int).flatMap (I1 .i64)⟩]) x30 hx31 hb21 ⟨rfl, rfl, rfl, rfl, rfl, rfl, rfl, rfl, rfl, trivial⟩ (fun _ h => h) ?_
    rintro ⟨l_6, s_7⟩ ⟨a23, q24, c25, L22⟩ o34 fl35 hm33 hL22 hn36 hd37
    have hm33 : fiduciallaw45_first_s1 p0 p1 p2 y_1 l_6 s_7 = some o34 := hm33
    unfold fiduciallaw45_first_s1 at hm33
    have hqq : q24 = l_6.length := OwnE.qlen hL22
    subst hqq
    refine WK.sub (e' := [(0, .slice a_p0 p0.length c_p0), (1, .int .i64 p1), (2, .int .i64 p2), (6, .slice none 0 0), (7, .int .i64 0), (8, .slice a2 ((y_1).length) c3), (9, .int .i64 y_3), (10, .slice a23 ((l_6).length) c25), (11, .int .i64 s_7)]) ⟨rfl, rfl, rfl, rfl, rfl, rfl, rfl, rfl, rfl, trivial⟩ (WK.cls (C' := St w0 m m6 [L4, L22]) (fun _ h => h) ?_)
    refine WK_seq ?_
    refine WK_seq ?_
    refine WK_region ?_
    refine WO_pure tbok 4 [(0, .slice a_p0 p0.length c_p0), (1, .int .i64 p1), (2, .int .i64 p2), (6, .slice none 0 0), (7, .int .i64 0), (8, .slice a2 ((y_1).length) c3), (9, .int .i64 y_3), (10, .slice a23 ((l_6).length) c25), (11, .int .i64 s_7), (32, .bool (decide (s_7 < (p0.length : Int))))] rfl ⟨rfl, rfl, rfl, rfl, rfl, rfl, rfl, rfl, rfl, rfl, trivial⟩ ?_
    refine WO_end ?_
    refine WK_cond (b := decide (s_7 < (p0.length : Int))) rfl (fun hb39 => ?_) (fun hb39 => ?_)
    · have hm33 := ifT hb39 hm33
      refine WK_skip ?_
      refine WK_seq ?_
      refine WK_block ?_
      refine WK_seq ?_
      refine WK_region ?_
      refine WO_pure tbok 3 [(0, .slice a_p0 p0.length c_p0), (1, .int .i64 p1), (2, .int .i64 p2), (6, .slice none 0 0), (7, .int .i64 0), (8, .slice a2 ((y_1).length) c3), (9, .int .i64 y_3), (10, .slice a23 ((l_6).length) c25), (11, .int .i64 s_7), (35, .slice a23 ((l_6).length) c25), (37, .int .i64 (w64 (s_7 - 1)))] rfl ⟨rfl, rfl, rfl, rfl, rfl, rfl, rfl, rfl, rfl, rfl, rfl, trivial⟩ ?_
      obtain ⟨v_9, hy40, hm33⟩ := bind_some hm33
      obtain ⟨hc41, hy40⟩ := ix_some hy40
      refine WO_index tbok rfl rfl rfl rfl rfl rfl rfl rfl (OwnE.addr hL22) (by simpa using hc41) ?_
      refine WO_loadO (E := (I1 .i64)) tbok (fun _ => rfl) 1 rfl rfl rfl rfl (fun _ h => h) hL22 rfl hy40 rfl ?_
      refine WO_pure tbok 1 [(0, .slice a_p0 p0.length c_p0), (1, .int .i64 p1), (2, .int .i64 p2), (6, .slice none 0 0), (7, .int .i64 0), (8, .slice a2 ((y_1).length) c3), (9, .int .i64 y_3), (10, .slice a23 ((l_6).length) c25), (11, .int .i64 s_7), (12, .int .i64 v_9)] rfl ⟨rfl, rfl, rfl, rfl, rfl, rfl, rfl, rfl, rfl, rfl, trivial⟩ ?_
      refine WO_end ?_
      refine WK_seq ?_
      refine WK_draw 18 [0, 1, 2, 3, 4, 5, 6, 7, 8, 9, 10, 11, 12, 13, 14, 15, 16, 17] follows_ok (by kernel_rfl) St_closed ?_
      refine WO_pure tbok 3 [(0, .slice a_p0 p0.length c_p0), (1, .int .i64 p1), (2, .int .i64 p2), (6, .slice none 0 0), (7, .int .i64 0), (8, .slice a2 ((y_1).length) c3), (9, .int .i64 y_3), (10, .slice a23 ((l_6).length) c25), (11, .int .i64 s_7), (12, .int .i64 v_9), (40, .slice a2 ((y_1).length) c3), (42, .int .i64 (w64 (s_7 - 1)))] rfl ⟨rfl, rfl, rfl, rfl, rfl, rfl, rfl, rfl, rfl, rfl, rfl, rfl, trivial⟩ ?_
      obtain ⟨v_10, hy42, hm33⟩ := bind_some hm33
      obtain ⟨hc43, hy42⟩ := ix_some hy42
      refine WO_index tbok rfl rfl rfl rfl rfl rfl rfl rfl (SlR.addr h8) hc43 ?_
      refine WO_loadR tbok rfl rfl rfl rfl (fun _ h => St.sat h) h8 hy42 rfl rfl (fun a44 c45 h46 => ?_)
      refine WO_pure tbok 1 [(0, .slice a_p0 p0.length c_p0), (1, .int .i64 p1), (2, .int .i64 p2), (6, .slice none 0 0), (7, .int .i64 0), (8, .slice a2 ((y_1).length) c3), (9, .int .i64 y_3), (10, .slice a23 ((l_6).length) c25), (11, .int .i64 s_7), (12, .int .i64 v_9), (44, .slice a44 ((v_10).length) c45), (45, .int .i64 v_9)] rfl ⟨rfl, rfl, rfl, rfl, rfl, rfl, rfl, rfl, rfl, rfl, rfl, rfl, trivial⟩ ?_
      obtain ⟨v_11, hy47, hm33⟩ := bind_some hm33
      obtain ⟨hc48, hy47⟩ := ix_some hy47
      refine WO_index tbok rfl rfl rfl rfl rfl rfl rfl rfl (SlR.addr h46) hc48 ?_
      refine WO_loadE tbok rfl rfl rfl rfl (fun _ h => St.sat h) h46 hy47 rfl ?_
      refine WO_pure tbok 3 [(0, .slice a_p0 p0.length c_p0), (1, .int .i64 p1), (2, .int .i64 p2), (6, .slice none 0 0), (7, .int .i64 0), (8, .slice a2 ((y_1).length) c3), (9, .int .i64 y_3), (10, .slice a23 ((l_6).length) c25), (11, .int .i64 s_7), (12, .int .i64 v_9), (47, .int .i64 v_11), (48, .slice a_p0 p0.length c_p0), (50, .int .i64 (w64 (s_7 - 1)))] rfl ⟨rfl, rfl, rfl, rfl, rfl, rfl, rfl, rfl, rfl, rfl, rfl, rfl, rfl, trivial⟩ ?_
      obtain ⟨v_12, hy49, hm33⟩ := bind_some hm33
      obtain ⟨hc50, hy49⟩ := ix_some hy49
      refine WO_index tbok rfl rfl rfl rfl rfl rfl rfl rfl (SlR.addr (h_p0.mono (mono_RowE (mono_FE _) _) hle7)) hc50 ?_
      refine WO_loadR tbok rfl rfl rfl rfl (fun _ h => St.sat h) (h_p0.mono (mono_RowE (mono_FE _) _) hle7) hy49 rfl rfl (fun a51 c52 h53 => ?_)
      refine WO_pure tbok 1 [(0, .slice a_p0 p0.length c_p0), (1, .int .i64 p1), (2, .int .i64 p2), (6, .slice none 0 0), (7, .int .i64 0), (8, .slice a2 ((y_1).length) c3), (9, .int .i64 y_3), (10, .slice a23 ((l_6).length) c25), (11, .int .i64 s_7), (12, .int .i64 v_9), (47, .int .i64 v_11), (52, .slice a51 ((v_12).length) c52), (53, .int .i64 v_9)] rfl ⟨rfl, rfl, rfl, rfl, rfl, rfl, rfl, rfl, rfl, rfl, rfl, rfl, rfl, trivial⟩ ?_
      obtain ⟨v_13, hy54, hm33⟩ := bind_some hm33
      obtain ⟨hc55, hy54⟩ := ix_some hy54
      refine WO_index tbok rfl rfl rfl rfl rfl rfl rfl rfl (SlR.addr h53) hc55 ?_
      refine WO_loadE tbok rfl rfl rfl rfl (fun _ h => St.sat h) h53 hy54 rfl ?_
      refine WO_pure tbok 2 [(0, .slice a_p0 p0.length c_p0), (1, .int .i64 p1), (2, .int .i64 p2), (6, .slice none 0 0), (7, .int .i64 0), (8, .slice a2 ((y_1).length) c3), (9, .int .i64 y_3), (10, .slice a23 ((l_6).length) c25), (11, .int .i64 s_7), (12, .int .i64 v_9), (13, .int .i64 (w64 (v_11 - v_13)))] rfl ⟨rfl, rfl, rfl, rfl, rfl, rfl, rfl, rfl, rfl, rfl, rfl, trivial⟩ ?_
      refine WO_tail ?_
      refine WO_end ?_
      refine WK_seq ?_
      refine WK_region ?_
      refine WO_pure tbok 2 [(0, .slice a_p0 p0.length c_p0), (1, .int .i64 p1), (2, .int .i64 p2), (6, .slice none 0 0), (7, .int .i64 0), (8, .slice a2 ((y_1).length) c3), (9, .int .i64 y_3), (10, .slice a23 ((l_6).length) c25), (11, .int .i64 s_7), (12, .int .i64 v_9), (13, .int .i64 (w64 (v_11 - v_13))), (57, .slice a_p0 p0.length c_p0), (58, .int .i64 s_7)] rfl ⟨rfl, rfl, rfl, rfl, rfl, rfl, rfl, rfl, rfl, rfl, rfl, rfl, rfl, trivial⟩ ?_
      obtain ⟨v_14, hy56, hm33⟩ := bind_some hm33
      obtain ⟨hc57, hy56⟩ := ix_some hy56
      refine WO_index tbok rfl rfl rfl rfl rfl rfl rfl rfl (SlR.addr (h_p0.mono (mono_RowE (mono_FE _) _) hle7)) hc57 ?_
      refine WO_loadR tbok rfl rfl rfl rfl (fun _ h => St.sat h) (h_p0.mono (mono_RowE (mono_FE _) _) hle7) hy56 rfl rfl (fun a58 c59 h60 => ?_)
      refine WO_pure tbok 2 [(0, .slice a_p0 p0.length c_p0), (1, .int .i64 p1), (2, .int .i64 p2), (6, .slice none 0 0), (7, .int .i64 0), (8, .slice a2 ((y_1).length) c3), (9, .int .i64 y_3), (10, .slice a23 ((l_6).length) c25), (11, .int .i64 s_7), (12, .int .i64 v_9), (13, .int .i64 (w64 (v_11 - v_13))), (61, .int .i64 ((v_14).length : Int)), (62, .int .i64 0)] rfl ⟨rfl, rfl, rfl, rfl, rfl, rfl, rfl, rfl, rfl, rfl, rfl, rfl, rfl, trivial⟩ ?_
      refine WO_end ?_
      obtain ⟨x69, hx70, hm33⟩ := bind_some hm33
      refine WK_join (β := (List Int) × (Option Addr × Nat × Nat × List Ent)) (fun p => p.1 = x69 ∧ OwnE 3 1 (I1 .i64) (.slice p.2.1 p.2.2.1 p.2.2.2.1) p.1 p.2.2.2.2) (fun p => [(0, .slice a_p0 p0.length c_p0), (1, .int .i64 p1), (2, .int .i64 p2), (6, .slice none 0 0), (7, .int .i64 0), (8, .slice a2 ((y_1).length) c3), (9, .int .i64 y_3), (10, .slice p.2.1 p.2.2.1 p.2.2.2.1), (11, .int .i64 s_7)]) (fun p => St w0 m m6 [L4, p.2.2.2.2]) ?_ (fun hk71 => ?_)
      · rintro ⟨l_17, ⟨a66, q67, c68, L65⟩⟩ ⟨hq77, hL65⟩
        subst hq77
        have hqq : q67 = l_17.length := OwnE.qlen hL65
        subst hqq
        refine WK.sub (e' := [(0, .slice a_p0 p0.length c_p0), (1, .int .i64 p1), (2, .int .i64 p2), (6, .slice none 0 0), (7, .int .i64 0), (8, .slice a2 ((y_1).length) c3), (9, .int .i64 y_3), (10, .slice a66 ((l_17).length) c68), (11, .int .i64 s_7)]) ⟨rfl, rfl, rfl, rfl, rfl, rfl, rfl, rfl, rfl, trivial⟩ (WK.cls (C' := St w0 m m6 [L4, L65]) (fun _ h => h) ?_)
        refine WK_blk ?_
        refine WK_region ?_
        refine WO_pure tbok 3 [(0, .slice a_p0 p0.length c_p0), (1, .int .i64 p1), (2, .int .i64 p2), (6, .slice none 0 0), (7, .int .i64 0), (8, .slice a2 ((y_1).length) c3), (9, .int .i64 y_3), (10, .slice a66 ((l_17).length) c68), (11, .int .i64 (w64 (s_7 + 1)))] rfl ⟨rfl, rfl, rfl, rfl, rfl, rfl, rfl, rfl, rfl, trivial⟩ ?_
        refine WO_end ?_
        cases hm33
        refine WK.sub ?_ (WK.cls (fun _ h => h) (hn36 _ (a66, _, c68, L65) rfl hL65))
        exact ⟨rfl, rfl, rfl, rfl, rfl, rfl, rfl, rfl, rfl, trivial⟩
      · refine WK_block ?_
        refine WK_loop (S := List Int × Int) (G := Option Addr × Nat × Nat × List Ent) (fun s => fiduciallaw45_first_s2 p1 p2 y_1 s_7 v_9 v_11 v_13 v_14 s.1 s.2) (fun s g => [(0, .slice a_p0 p0.length c_p0), (1, .int .i64 p1), (2, .int .i64 p2), (6, .slice none 0 0), (7, .int .i64 0), (8, .slice a2 ((y_1).length) c3), (9, .int .i64 y_3), (10, .slice g.1 g.2.1 g.2.2.1), (11, .int .i64 s_7), (12, .int .i64 v_9), (13, .int .i64 (w64 (v_11 - v_13))), (61, .int .i64 ((v_14).length : Int)), (62, .int .i64 s.2)]) (fun s g => St w0 m m6 [L4, g.2.2.2]) (fun s g => OwnE 3 1 (I1 .i64) (.slice g.1 g.2.1 g.2.2.1) s.1 g.2.2.2) FUEL (l_6, 0) (a23, _, c25, L22) x69 hx70 hL22 ⟨rfl, rfl, rfl, rfl, rfl, rfl, rfl, rfl, rfl, rfl, rfl, rfl, rfl, trivial⟩ (fun _ h => h) ?_
        rintro ⟨l_15, s_16⟩ ⟨a62, q63, c64, L61⟩ o73 fl74 hm72 hL61 hn75 hd76
        have hm72 : fiduciallaw45_first_s2 p1 p2 y_1 s_7 v_9 v_11 v_13 v_14 l_15 s_16 = some o73 := hm72
        unfold fiduciallaw45_first_s2 at hm72
        have hqq : q63 = l_15.length := OwnE.qlen hL61
        subst hqq
        refine WK.sub (e' := [(0, .slice a_p0 p0.length c_p0), (1, .int .i64 p1), (2, .int .i64 p2), (6, .slice none 0 0), (7, .int .i64 0), (8, .slice a2 ((y_1).length) c3), (9, .int .i64 y_3), (10, .slice a62 ((l_15).length) c64), (11, .int .i64 s_7), (12, .int .i64 v_9), (13, .int .i64 (w64 (v_11 - v_13))), (61, .int .i64 ((v_14).length : Int)), (62, .int .i64 s_16)]) ⟨rfl, rfl, rfl, rfl, rfl, rfl, rfl, rfl, rfl, rfl, rfl, rfl, rfl, trivial⟩ (WK.cls (C' := St w0 m m6 [L4, L61]) (fun _ h => h) ?_)
        refine WK_seq ?_
        refine WK_region ?_
        refine WO_pure tbok 1 [(0, .slice a_p0 p0.length c_p0), (1, .int .i64 p1), (2, .int .i64 p2), (6, .slice none 0 0), (7, .int .i64 0), (8, .slice a2 ((y_1).length) c3), (9, .int .i64 y_3), (10, .slice a62 ((l_15).length) c64), (11, .int .i64 s_7), (12, .int .i64 v_9), (13, .int .i64 (w64 (v_11 - v_13))), (61, .int .i64 ((v_14).length : Int)), (62, .int .i64 s_16), (63, .bool (decide (s_16 < ((v_14).length : Int))))] rfl ⟨rfl, rfl, rfl, rfl, rfl, rfl, rfl, rfl, rfl, rfl, rfl, rfl, rfl, rfl, trivial⟩ ?_
        refine WO_end ?_
        refine WK_seq ?_
        refine WK_cond (b := decide (s_16 < ((v_14).length : Int))) rfl (fun hb78 => ?_) (fun hb78 => ?_)
        · have hm72 := ifT hb78 hm72
          refine WK_skip ?_
          refine WK_seq ?_
          refine WK_block ?_
          refine WK_seq ?_
          refine WK_region ?_
          refine WO_pure tbok 2 [(0, .slice a_p0 p0.length c_p0), (1, .int .i64 p1), (2, .int .i64 p2), (6, .slice none 0 0), (7, .int .i64 0), (8, .slice a2 ((y_1).length) c3), (9, .int .i64 y_3), (10, .slice a62 ((l_15).length) c64), (11, .int .i64 s_7), (12, .int .i64 v_9), (13, .int .i64 (w64 (v_11 - v_13))), (14, .int .i64 s_16), (61, .int .i64 ((v_14).length : Int)), (62, .int .i64 s_16)] rfl ⟨rfl, rfl, rfl, rfl, rfl, rfl, rfl, rfl, rfl, rfl, rfl, rfl, rfl, rfl, trivial⟩ ?_
          refine WO_end ?_
          refine WK_seq ?_
          refine WK_draw 16 [0, 1, 2, 3, 4, 5, 6, 7, 8, 9, 10, 11, 14, 12, 13, 15] follows_ok (by kernel_rfl) St_closed ?_
          refine WO_pure tbok 2 [(0, .slice a_p0 p0.length c_p0), (1, .int .i64 p1), (2, .int .i64 p2), (6, .slice none 0 0), (7, .int .i64 0), (8, .slice a2 ((y_1).length) c3), (9, .int .i64 y_3), (10, .slice a62 ((l_15).length) c64), (11, .int .i64 s_7), (12, .int .i64 v_9), (13, .int .i64 (w64 (v_11 - v_13))), (14, .int .i64 s_16), (61, .int .i64 ((v_14).length : Int)), (62, .int .i64 s_16), (65, .slice a2 ((y_1).length) c3), (66, .int .i64 s_7)] rfl ⟨rfl, rfl, rfl, rfl, rfl, rfl, rfl, rfl, rfl, rfl, rfl, rfl, rfl, rfl, rfl, rfl, trivial⟩ ?_
          obtain ⟨v_18, hy79, hm72⟩ := bind_some hm72
          obtain ⟨hc80, hy79⟩ := ix_some hy79
          refine WO_index tbok rfl rfl rfl rfl rfl rfl rfl rfl (SlR.addr h8) hc80 ?_
          refine WO_loadR tbok rfl rfl rfl rfl (fun _ h => St.sat h) h8 hy79 rfl rfl (fun a81 c82 h83 => ?_)
          refine WO_pure tbok 1 [(0, .slice a_p0 p0.length c_p0), (1, .int .i64 p1), (2, .int .i64 p2), (6, .slice none 0 0), (7, .int .i64 0), (8, .slice a2 ((y_1).length) c3), (9, .int .i64 y_3), (10, .slice a62 ((l_15).length) c64), (11, .int .i64 s_7), (12, .int .i64 v_9), (13, .int .i64 (w64 (v_11 - v_13))), (14, .int .i64 s_16), (61, .int .i64 ((v_14).length : Int)), (62, .int .i64 s_16), (68, .slice a81 ((v_18).length) c82), (69, .int .i64 s_16)] rfl ⟨rfl, rfl, rfl, rfl, rfl, rfl, rfl, rfl, rfl, rfl, rfl, rfl, rfl, rfl, rfl, rfl, trivial⟩ ?_
          obtain ⟨v_19, hy84, hm72⟩ := bind_some hm72
          obtain ⟨hc85, hy84⟩ := ix_some hy84
          refine WO_index tbok rfl rfl rfl rfl rfl rfl rfl rfl (SlR.addr h83) hc85 ?_
          refine WO_loadE tbok rfl rfl rfl rfl (fun _ h => St.sat h) h83 hy84 rfl ?_
          refine WO_pure tbok 6 [(0, .slice a_p0 p0.length c_p0), (1, .int .i64 p1), (2, .int .i64 p2), (6, .slice none 0 0), (7, .int .i64 0), (8, .slice a2 ((y_1).length) c3), (9, .int .i64 y_3), (10, .slice a62 ((l_15).length) c64), (11, .int .i64 s_7), (12, .int .i64 v_9), (13, .int .i64 (w64 (v_11 - v_13))), (14, .int .i64 s_16), (61, .int .i64 ((v_14).length : Int)), (62, .int .i64 s_16), (71, .int .i64 v_19), (74, .int .i64 (w64 (s_16 - v_9))), (75, .int .i64 p1), (76, .int .i64 p2), (79, .int .i64 (w64 (v_11 - v_13)))] rfl ⟨rfl, rfl, rfl, rfl, rfl, rfl, rfl, rfl, rfl, rfl, rfl, rfl, rfl, rfl, rfl, rfl, rfl, rfl, rfl, trivial⟩ ?_
          obtain ⟨y_20, hc86, hm72⟩ := bind_some hm72
          refine WO_call0 (.int .i64 y_20) rfl rfl St_closed rfl rfl rfl rfl St_closed ⟨39, #[], #[], rfl, callable_39, fun w hw => ⟨_, hw.sat, fiduciallaw45_jump_walk hc86⟩⟩ ?_
          refine WO_pure tbok 2 [(0, .slice a_p0 p0.length c_p0), (1, .int .i64 p1), (2, .int .i64 p2), (6, .slice none 0 0), (7, .int .i64 0), (8, .slice a2 ((y_1).length) c3), (9, .int .i64 y_3), (10, .slice a62 ((l_15).length) c64), (11, .int .i64 s_7), (12, .int .i64 v_9), (13, .int .i64 (w64 (v_11 - v_13))), (14, .int .i64 s_16), (61, .int .i64 ((v_14).length : Int)), (62, .int .i64 s_16), (80, .bool ((w64 (v_19 + y_20)) == (w64 (v_11 - v_13))))] rfl ⟨rfl, rfl, rfl, rfl, rfl, rfl, rfl, rfl, rfl, rfl, rfl, rfl, rfl, rfl, rfl, trivial⟩ ?_
          refine WO_tail ?_
          refine WO_end ?_
          refine WK_cond (b := (w64 (v_19 + y_20)) == (w64 (v_11 - v_13))) rfl (fun hb87 => ?_) (fun hb87 => ?_)
          · have hm72 := ifT hb87 hm72
            refine WK_seq ?_
            refine WK_region ?_
            refine WO_pure tbok 2 [(0, .slice a_p0 p0.length c_p0), (1, .int .i64 p1), (2, .int .i64 p2), (6, .slice none 0 0), (7, .int .i64 0), (8, .slice a2 ((y_1).length) c3), (9, .int .i64 y_3), (10, .slice a62 ((l_15).length) c64), (11, .int .i64 s_7), (12, .int .i64 v_9), (13, .int .i64 (w64 (v_11 - v_13))), (61, .int .i64 ((v_14).length : Int)), (62, .int .i64 s_16), (81, .slice a62 ((l_15).length) c64), (82, .int .i64 s_16)] rfl ⟨rfl, rfl, rfl, rfl, rfl, rfl, rfl, rfl, rfl, rfl, rfl, rfl, rfl, rfl, rfl, trivial⟩ ?_
            refine WO_bslice (E := (I1 .i64)) tbok (fun _ => rfl) (by decide) [.int .i64 s_16] ([s_16] : List Int) rfl rfl trivial rfl rfl rfl rfl rfl rfl rfl rfl rfl rfl rfl rfl (fun b88 hb88 => ?_)
            refine WO.cls (C' := St w0 m m6 [L4, L61, [⟨b88, 3, ([s_16] : List Int).flatMap (I1 .i64)⟩]]) (fun _ h => h) ?_
            obtain ⟨hc89, hm72⟩ := chk_some hm72
            refine WO_append (E := (I1 .i64)) tbok (fun _ => rfl) 1 ([s_16] : List Int) (fun _ _ => rfl) rfl rfl rfl rfl rfl rfl rfl rfl rfl rfl rfl rfl hL61 rfl (src_seg (j := 2) rfl) (ap_ok (by decide) hc89) (ap_max hc89) (fun a90 c91 L92 hL92 => ?_)
            refine WO.cls (C' := St w0 m m6 [L4, L92, [⟨b88, 3, ([s_16] : List Int).flatMap (I1 .i64)⟩]]) (fun _ h => h) ?_
            refine WO_pure tbok 1 [(0, .slice a_p0 p0.length c_p0), (1, .int .i64 p1), (2, .int .i64 p2), (6, .slice none 0 0), (7, .int .i64 0), (8, .slice a2 ((y_1).length) c3), (9, .int .i64 y_3), (10, .slice a90 ((l_15 ++ ([s_16] : List Int)).length) c91), (11, .int .i64 s_7), (12, .int .i64 v_9), (13, .int .i64 (w64 (v_11 - v_13))), (61, .int .i64 ((v_14).length : Int)), (62, .int .i64 s_16)] rfl ⟨rfl, rfl, rfl, rfl, rfl, rfl, rfl, rfl, rfl, rfl, rfl, rfl, rfl, trivial⟩ ?_
            refine WO_end ?_
            refine WK_exit rfl ?_
            cases hm72
            refine WK.sub ?_ (WK.cls (fun _ h => St.take 2 h) (hk71 ((l_15 ++ ([s_16] : List Int)), (a90, (l_15 ++ ([s_16] : List Int)).length, c91, L92)) ⟨(hd76 _ rfl), hL92⟩))
            exact ⟨rfl, rfl, rfl, rfl, rfl, rfl, rfl, rfl, rfl, trivial⟩
          · have hm72 := ifF hb87 hm72
            refine WK_skip ?_
            refine WK_blk ?_
            refine WK_region ?_
            refine WO_pure tbok 2 [(0, .slice a_p0 p0.length c_p0), (1, .int .i64 p1), (2, .int .i64 p2), (6, .slice none 0 0), (7, .int .i64 0), (8, .slice a2 ((y_1).length) c3), (9, .int .i64 y_3), (10, .slice a62 ((l_15).length) c64), (11, .int .i64 s_7), (12, .int .i64 v_9), (13, .int .i64 (w64 (v_11 - v_13))), (61, .int .i64 ((v_14).length : Int)), (62, .int .i64 (w64 (s_16 + 1)))] rfl ⟨rfl, rfl, rfl, rfl, rfl, rfl, rfl, rfl, rfl, rfl, rfl, rfl, rfl, trivial⟩ ?_
            refine WO_end ?_
            cases hm72
            refine WK.sub ?_ (WK.cls (fun _ h => h) (hn75 _ (a62, _, c64, L61) rfl hL61))
            exact ⟨rfl, rfl, rfl, rfl, rfl, rfl, rfl, rfl, rfl, rfl, rfl, rfl, rfl, trivial⟩
        · have hm72 := ifF hb78 hm72
          refine WK_exit rfl ?_
          cases hm72
          refine WK.sub ?_ (WK.cls (fun _ h => h) (hk71 (l_15, (a62, _, c64, L61)) ⟨(hd76 _ rfl), hL61⟩))
          exact ⟨rfl, rfl, rfl, rfl, rfl, rfl, rfl, rfl, rfl, trivial⟩
    · have hm33 := ifF hb39 hm33
      refine WK_exit rfl ?_
      cases hm33
      refine WK.sub ?_ (WK.cls (fun _ h => h) (hk32 (l_6, (a23, _, c25, L22)) ⟨(hd37 _ rfl), hL22⟩))
      exact ⟨rfl, rfl, rfl, rfl, trivial⟩
end Go.Proofs.Ytgakaghdiodakaa
