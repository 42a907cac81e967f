import Derived.Test.YtgakaghdiodakaaTab
import Derived.Test.YtgakaghdiodakaaM
import Derived.Test.YtgakaghdiodakaaW1
set_option linter.unusedVariables false
set_option maxRecDepth 100000
set_option maxHeartbeats 4000000
namespace Go.Proofs.Ytgakaghdiodakaa
open Go.E Go.RowKit
attribute [local irreducible] Go.E.WO Go.E.WK
theorem aggregate_Prove_walk {m : Mu} {p0 : List (List Int)} {p1 : Int} {p2 : Int} {p3 : List (List Int)} {p4 : Int} {a_p0 : Option Addr} {q_p0 c_p0 : Nat} {a_p3 : Option Addr} {q_p3 c_p3 : Nat} (h_p0 : SlR (RowE (FE (I1 .i64)) 1) 1 m (.slice a_p0 q_p0 c_p0) p0) (h_p3 : SlR (RowE (FE (I1 .i64)) 1) 1 m (.slice a_p3 q_p3 c_p3) p3) {r : Int} (hm : aggregate_Prove p0 p1 p2 p3 p4 = some r) :
    Go.E.Spec Try.prog 15 [.slice a_p0 q_p0 c_p0, .int .i64 p1, .int .i64 p2, .slice a_p3 q_p3 c_p3, .int .i64 p4] m (fun v _ _ => v = .int .i64 r) := by
  refine Spec_enter Try.func15 rfl rfl rfl (fun w0 => ?_)
  refine WK.sub (e' := [(0, .slice a_p0 q_p0 c_p0), (1, .int .i64 p1), (2, .int .i64 p2), (3, .slice a_p3 q_p3 c_p3), (4, .int .i64 p4)]) ⟨rfl, rfl, rfl, rfl, rfl, trivial⟩ ?_
  obtain rfl := SlR.qlen h_p0
  obtain rfl := SlR.qlen h_p3
  refine WK.sub (e' := [(0, .slice a_p0 p0.length c_p0), (1, .int .i64 p1), (2, .int .i64 p2), (3, .slice a_p3 p3.length c_p3), (4, .int .i64 p4)]) ⟨rfl, rfl, rfl, rfl, rfl, trivial⟩ ?_
  unfold aggregate_Prove at hm
  refine WK_seq ?_
  refine WK_region ?_
  refine WO_box [.slice a_p0 p0.length c_p0] rfl rfl trivial rfl rfl rfl (fun b3 => ?_)
  refine WO.cls (C' := St w0 m m [[⟨b3, 22, [.slice a_p0 p0.length c_p0]⟩]]) (fun _ h => h) ?_
  refine WO_pure tbok 1 [(1, .int .i64 p1), (2, .int .i64 p2), (3, .slice a_p3 p3.length c_p3), (4, .int .i64 p4), (5, .pointer (some ⟨b3, 0, none⟩)), (10, .int .i64 0)] rfl ⟨rfl, rfl, rfl, rfl, rfl, rfl, trivial⟩ ?_
  refine WO_end ?_
  refine WK_seq ?_
  refine WK_seq ?_
  refine WK_region ?_
  refine WO_loadB tbok 0 rfl rfl rfl rfl (fun _ h => h) rfl rfl ?_
  refine WO_pure tbok 2 [(1, .int .i64 p1), (2, .int .i64 p2), (3, .slice a_p3 p3.length c_p3), (4, .int .i64 p4), (5, .pointer (some ⟨b3, 0, none⟩)), (10, .int .i64 0), (19, .slice a_p0 p0.length c_p0), (20, .int .i64 p1), (21, .int .i64 p2)] rfl ⟨rfl, rfl, rfl, rfl, rfl, rfl, rfl, rfl, rfl, trivial⟩ ?_
  obtain ⟨y_1, hc4, hm⟩ := bind_some hm
  refine WO_call0 (.int .i64 y_1) rfl rfl trivial rfl rfl rfl rfl St_closed ⟨31, #[], #[], rfl, callable_31, fun w hw => ⟨_, hw.sat, aggregate_checked_walk h_p0 hc4⟩⟩ ?_
  refine WO_pure tbok 1 [(1, .int .i64 p1), (2, .int .i64 p2), (3, .slice a_p3 p3.length c_p3), (4, .int .i64 p4), (5, .pointer (some ⟨b3, 0, none⟩)), (10, .int .i64 0), (11, .int .i64 y_1)] rfl ⟨rfl, rfl, rfl, rfl, rfl, rfl, rfl, trivial⟩ ?_
  refine WO_end ?_
  refine WK_seq ?_
  refine WK_region ?_
  refine WO_pure tbok 2 [(1, .int .i64 p1), (2, .int .i64 p2), (3, .slice a_p3 p3.length c_p3), (4, .int .i64 p4), (5, .pointer (some ⟨b3, 0, none⟩)), (10, .int .i64 0), (11, .int .i64 y_1), (24, .bool (y_1 != 0))] rfl ⟨rfl, rfl, rfl, rfl, rfl, rfl, rfl, rfl, trivial⟩ ?_
  refine WO_end ?_
  refine WK_cond (b := y_1 != 0) rfl (fun hb5 => ?_) (fun hb5 => ?_)
  · have hm := ifT hb5 hm
    refine WK_seq ?_
    refine WK_region ?_
    refine WO_pure tbok 2 [(1, .int .i64 p1), (2, .int .i64 p2), (3, .slice a_p3 p3.length c_p3), (4, .int .i64 p4), (5, .pointer (some ⟨b3, 0, none⟩)), (10, .int .i64 y_1)] rfl ⟨rfl, rfl, rfl, rfl, rfl, rfl, trivial⟩ ?_
    refine WO_end ?_
    cases hm
    exact WK_ret (ret_out (L := []) (RLc_tmp rfl RLc_nil) (List.nil_sublist _) rfl)
  · have hm := ifF hb5 hm
    refine WK_skip ?_
    refine WK_seq ?_
    refine WK_seq ?_
    obtain ⟨s_2, hx6, hm⟩ := bind_some hm
    refine WK_meet [(1, .int .i64 p1), (2, .int .i64 p2), (3, .slice a_p3 p3.length c_p3), (4, .int .i64 p4), (5, .pointer (some ⟨b3, 0, none⟩)), (10, .int .i64 0), (35, .bool s_2)] (St w0 m m [[⟨b3, 22, [.slice a_p0 p0.length c_p0]⟩]]) ?_ (fun hk7 => ?_)
    · refine WK_cond (b := s_2) rfl (fun hb8 => ?_) (fun hb8 => ?_)
      · have hm := ifT hb8 hm
        refine WK_seq ?_
        refine WK_region ?_
        refine WO_pure tbok 1 [(1, .int .i64 p1), (2, .int .i64 p2), (3, .slice a_p3 p3.length c_p3), (4, .int .i64 p4), (5, .pointer (some ⟨b3, 0, none⟩)), (10, .int .i64 4)] rfl ⟨rfl, rfl, rfl, rfl, rfl, rfl, trivial⟩ ?_
        refine WO_end ?_
        cases hm
        exact WK_ret (ret_out (L := []) (RLc_tmp rfl RLc_nil) (List.nil_sublist _) rfl)
      · have hm := ifF hb8 hm
        refine WK_skip ?_
        refine WK_seq ?_
        refine WK_seq ?_
        refine WK_region ?_
        refine WO_pure tbok 3 [(1, .int .i64 p1), (2, .int .i64 p2), (3, .slice a_p3 p3.length c_p3), (4, .int .i64 p4), (5, .pointer (some ⟨b3, 0, none⟩)), (10, .int .i64 0), (36, .slice a_p3 p3.length c_p3), (37, .int .i64 (p3.length : Int)), (38, .int .i64 0)] rfl ⟨rfl, rfl, rfl, rfl, rfl, rfl, rfl, rfl, rfl, trivial⟩ ?_
        refine WO_end ?_
        obtain ⟨x9, hx10, hm⟩ := bind_some hm
        refine WK_join (β := Unit × Unit) (fun p => Sum.inr p.1 = x9) (fun p => [(1, .int .i64 p1), (2, .int .i64 p2), (3, .slice a_p3 p3.length c_p3), (4, .int .i64 p4), (5, .pointer (some ⟨b3, 0, none⟩)), (10, .int .i64 0)]) (fun p => St w0 m m [[⟨b3, 22, [.slice a_p0 p0.length c_p0]⟩]]) ?_ (fun hk11 => ?_)
        · rintro ⟨⟨⟩, ⟨⟩⟩ hq17
          subst hq17
          refine WK.sub (e' := [(1, .int .i64 p1), (2, .int .i64 p2), (3, .slice a_p3 p3.length c_p3), (4, .int .i64 p4), (5, .pointer (some ⟨b3, 0, none⟩)), (10, .int .i64 0)]) ⟨rfl, rfl, rfl, rfl, rfl, rfl, trivial⟩ (WK.cls (C' := St w0 m m [[⟨b3, 22, [.slice a_p0 p0.length c_p0]⟩]]) (fun _ h => h) ?_)
          refine WK_seq ?_
          refine WK_seq ?_
          refine WK_region ?_
          refine WO_pure tbok 3 [(1, .int .i64 p1), (2, .int .i64 p2), (3, .slice a_p3 p3.length c_p3), (4, .int .i64 p4), (5, .pointer (some ⟨b3, 0, none⟩)), (10, .int .i64 0), (51, .slice a_p3 p3.length c_p3), (52, .int .i64 (p3.length : Int)), (53, .int .i64 0)] rfl ⟨rfl, rfl, rfl, rfl, rfl, rfl, rfl, rfl, rfl, trivial⟩ ?_
          refine WO_end ?_
          obtain ⟨x18, hx19, hm⟩ := bind_some hm
          refine WK_join (β := Unit × Unit) (fun p => Sum.inr p.1 = x18) (fun p => [(3, .slice a_p3 p3.length c_p3), (4, .int .i64 p4), (10, .int .i64 0)]) (fun p => St w0 m m [[⟨b3, 22, [.slice a_p0 p0.length c_p0]⟩]]) ?_ (fun hk20 => ?_)
          · rintro ⟨⟨⟩, ⟨⟩⟩ hq26
            subst hq26
            refine WK.sub (e' := [(3, .slice a_p3 p3.length c_p3), (4, .int .i64 p4), (10, .int .i64 0)]) ⟨rfl, rfl, rfl, trivial⟩ (WK.cls (C' := St w0 m m [[⟨b3, 22, [.slice a_p0 p0.length c_p0]⟩]]) (fun _ h => h) ?_)
            refine WK_seq ?_
            refine WK_seq ?_
            refine WK_region ?_
            refine WO_pure tbok 4 [(4, .int .i64 p4), (10, .int .i64 0), (94, .slice a_p3 p3.length c_p3), (97, .int .i64 (w64 ((p3.length : Int) - 1)))] rfl ⟨rfl, rfl, rfl, rfl, trivial⟩ ?_
            obtain ⟨v_5, hy27, hm⟩ := bind_some hm
            obtain ⟨hc28, hy27⟩ := ix_some hy27
            refine WO_index tbok rfl rfl rfl rfl rfl rfl rfl rfl (SlR.addr h_p3) hc28 ?_
            refine WO_loadR tbok rfl rfl rfl rfl (fun _ h => St.sat h) h_p3 hy27 rfl rfl (fun a29 c30 h31 => ?_)
            obtain ⟨y_6, hc33, hm⟩ := bind_some hm
            refine WO_call0 (.int .i64 y_6) rfl rfl trivial rfl rfl rfl rfl St_closed ⟨34, #[], #[], rfl, callable_34, fun w hw => ⟨_, hw.sat, slices_Min_sint_walk h31 hc33⟩⟩ ?_
            refine WO_pure tbok 2 [(10, .int .i64 0), (102, .bool (decide (y_6 < p4)))] rfl ⟨rfl, rfl, trivial⟩ ?_
            refine WO_end ?_
            refine WK_cond (b := decide (y_6 < p4)) rfl (fun hb34 => ?_) (fun hb34 => ?_)
            · have hm := ifT hb34 hm
              refine WK_seq ?_
              refine WK_region ?_
              refine WO_pure tbok 1 [(10, .int .i64 12)] rfl ⟨rfl, trivial⟩ ?_
              refine WO_end ?_
              cases hm
              exact WK_ret (ret_out (L := []) (RLc_tmp rfl RLc_nil) (List.nil_sublist _) rfl)
            · have hm := ifF hb34 hm
              refine WK_skip ?_
              refine WK_seq ?_
              refine WK_region ?_
              refine WO_pure tbok 1 [(10, .int .i64 0)] rfl ⟨rfl, trivial⟩ ?_
              refine WO_end ?_
              cases hm
              exact WK_ret (ret_out (L := []) (RLc_tmp rfl RLc_nil) (List.nil_sublist _) rfl)
          · refine WK_block ?_
            refine WK_loop (S := Int) (G := Unit) (fun s => aggregate_Prove_s2 p0 p1 p2 p3 s) (fun s g => [(1, .int .i64 p1), (2, .int .i64 p2), (3, .slice a_p3 p3.length c_p3), (4, .int .i64 p4), (5, .pointer (some ⟨b3, 0, none⟩)), (10, .int .i64 0), (51, .slice a_p3 p3.length c_p3), (52, .int .i64 (p3.length : Int)), (53, .int .i64 s)]) (fun s g => St w0 m m [[⟨b3, 22, [.slice a_p0 p0.length c_p0]⟩]]) (fun s g => True) FUEL 0 () x18 hx19 trivial ⟨rfl, rfl, rfl, rfl, rfl, rfl, rfl, rfl, rfl, trivial⟩ (fun _ h => h) ?_
            rintro s_4 ⟨⟩ o22 fl23 hm21 - hn24 hd25
            have hm21 : aggregate_Prove_s2 p0 p1 p2 p3 s_4 = some o22 := hm21
            unfold aggregate_Prove_s2 at hm21
            refine WK.sub (e' := [(1, .int .i64 p1), (2, .int .i64 p2), (3, .slice a_p3 p3.length c_p3), (4, .int .i64 p4), (5, .pointer (some ⟨b3, 0, none⟩)), (10, .int .i64 0), (51, .slice a_p3 p3.length c_p3), (52, .int .i64 (p3.length : Int)), (53, .int .i64 s_4)]) ⟨rfl, rfl, rfl, rfl, rfl, rfl, rfl, rfl, rfl, trivial⟩ (WK.cls (C' := St w0 m m [[⟨b3, 22, [.slice a_p0 p0.length c_p0]⟩]]) (fun _ h => h) ?_)
            refine WK_seq ?_
            refine WK_region ?_
            refine WO_pure tbok 1 [(1, .int .i64 p1), (2, .int .i64 p2), (3, .slice a_p3 p3.length c_p3), (4, .int .i64 p4), (5, .pointer (some ⟨b3, 0, none⟩)), (10, .int .i64 0), (51, .slice a_p3 p3.length c_p3), (52, .int .i64 (p3.length : Int)), (53, .int .i64 s_4), (54, .bool (decide (s_4 < (p3.length : Int))))] rfl ⟨rfl, rfl, rfl, rfl, rfl, rfl, rfl, rfl, rfl, rfl, trivial⟩ ?_
            refine WO_end ?_
            refine WK_seq ?_
            refine WK_cond (b := decide (s_4 < (p3.length : Int))) rfl (fun hb35 => ?_) (fun hb35 => ?_)
            · have hm21 := ifT hb35 hm21
              refine WK_skip ?_
              refine WK_seq ?_
              refine WK_block ?_
              refine WK_seq ?_
              refine WK_region ?_
              refine WO_pure tbok 1 [(1, .int .i64 p1), (2, .int .i64 p2), (3, .slice a_p3 p3.length c_p3), (4, .int .i64 p4), (5, .pointer (some ⟨b3, 0, none⟩)), (10, .int .i64 0), (51, .slice a_p3 p3.length c_p3), (52, .int .i64 (p3.length : Int)), (53, .int .i64 s_4), (55, .int .i64 s_4)] rfl ⟨rfl, rfl, rfl, rfl, rfl, rfl, rfl, rfl, rfl, rfl, trivial⟩ ?_
              obtain ⟨v_7, hy36, hm21⟩ := bind_some hm21
              obtain ⟨hc37, hy36⟩ := ix_some hy36
              refine WO_index tbok rfl rfl rfl rfl rfl rfl rfl rfl (SlR.addr h_p3) hc37 ?_
              refine WO_loadR tbok rfl rfl rfl rfl (fun _ h => St.sat h) h_p3 hy36 rfl rfl (fun a38 c39 h40 => ?_)
              refine WO_pure tbok 2 [(1, .int .i64 p1), (2, .int .i64 p2), (3, .slice a_p3 p3.length c_p3), (4, .int .i64 p4), (5, .pointer (some ⟨b3, 0, none⟩)), (10, .int .i64 0), (14, .int .i64 s_4), (15, .slice a38 ((v_7).length) c39), (51, .slice a_p3 p3.length c_p3), (52, .int .i64 (p3.length : Int)), (53, .int .i64 s_4)] rfl ⟨rfl, rfl, rfl, rfl, rfl, rfl, rfl, rfl, rfl, rfl, rfl, trivial⟩ ?_
              refine WO_end ?_
              refine WK_seq ?_
              refine WK_region ?_
              refine WO_pure tbok 2 [(1, .int .i64 p1), (2, .int .i64 p2), (3, .slice a_p3 p3.length c_p3), (4, .int .i64 p4), (5, .pointer (some ⟨b3, 0, none⟩)), (10, .int .i64 0), (14, .int .i64 s_4), (15, .slice a38 ((v_7).length) c39), (51, .slice a_p3 p3.length c_p3), (52, .int .i64 (p3.length : Int)), (53, .int .i64 s_4), (59, .int .i64 ((v_7).length : Int))] rfl ⟨rfl, rfl, rfl, rfl, rfl, rfl, rfl, rfl, rfl, rfl, rfl, rfl, trivial⟩ ?_
              obtain ⟨hc42, hm21⟩ := chk_some hm21
              refine WO_make (E := (I1 .i64)) tbok (fun _ => rfl) (by decide) (0 : Int) rfl rfl trivial rfl rfl rfl rfl rfl rfl rfl rfl rfl (mk_ok (by decide) hc42) (fun b43 c44 L45 hL45 => ?_)
              refine WO.cls (C' := St w0 m m [[⟨b3, 22, [.slice a_p0 p0.length c_p0]⟩], L45]) (fun _ h => h) ?_
              refine WO_pure tbok 1 [(1, .int .i64 p1), (2, .int .i64 p2), (3, .slice a_p3 p3.length c_p3), (4, .int .i64 p4), (5, .pointer (some ⟨b3, 0, none⟩)), (10, .int .i64 0), (14, .int .i64 s_4), (15, .slice a38 ((v_7).length) c39), (16, .slice (some ⟨b43, 0, none⟩) ((List.replicate ((v_7).length : Int).toNat (0 : Int)).length) c44), (51, .slice a_p3 p3.length c_p3), (52, .int .i64 (p3.length : Int)), (53, .int .i64 s_4)] rfl ⟨rfl, rfl, rfl, rfl, rfl, rfl, rfl, rfl, rfl, rfl, rfl, rfl, trivial⟩ ?_
              refine WO_end ?_
              refine WK_seq ?_
              refine WK_seq ?_
              refine WK_region ?_
              refine WO_pure tbok 2 [(1, .int .i64 p1), (2, .int .i64 p2), (3, .slice a_p3 p3.length c_p3), (4, .int .i64 p4), (5, .pointer (some ⟨b3, 0, none⟩)), (10, .int .i64 0), (14, .int .i64 s_4), (15, .slice a38 ((v_7).length) c39), (16, .slice (some ⟨b43, 0, none⟩) ((List.replicate ((v_7).length : Int).toNat (0 : Int)).length) c44), (51, .slice a_p3 p3.length c_p3), (52, .int .i64 (p3.length : Int)), (53, .int .i64 s_4), (62, .bool (decide (0 < s_4)))] rfl ⟨rfl, rfl, rfl, rfl, rfl, rfl, rfl, rfl, rfl, rfl, rfl, rfl, rfl, trivial⟩ ?_
              refine WO_end ?_
              obtain ⟨l_8, hx52, hm21⟩ := bind_some hm21
              refine WK_join (β := Option Addr × Nat × Nat × List Ent) (fun p => OwnE 3 1 (I1 .i64) (.slice p.1 p.2.1 p.2.2.1) l_8 p.2.2.2) (fun p => [(1, .int .i64 p1), (2, .int .i64 p2), (3, .slice a_p3 p3.length c_p3), (4, .int .i64 p4), (5, .pointer (some ⟨b3, 0, none⟩)), (10, .int .i64 0), (14, .int .i64 s_4), (15, .slice a38 ((v_7).length) c39), (16, .slice p.1 p.2.1 p.2.2.1), (51, .slice a_p3 p3.length c_p3), (52, .int .i64 (p3.length : Int)), (53, .int .i64 s_4)]) (fun p => St w0 m m [[⟨b3, 22, [.slice a_p0 p0.length c_p0]⟩], p.2.2.2]) ?_ (fun hk53 => ?_)
              · rintro ⟨a49, q50, c51, L48⟩ hL48
                have hqq : q50 = l_8.length := OwnE.qlen hL48
                subst hqq
                refine WK.sub (e' := [(1, .int .i64 p1), (2, .int .i64 p2), (3, .slice a_p3 p3.length c_p3), (4, .int .i64 p4), (5, .pointer (some ⟨b3, 0, none⟩)), (10, .int .i64 0), (14, .int .i64 s_4), (15, .slice a38 ((v_7).length) c39), (16, .slice a49 ((l_8).length) c51), (51, .slice a_p3 p3.length c_p3), (52, .int .i64 (p3.length : Int)), (53, .int .i64 s_4)]) ⟨rfl, rfl, rfl, rfl, rfl, rfl, rfl, rfl, rfl, rfl, rfl, rfl, trivial⟩ (WK.cls (C' := St w0 m m [[⟨b3, 22, [.slice a_p0 p0.length c_p0]⟩], L48]) (fun _ h => h) ?_)
                refine WK_seq ?_
                refine WK_region ?_
                refine WO_pure tbok 3 [(1, .int .i64 p1), (2, .int .i64 p2), (3, .slice a_p3 p3.length c_p3), (4, .int .i64 p4), (5, .pointer (some ⟨b3, 0, none⟩)), (10, .int .i64 0), (14, .int .i64 s_4), (16, .slice a49 ((l_8).length) c51), (51, .slice a_p3 p3.length c_p3), (52, .int .i64 (p3.length : Int)), (53, .int .i64 s_4), (71, .slice a38 ((v_7).length) c39), (72, .int .i64 ((v_7).length : Int)), (73, .int .i64 0)] rfl ⟨rfl, rfl, rfl, rfl, rfl, rfl, rfl, rfl, rfl, rfl, rfl, rfl, rfl, rfl, trivial⟩ ?_
                refine WO_end ?_
                obtain ⟨x54, hx55, hm21⟩ := bind_some hm21
                refine WK_join (β := Unit × Unit) (fun p => Sum.inr p.1 = x54) (fun p => [(1, .int .i64 p1), (2, .int .i64 p2), (3, .slice a_p3 p3.length c_p3), (4, .int .i64 p4), (5, .pointer (some ⟨b3, 0, none⟩)), (10, .int .i64 0), (51, .slice a_p3 p3.length c_p3), (52, .int .i64 (p3.length : Int)), (53, .int .i64 s_4)]) (fun p => St w0 m m [[⟨b3, 22, [.slice a_p0 p0.length c_p0]⟩], L48]) ?_ (fun hk56 => ?_)
                · rintro ⟨⟨⟩, ⟨⟩⟩ hq62
                  subst hq62
                  refine WK.sub (e' := [(1, .int .i64 p1), (2, .int .i64 p2), (3, .slice a_p3 p3.length c_p3), (4, .int .i64 p4), (5, .pointer (some ⟨b3, 0, none⟩)), (10, .int .i64 0), (51, .slice a_p3 p3.length c_p3), (52, .int .i64 (p3.length : Int)), (53, .int .i64 s_4)]) ⟨rfl, rfl, rfl, rfl, rfl, rfl, rfl, rfl, rfl, trivial⟩ (WK.cls (C' := St w0 m m [[⟨b3, 22, [.slice a_p0 p0.length c_p0]⟩], L48]) (fun _ h => h) ?_)
                  refine WK_blk ?_
                  refine WK_region ?_
                  refine WO_pure tbok 2 [(1, .int .i64 p1), (2, .int .i64 p2), (3, .slice a_p3 p3.length c_p3), (4, .int .i64 p4), (5, .pointer (some ⟨b3, 0, none⟩)), (10, .int .i64 0), (51, .slice a_p3 p3.length c_p3), (52, .int .i64 (p3.length : Int)), (53, .int .i64 (w64 (s_4 + 1)))] rfl ⟨rfl, rfl, rfl, rfl, rfl, rfl, rfl, rfl, rfl, trivial⟩ ?_
                  refine WO_end ?_
                  cases hm21
                  refine WK.sub ?_ (WK.cls (fun _ h => St.take 1 h) (hn24 _ () rfl trivial))
                  exact ⟨rfl, rfl, rfl, rfl, rfl, rfl, rfl, rfl, rfl, trivial⟩
                · refine WK_block ?_
                  refine WK_loop (S := Int) (G := Unit) (fun s => aggregate_Prove_s3 p0 s_4 v_7 l_8 s) (fun s g => [(1, .int .i64 p1), (2, .int .i64 p2), (3, .slice a_p3 p3.length c_p3), (4, .int .i64 p4), (5, .pointer (some ⟨b3, 0, none⟩)), (10, .int .i64 0), (14, .int .i64 s_4), (16, .slice a49 ((l_8).length) c51), (51, .slice a_p3 p3.length c_p3), (52, .int .i64 (p3.length : Int)), (53, .int .i64 s_4), (71, .slice a38 ((v_7).length) c39), (72, .int .i64 ((v_7).length : Int)), (73, .int .i64 s)]) (fun s g => St w0 m m [[⟨b3, 22, [.slice a_p0 p0.length c_p0]⟩], L48]) (fun s g => True) FUEL 0 () x54 hx55 trivial ⟨rfl, rfl, rfl, rfl, rfl, rfl, rfl, rfl, rfl, rfl, rfl, rfl, rfl, rfl, trivial⟩ (fun _ h => h) ?_
                  rintro s_9 ⟨⟩ o58 fl59 hm57 - hn60 hd61
                  have hm57 : aggregate_Prove_s3 p0 s_4 v_7 l_8 s_9 = some o58 := hm57
                  unfold aggregate_Prove_s3 at hm57
                  refine WK.sub (e' := [(1, .int .i64 p1), (2, .int .i64 p2), (3, .slice a_p3 p3.length c_p3), (4, .int .i64 p4), (5, .pointer (some ⟨b3, 0, none⟩)), (10, .int .i64 0), (14, .int .i64 s_4), (16, .slice a49 ((l_8).length) c51), (51, .slice a_p3 p3.length c_p3), (52, .int .i64 (p3.length : Int)), (53, .int .i64 s_4), (71, .slice a38 ((v_7).length) c39), (72, .int .i64 ((v_7).length : Int)), (73, .int .i64 s_9)]) ⟨rfl, rfl, rfl, rfl, rfl, rfl, rfl, rfl, rfl, rfl, rfl, rfl, rfl, rfl, trivial⟩ (WK.cls (C' := St w0 m m [[⟨b3, 22, [.slice a_p0 p0.length c_p0]⟩], L48]) (fun _ h => h) ?_)
                  refine WK_seq ?_
                  refine WK_region ?_
                  refine WO_pure tbok 1 [(1, .int .i64 p1), (2, .int .i64 p2), (3, .slice a_p3 p3.length c_p3), (4, .int .i64 p4), (5, .pointer (some ⟨b3, 0, none⟩)), (10, .int .i64 0), (14, .int .i64 s_4), (16, .slice a49 ((l_8).length) c51), (51, .slice a_p3 p3.length c_p3), (52, .int .i64 (p3.length : Int)), (53, .int .i64 s_4), (71, .slice a38 ((v_7).length) c39), (72, .int .i64 ((v_7).length : Int)), (73, .int .i64 s_9), (74, .bool (decide (s_9 < ((v_7).length : Int))))] rfl ⟨rfl, rfl, rfl, rfl, rfl, rfl, rfl, rfl, rfl, rfl, rfl, rfl, rfl, rfl, rfl, trivial⟩ ?_
                  refine WO_end ?_
                  refine WK_seq ?_
                  refine WK_cond (b := decide (s_9 < ((v_7).length : Int))) rfl (fun hb63 => ?_) (fun hb63 => ?_)
                  · have hm57 := ifT hb63 hm57
                    refine WK_skip ?_
                    refine WK_seq ?_
                    refine WK_block ?_
                    refine WK_seq ?_
                    refine WK_region ?_
                    refine WO_pure tbok 1 [(1, .int .i64 p1), (2, .int .i64 p2), (3, .slice a_p3 p3.length c_p3), (4, .int .i64 p4), (5, .pointer (some ⟨b3, 0, none⟩)), (10, .int .i64 0), (14, .int .i64 s_4), (16, .slice a49 ((l_8).length) c51), (51, .slice a_p3 p3.length c_p3), (52, .int .i64 (p3.length : Int)), (53, .int .i64 s_4), (71, .slice a38 ((v_7).length) c39), (72, .int .i64 ((v_7).length : Int)), (73, .int .i64 s_9), (75, .int .i64 s_9)] rfl ⟨rfl, rfl, rfl, rfl, rfl, rfl, rfl, rfl, rfl, rfl, rfl, rfl, rfl, rfl, rfl, trivial⟩ ?_
                    obtain ⟨v_10, hy64, hm57⟩ := bind_some hm57
                    obtain ⟨hc65, hy64⟩ := ix_some hy64
                    refine WO_index tbok rfl rfl rfl rfl rfl rfl rfl rfl (SlR.addr h40) hc65 ?_
                    refine WO_loadE tbok rfl rfl rfl rfl (fun _ h => St.sat h) h40 hy64 rfl ?_
                    refine WO_pure tbok 2 [(1, .int .i64 p1), (2, .int .i64 p2), (3, .slice a_p3 p3.length c_p3), (4, .int .i64 p4), (5, .pointer (some ⟨b3, 0, none⟩)), (10, .int .i64 0), (14, .int .i64 s_4), (16, .slice a49 ((l_8).length) c51), (17, .int .i64 s_9), (18, .int .i64 v_10), (51, .slice a_p3 p3.length c_p3), (52, .int .i64 (p3.length : Int)), (53, .int .i64 s_4), (71, .slice a38 ((v_7).length) c39), (72, .int .i64 ((v_7).length : Int)), (73, .int .i64 s_9)] rfl ⟨rfl, rfl, rfl, rfl, rfl, rfl, rfl, rfl, rfl, rfl, rfl, rfl, rfl, rfl, rfl, rfl, trivial⟩ ?_
                    refine WO_end ?_
                    refine WK_seq ?_
                    refine WK_draw 14 [0, 1, 2, 3, 4, 5, 6, 7, 8, 9, 10, 11, 12, 13] follows_ok (by kernel_rfl) St_closed ?_
                    refine WO_pure tbok 3 [(1, .int .i64 p1), (2, .int .i64 p2), (3, .slice a_p3 p3.length c_p3), (4, .int .i64 p4), (5, .pointer (some ⟨b3, 0, none⟩)), (10, .int .i64 0), (14, .int .i64 s_4), (16, .slice a49 ((l_8).length) c51), (17, .int .i64 s_9), (51, .slice a_p3 p3.length c_p3), (52, .int .i64 (p3.length : Int)), (53, .int .i64 s_4), (71, .slice a38 ((v_7).length) c39), (72, .int .i64 ((v_7).length : Int)), (73, .int .i64 s_9), (78, .int .i64 v_10), (79, .slice a49 ((l_8).length) c51), (80, .int .i64 s_9)] rfl ⟨rfl, rfl, rfl, rfl, rfl, rfl, rfl, rfl, rfl, rfl, rfl, rfl, rfl, rfl, rfl, rfl, rfl, rfl, trivial⟩ ?_
                    obtain ⟨v_11, hy66, hm57⟩ := bind_some hm57
                    obtain ⟨hc67, hy66⟩ := ix_some hy66
                    refine WO_index tbok rfl rfl rfl rfl rfl rfl rfl rfl (OwnE.addr hL48) (by simpa using hc67) ?_
                    refine WO_loadO (E := (I1 .i64)) tbok (fun _ => rfl) 1 rfl rfl rfl rfl (fun _ h => h) hL48 rfl hy66 rfl ?_
                    refine WO_loadB tbok 0 rfl rfl rfl rfl (fun _ h => h) rfl rfl ?_
                    refine WO_pure tbok 1 [(1, .int .i64 p1), (2, .int .i64 p2), (3, .slice a_p3 p3.length c_p3), (4, .int .i64 p4), (5, .pointer (some ⟨b3, 0, none⟩)), (10, .int .i64 0), (14, .int .i64 s_4), (16, .slice a49 ((l_8).length) c51), (17, .int .i64 s_9), (51, .slice a_p3 p3.length c_p3), (52, .int .i64 (p3.length : Int)), (53, .int .i64 s_4), (71, .slice a38 ((v_7).length) c39), (72, .int .i64 ((v_7).length : Int)), (73, .int .i64 s_9), (78, .int .i64 v_10), (82, .int .i64 v_11), (83, .slice a_p0 p0.length c_p0), (84, .int .i64 s_4)] rfl ⟨rfl, rfl, rfl, rfl, rfl, rfl, rfl, rfl, rfl, rfl, rfl, rfl, rfl, rfl, rfl, rfl, rfl, rfl, rfl, trivial⟩ ?_
                    obtain ⟨v_12, hy68, hm57⟩ := bind_some hm57
                    obtain ⟨hc69, hy68⟩ := ix_some hy68
                    refine WO_index tbok rfl rfl rfl rfl rfl rfl rfl rfl (SlR.addr h_p0) hc69 ?_
                    refine WO_loadR tbok rfl rfl rfl rfl (fun _ h => St.sat h) h_p0 hy68 rfl rfl (fun a70 c71 h72 => ?_)
                    refine WO_pure tbok 1 [(1, .int .i64 p1), (2, .int .i64 p2), (3, .slice a_p3 p3.length c_p3), (4, .int .i64 p4), (5, .pointer (some ⟨b3, 0, none⟩)), (10, .int .i64 0), (14, .int .i64 s_4), (16, .slice a49 ((l_8).length) c51), (51, .slice a_p3 p3.length c_p3), (52, .int .i64 (p3.length : Int)), (53, .int .i64 s_4), (71, .slice a38 ((v_7).length) c39), (72, .int .i64 ((v_7).length : Int)), (73, .int .i64 s_9), (78, .int .i64 v_10), (82, .int .i64 v_11), (86, .slice a70 ((v_12).length) c71), (87, .int .i64 s_9)] rfl ⟨rfl, rfl, rfl, rfl, rfl, rfl, rfl, rfl, rfl, rfl, rfl, rfl, rfl, rfl, rfl, rfl, rfl, rfl, trivial⟩ ?_
                    obtain ⟨v_13, hy74, hm57⟩ := bind_some hm57
                    obtain ⟨hc75, hy74⟩ := ix_some hy74
                    refine WO_index tbok rfl rfl rfl rfl rfl rfl rfl rfl (SlR.addr h72) hc75 ?_
                    refine WO_loadE tbok rfl rfl rfl rfl (fun _ h => St.sat h) h72 hy74 rfl ?_
                    refine WO_pure tbok 2 [(1, .int .i64 p1), (2, .int .i64 p2), (3, .slice a_p3 p3.length c_p3), (4, .int .i64 p4), (5, .pointer (some ⟨b3, 0, none⟩)), (10, .int .i64 0), (14, .int .i64 s_4), (16, .slice a49 ((l_8).length) c51), (51, .slice a_p3 p3.length c_p3), (52, .int .i64 (p3.length : Int)), (53, .int .i64 s_4), (71, .slice a38 ((v_7).length) c39), (72, .int .i64 ((v_7).length : Int)), (73, .int .i64 s_9), (91, .bool (decide ((w64 (v_11 + v_13)) < v_10)))] rfl ⟨rfl, rfl, rfl, rfl, rfl, rfl, rfl, rfl, rfl, rfl, rfl, rfl, rfl, rfl, rfl, trivial⟩ ?_
                    refine WO_tail ?_
                    refine WO_end ?_
                    refine WK_cond (b := decide ((w64 (v_11 + v_13)) < v_10)) rfl (fun hb76 => ?_) (fun hb76 => ?_)
                    · have hm57 := ifT hb76 hm57
                      refine WK_seq ?_
                      refine WK_region ?_
                      refine WO_pure tbok 1 [(1, .int .i64 p1), (2, .int .i64 p2), (3, .slice a_p3 p3.length c_p3), (4, .int .i64 p4), (5, .pointer (some ⟨b3, 0, none⟩)), (10, .int .i64 12), (14, .int .i64 s_4), (16, .slice a49 ((l_8).length) c51), (51, .slice a_p3 p3.length c_p3), (52, .int .i64 (p3.length : Int)), (53, .int .i64 s_4), (71, .slice a38 ((v_7).length) c39), (72, .int .i64 ((v_7).length : Int)), (73, .int .i64 s_9)] rfl ⟨rfl, rfl, rfl, rfl, rfl, rfl, rfl, rfl, rfl, rfl, rfl, rfl, rfl, rfl, trivial⟩ ?_
                      refine WO_end ?_
                      cases hm57
                      have hq := hd61 _ rfl
                      subst hq
                      have hm21 : some _ = some _ := hm21
                      cases hm21
                      have hq := hd25 _ rfl
                      subst hq
                      have hm : some _ = some _ := hm
                      cases hm
                      exact WK_ret (ret_out (L := []) (RLc_tmp rfl RLc_nil) (List.nil_sublist _) rfl)
                    · have hm57 := ifF hb76 hm57
                      refine WK_skip ?_
                      refine WK_blk ?_
                      refine WK_region ?_
                      refine WO_pure tbok 2 [(1, .int .i64 p1), (2, .int .i64 p2), (3, .slice a_p3 p3.length c_p3), (4, .int .i64 p4), (5, .pointer (some ⟨b3, 0, none⟩)), (10, .int .i64 0), (14, .int .i64 s_4), (16, .slice a49 ((l_8).length) c51), (51, .slice a_p3 p3.length c_p3), (52, .int .i64 (p3.length : Int)), (53, .int .i64 s_4), (71, .slice a38 ((v_7).length) c39), (72, .int .i64 ((v_7).length : Int)), (73, .int .i64 (w64 (s_9 + 1)))] rfl ⟨rfl, rfl, rfl, rfl, rfl, rfl, rfl, rfl, rfl, rfl, rfl, rfl, rfl, rfl, trivial⟩ ?_
                      refine WO_end ?_
                      cases hm57
                      refine WK.sub ?_ (WK.cls (fun _ h => h) (hn60 _ () rfl trivial))
                      exact ⟨rfl, rfl, rfl, rfl, rfl, rfl, rfl, rfl, rfl, rfl, rfl, rfl, rfl, rfl, trivial⟩
                  · have hm57 := ifF hb63 hm57
                    refine WK_exit rfl ?_
                    cases hm57
                    refine WK.sub ?_ (WK.cls (fun _ h => h) (hk56 ((), ()) (hd61 _ rfl)))
                    exact ⟨rfl, rfl, rfl, rfl, rfl, rfl, rfl, rfl, rfl, trivial⟩
              · refine WK_cond (b := decide (0 < s_4)) rfl (fun hb77 => ?_) (fun hb77 => ?_)
                · have hx52 := ifT hb77 hx52
                  refine WK_region ?_
                  refine WO_pure tbok 3 [(1, .int .i64 p1), (2, .int .i64 p2), (3, .slice a_p3 p3.length c_p3), (4, .int .i64 p4), (5, .pointer (some ⟨b3, 0, none⟩)), (10, .int .i64 0), (14, .int .i64 s_4), (15, .slice a38 ((v_7).length) c39), (16, .slice (some ⟨b43, 0, none⟩) ((List.replicate ((v_7).length : Int).toNat (0 : Int)).length) c44), (51, .slice a_p3 p3.length c_p3), (52, .int .i64 (p3.length : Int)), (53, .int .i64 s_4), (63, .slice a_p3 p3.length c_p3), (65, .int .i64 (w64 (s_4 - 1)))] rfl ⟨rfl, rfl, rfl, rfl, rfl, rfl, rfl, rfl, rfl, rfl, rfl, rfl, rfl, rfl, trivial⟩ ?_
                  obtain ⟨v_14, hy78, hx52⟩ := bind_some hx52
                  obtain ⟨hc79, hy78⟩ := ix_some hy78
                  refine WO_index tbok rfl rfl rfl rfl rfl rfl rfl rfl (SlR.addr h_p3) hc79 ?_
                  refine WO_loadR tbok rfl rfl rfl rfl (fun _ h => St.sat h) h_p3 hy78 rfl rfl (fun a80 c81 h82 => ?_)
                  refine WO_pure tbok 2 [(1, .int .i64 p1), (2, .int .i64 p2), (3, .slice a_p3 p3.length c_p3), (4, .int .i64 p4), (5, .pointer (some ⟨b3, 0, none⟩)), (10, .int .i64 0), (14, .int .i64 s_4), (15, .slice a38 ((v_7).length) c39), (16, .slice (some ⟨b43, 0, none⟩) ((List.replicate ((v_7).length : Int).toNat (0 : Int)).length) c44), (51, .slice a_p3 p3.length c_p3), (52, .int .i64 (p3.length : Int)), (53, .int .i64 s_4), (67, .slice a80 ((v_14).length) c81), (68, .int .i64 p1), (69, .int .i64 p2)] rfl ⟨rfl, rfl, rfl, rfl, rfl, rfl, rfl, rfl, rfl, rfl, rfl, rfl, rfl, rfl, rfl, trivial⟩ ?_
                  obtain ⟨y_15, hc84, hx52⟩ := bind_some hx52
                  refine WO_call1 (aggregate_reached_Q y_15) rfl rfl trivial rfl rfl rfl rfl ⟨42, #[], #[], rfl, callable_42, fun w hw => ⟨_, hw.sat, aggregate_reached_walk h82 hc84⟩⟩ (fun v89 L88 hq => ?_)
                  obtain ⟨a85, qa85, c86, rfl, hL88⟩ := hq
                  obtain rfl := OwnE.qlen hL88
                  refine WO.cls (C' := St w0 m m [[⟨b3, 22, [.slice a_p0 p0.length c_p0]⟩], L45, L88]) (fun _ h => h) ?_
                  refine WO_pure tbok 1 [(1, .int .i64 p1), (2, .int .i64 p2), (3, .slice a_p3 p3.length c_p3), (4, .int .i64 p4), (5, .pointer (some ⟨b3, 0, none⟩)), (10, .int .i64 0), (14, .int .i64 s_4), (15, .slice a38 ((v_7).length) c39), (16, .slice a85 ((y_15).length) c86), (51, .slice a_p3 p3.length c_p3), (52, .int .i64 (p3.length : Int)), (53, .int .i64 s_4)] rfl ⟨rfl, rfl, rfl, rfl, rfl, rfl, rfl, rfl, rfl, rfl, rfl, rfl, trivial⟩ ?_
                  refine WO_end ?_
                  refine WK_move 1 2 rfl rfl rfl ?_
                  refine WK.cls (C' := St w0 m m [[⟨b3, 22, [.slice a_p0 p0.length c_p0]⟩], L88, []]) (fun _ h => h) ?_
                  cases hx52
                  refine WK.sub ?_ (WK.cls (fun _ h => St.take 2 h) (hk53 ⟨a85, _, c86, L88⟩ hL88))
                  exact ⟨rfl, rfl, rfl, rfl, rfl, rfl, rfl, rfl, rfl, rfl, rfl, rfl, trivial⟩
                · have hx52 := ifF hb77 hx52
                  refine WK_skip ?_
                  cases hx52
                  refine WK.sub ?_ (WK.cls (fun _ h => h) (hk53 ⟨some ⟨b43, 0, none⟩, (List.replicate ((v_7).length : Int).toNat (0 : Int)).length, c44, L45⟩ hL45))
                  exact ⟨rfl, rfl, rfl, rfl, rfl, rfl, rfl, rfl, rfl, rfl, rfl, rfl, trivial⟩
            · have hm21 := ifF hb35 hm21
              refine WK_exit rfl ?_
              cases hm21
              refine WK.sub ?_ (WK.cls (fun _ h => h) (hk20 ((), ()) (hd25 _ rfl)))
              exact ⟨rfl, rfl, rfl, trivial⟩
        · refine WK_block ?_
          refine WK_loop (S := Int) (G := Unit) (fun s => aggregate_Prove_s1 p3 s) (fun s g => [(1, .int .i64 p1), (2, .int .i64 p2), (3, .slice a_p3 p3.length c_p3), (4, .int .i64 p4), (5, .pointer (some ⟨b3, 0, none⟩)), (10, .int .i64 0), (36, .slice a_p3 p3.length c_p3), (37, .int .i64 (p3.length : Int)), (38, .int .i64 s)]) (fun s g => St w0 m m [[⟨b3, 22, [.slice a_p0 p0.length c_p0]⟩]]) (fun s g => True) FUEL 0 () x9 hx10 trivial ⟨rfl, rfl, rfl, rfl, rfl, rfl, rfl, rfl, rfl, trivial⟩ (fun _ h => h) ?_
          rintro s_3 ⟨⟩ o13 fl14 hm12 - hn15 hd16
          have hm12 : aggregate_Prove_s1 p3 s_3 = some o13 := hm12
          unfold aggregate_Prove_s1 at hm12
          refine WK.sub (e' := [(1, .int .i64 p1), (2, .int .i64 p2), (3, .slice a_p3 p3.length c_p3), (4, .int .i64 p4), (5, .pointer (some ⟨b3, 0, none⟩)), (10, .int .i64 0), (36, .slice a_p3 p3.length c_p3), (37, .int .i64 (p3.length : Int)), (38, .int .i64 s_3)]) ⟨rfl, rfl, rfl, rfl, rfl, rfl, rfl, rfl, rfl, trivial⟩ (WK.cls (C' := St w0 m m [[⟨b3, 22, [.slice a_p0 p0.length c_p0]⟩]]) (fun _ h => h) ?_)
          refine WK_seq ?_
          refine WK_region ?_
          refine WO_pure tbok 1 [(1, .int .i64 p1), (2, .int .i64 p2), (3, .slice a_p3 p3.length c_p3), (4, .int .i64 p4), (5, .pointer (some ⟨b3, 0, none⟩)), (10, .int .i64 0), (36, .slice a_p3 p3.length c_p3), (37, .int .i64 (p3.length : Int)), (38, .int .i64 s_3), (39, .bool (decide (s_3 < (p3.length : Int))))] rfl ⟨rfl, rfl, rfl, rfl, rfl, rfl, rfl, rfl, rfl, rfl, trivial⟩ ?_
          refine WO_end ?_
          refine WK_seq ?_
          refine WK_cond (b := decide (s_3 < (p3.length : Int))) rfl (fun hb90 => ?_) (fun hb90 => ?_)
          · have hm12 := ifT hb90 hm12
            refine WK_skip ?_
            refine WK_seq ?_
            refine WK_block ?_
            refine WK_seq ?_
            refine WK_region ?_
            obtain ⟨v_16, hy91, hm12⟩ := bind_some hm12
            obtain ⟨hc92, hy91⟩ := ix_some hy91
            refine WO_index tbok rfl rfl rfl rfl rfl rfl rfl rfl (SlR.addr h_p3) hc92 ?_
            refine WO_loadR tbok rfl rfl rfl rfl (fun _ h => St.sat h) h_p3 hy91 rfl rfl (fun a93 c94 h95 => ?_)
            refine WO_pure tbok 1 [(1, .int .i64 p1), (2, .int .i64 p2), (3, .slice a_p3 p3.length c_p3), (4, .int .i64 p4), (5, .pointer (some ⟨b3, 0, none⟩)), (10, .int .i64 0), (13, .slice a93 ((v_16).length) c94), (36, .slice a_p3 p3.length c_p3), (37, .int .i64 (p3.length : Int)), (38, .int .i64 s_3)] rfl ⟨rfl, rfl, rfl, rfl, rfl, rfl, rfl, rfl, rfl, rfl, trivial⟩ ?_
            refine WO_end ?_
            refine WK_seq ?_
            obtain ⟨s_17, hx97, hm12⟩ := bind_some hm12
            refine WK_meet [(1, .int .i64 p1), (2, .int .i64 p2), (3, .slice a_p3 p3.length c_p3), (4, .int .i64 p4), (5, .pointer (some ⟨b3, 0, none⟩)), (10, .int .i64 0), (36, .slice a_p3 p3.length c_p3), (37, .int .i64 (p3.length : Int)), (38, .int .i64 s_3), (49, .bool s_17)] (St w0 m m [[⟨b3, 22, [.slice a_p0 p0.length c_p0]⟩]]) ?_ (fun hk98 => ?_)
            · refine WK_cond (b := s_17) rfl (fun hb99 => ?_) (fun hb99 => ?_)
              · have hm12 := ifT hb99 hm12
                refine WK_seq ?_
                refine WK_region ?_
                refine WO_pure tbok 1 [(1, .int .i64 p1), (2, .int .i64 p2), (3, .slice a_p3 p3.length c_p3), (4, .int .i64 p4), (5, .pointer (some ⟨b3, 0, none⟩)), (10, .int .i64 2), (36, .slice a_p3 p3.length c_p3), (37, .int .i64 (p3.length : Int)), (38, .int .i64 s_3)] rfl ⟨rfl, rfl, rfl, rfl, rfl, rfl, rfl, rfl, rfl, trivial⟩ ?_
                refine WO_end ?_
                cases hm12
                have hq := hd16 _ rfl
                subst hq
                have hm : some _ = some _ := hm
                cases hm
                exact WK_ret (ret_out (L := []) (RLc_tmp rfl RLc_nil) (List.nil_sublist _) rfl)
              · have hm12 := ifF hb99 hm12
                refine WK_skip ?_
                refine WK_blk ?_
                refine WK_region ?_
                refine WO_pure tbok 2 [(1, .int .i64 p1), (2, .int .i64 p2), (3, .slice a_p3 p3.length c_p3), (4, .int .i64 p4), (5, .pointer (some ⟨b3, 0, none⟩)), (10, .int .i64 0), (36, .slice a_p3 p3.length c_p3), (37, .int .i64 (p3.length : Int)), (38, .int .i64 (w64 (s_3 + 1)))] rfl ⟨rfl, rfl, rfl, rfl, rfl, rfl, rfl, rfl, rfl, trivial⟩ ?_
                refine WO_end ?_
                cases hm12
                refine WK.sub ?_ (WK.cls (fun _ h => h) (hn15 _ () rfl trivial))
                exact ⟨rfl, rfl, rfl, rfl, rfl, rfl, rfl, rfl, rfl, trivial⟩
            · refine WK_region ?_
              refine WO_pure tbok 1 [(1, .int .i64 p1), (2, .int .i64 p2), (3, .slice a_p3 p3.length c_p3), (4, .int .i64 p4), (5, .pointer (some ⟨b3, 0, none⟩)), (10, .int .i64 0), (13, .slice a93 ((v_16).length) c94), (36, .slice a_p3 p3.length c_p3), (37, .int .i64 (p3.length : Int)), (38, .int .i64 s_3), (42, .slice a93 ((v_16).length) c94)] rfl ⟨rfl, rfl, rfl, rfl, rfl, rfl, rfl, rfl, rfl, rfl, rfl, trivial⟩ ?_
              obtain ⟨y_18, hc100, hx97⟩ := bind_some hx97
              refine WO_call0 (.int .i64 y_18) rfl rfl trivial rfl rfl rfl rfl St_closed ⟨34, #[], #[], rfl, callable_34, fun w hw => ⟨_, hw.sat, slices_Min_sint_walk h95 hc100⟩⟩ ?_
              refine WO_pure tbok 2 [(1, .int .i64 p1), (2, .int .i64 p2), (3, .slice a_p3 p3.length c_p3), (4, .int .i64 p4), (5, .pointer (some ⟨b3, 0, none⟩)), (10, .int .i64 0), (13, .slice a93 ((v_16).length) c94), (36, .slice a_p3 p3.length c_p3), (37, .int .i64 (p3.length : Int)), (38, .int .i64 s_3), (45, .bool (decide (y_18 < (-1099511627776))))] rfl ⟨rfl, rfl, rfl, rfl, rfl, rfl, rfl, rfl, rfl, rfl, rfl, trivial⟩ ?_
              refine WO_split (d := 45) (b := decide (y_18 < (-1099511627776))) rfl (fun hb101 => ?_) (fun hb101 => ?_)
              · have hx97 := ifT hb101 hx97
                refine WO_pure tbok 1 [(1, .int .i64 p1), (2, .int .i64 p2), (3, .slice a_p3 p3.length c_p3), (4, .int .i64 p4), (5, .pointer (some ⟨b3, 0, none⟩)), (10, .int .i64 0), (36, .slice a_p3 p3.length c_p3), (37, .int .i64 (p3.length : Int)), (38, .int .i64 s_3), (45, .bool true)] rfl ⟨rfl, rfl, rfl, rfl, rfl, rfl, rfl, rfl, rfl, rfl, trivial⟩ ?_
                refine WO_skip rfl rfl ?_
                refine WO_pure tbok 2 [(1, .int .i64 p1), (2, .int .i64 p2), (3, .slice a_p3 p3.length c_p3), (4, .int .i64 p4), (5, .pointer (some ⟨b3, 0, none⟩)), (10, .int .i64 0), (36, .slice a_p3 p3.length c_p3), (37, .int .i64 (p3.length : Int)), (38, .int .i64 s_3), (49, .bool true)] rfl ⟨rfl, rfl, rfl, rfl, rfl, rfl, rfl, rfl, rfl, rfl, trivial⟩ ?_
                refine WO_end ?_
                cases hx97
                refine WK.sub ?_ (WK.cls (fun _ h => h) hk98)
                exact ⟨rfl, rfl, rfl, rfl, rfl, rfl, rfl, rfl, rfl, rfl, trivial⟩
              · have hx97 := ifF hb101 hx97
                refine WO_pure tbok 1 [(1, .int .i64 p1), (2, .int .i64 p2), (3, .slice a_p3 p3.length c_p3), (4, .int .i64 p4), (5, .pointer (some ⟨b3, 0, none⟩)), (10, .int .i64 0), (36, .slice a_p3 p3.length c_p3), (37, .int .i64 (p3.length : Int)), (38, .int .i64 s_3), (45, .bool false), (46, .slice a93 ((v_16).length) c94)] rfl ⟨rfl, rfl, rfl, rfl, rfl, rfl, rfl, rfl, rfl, rfl, rfl, trivial⟩ ?_
                obtain ⟨y_19, hc102, hx97⟩ := bind_some hx97
                refine WO_call0 (.int .i64 y_19) rfl rfl trivial rfl rfl rfl rfl St_closed ⟨41, #[], #[], rfl, callable_41, fun w hw => ⟨_, hw.sat, slices_Max_sint_walk h95 hc102⟩⟩ ?_
                refine WO_pure tbok 2 [(1, .int .i64 p1), (2, .int .i64 p2), (3, .slice a_p3 p3.length c_p3), (4, .int .i64 p4), (5, .pointer (some ⟨b3, 0, none⟩)), (10, .int .i64 0), (36, .slice a_p3 p3.length c_p3), (37, .int .i64 (p3.length : Int)), (38, .int .i64 s_3), (49, .bool (decide (1099511627776 < y_19)))] rfl ⟨rfl, rfl, rfl, rfl, rfl, rfl, rfl, rfl, rfl, rfl, trivial⟩ ?_
                refine WO_end ?_
                cases hx97
                refine WK.sub ?_ (WK.cls (fun _ h => h) hk98)
                exact ⟨rfl, rfl, rfl, rfl, rfl, rfl, rfl, rfl, rfl, rfl, trivial⟩
          · have hm12 := ifF hb90 hm12
            refine WK_exit rfl ?_
            cases hm12
            refine WK.sub ?_ (WK.cls (fun _ h => h) (hk11 ((), ()) (hd16 _ rfl)))
            exact ⟨rfl, rfl, rfl, rfl, rfl, rfl, trivial⟩
    · refine WK_region ?_
      refine WO_pure tbok 2 [(1, .int .i64 p1), (2, .int .i64 p2), (3, .slice a_p3 p3.length c_p3), (4, .int .i64 p4), (5, .pointer (some ⟨b3, 0, none⟩)), (10, .int .i64 0), (27, .int .i64 (p3.length : Int))] rfl ⟨rfl, rfl, rfl, rfl, rfl, rfl, rfl, trivial⟩ ?_
      refine WO_loadB tbok 0 rfl rfl rfl rfl (fun _ h => h) rfl rfl ?_
      refine WO_pure tbok 3 [(1, .int .i64 p1), (2, .int .i64 p2), (3, .slice a_p3 p3.length c_p3), (4, .int .i64 p4), (5, .pointer (some ⟨b3, 0, none⟩)), (10, .int .i64 0), (31, .bool ((p3.length : Int) != (p0.length : Int)))] rfl ⟨rfl, rfl, rfl, rfl, rfl, rfl, rfl, trivial⟩ ?_
      refine WO_split (d := 31) (b := (p3.length : Int) != (p0.length : Int)) rfl (fun hb103 => ?_) (fun hb103 => ?_)
      · have hx6 := ifT hb103 hx6
        refine WO_pure tbok 2 [(1, .int .i64 p1), (2, .int .i64 p2), (3, .slice a_p3 p3.length c_p3), (4, .int .i64 p4), (5, .pointer (some ⟨b3, 0, none⟩)), (10, .int .i64 0), (31, .bool true)] rfl ⟨rfl, rfl, rfl, rfl, rfl, rfl, rfl, trivial⟩ ?_
        refine WO_skip rfl rfl ?_
        refine WO_pure tbok 1 [(1, .int .i64 p1), (2, .int .i64 p2), (3, .slice a_p3 p3.length c_p3), (4, .int .i64 p4), (5, .pointer (some ⟨b3, 0, none⟩)), (10, .int .i64 0), (35, .bool true)] rfl ⟨rfl, rfl, rfl, rfl, rfl, rfl, rfl, trivial⟩ ?_
        refine WO_end ?_
        cases hx6
        refine WK.sub ?_ (WK.cls (fun _ h => h) hk7)
        exact ⟨rfl, rfl, rfl, rfl, rfl, rfl, rfl, trivial⟩
      · have hx6 := ifF hb103 hx6
        refine WO_pure tbok 2 [(1, .int .i64 p1), (2, .int .i64 p2), (3, .slice a_p3 p3.length c_p3), (4, .int .i64 p4), (5, .pointer (some ⟨b3, 0, none⟩)), (10, .int .i64 0), (31, .bool false), (32, .slice a_p3 p3.length c_p3), (33, .func (.func 40) #[] #[.pointer (some ⟨b3, 0, none⟩)])] rfl ⟨rfl, rfl, rfl, rfl, rfl, rfl, rfl, rfl, rfl, trivial⟩ ?_
        obtain ⟨y_21, hc105, hx6⟩ := bind_some hx6
        refine WO_call0 (.bool y_21) rfl rfl trivial rfl rfl rfl rfl St_closed ⟨29, #[], #[], rfl, callable_29, fun w hw => ⟨_, hw.satV, slices_ContainsFunc_ssint_walk (h_p3.mono (mono_RowE (mono_FE _) _) hw.leV) (fun m1 hm1 _ _ _ z_20 h104 _ h => specV_cap callable_40 (aggregate_Prove_c1_walk h104 (hm1 _ _ (hw.memV (i := 0) rfl (List.mem_singleton.2 rfl))) ((h_p0.mono (mono_RowE (mono_FE _) _) hw.leV).mono (mono_RowE (mono_FE _) _) hm1) h)) hc105⟩⟩ ?_
        refine WO_pure tbok 1 [(1, .int .i64 p1), (2, .int .i64 p2), (3, .slice a_p3 p3.length c_p3), (4, .int .i64 p4), (5, .pointer (some ⟨b3, 0, none⟩)), (10, .int .i64 0), (35, .bool y_21)] rfl ⟨rfl, rfl, rfl, rfl, rfl, rfl, rfl, trivial⟩ ?_
        refine WO_end ?_
        cases hx6
        refine WK.sub ?_ (WK.cls (fun _ h => h) hk7)
        exact ⟨rfl, rfl, rfl, rfl, rfl, rfl, rfl, trivial⟩
theorem fiduciallaw45_known_walk {m : Mu}    {r : Bool} (hm : fiduciallaw45_known = some r) :
    Go.E.Spec Try.prog 8 [] m (fun v _ _ => v = .bool r) := by
  refine Spec_enter Try.func8 rfl rfl rfl (fun w0 => ?_)
  refine WK.sub (e' := []) trivial ?_
  refine WK.sub (e' := []) trivial ?_
  unfold fiduciallaw45_known at hm
  refine WK_seq ?_
  refine WK_region ?_
  refine WO_pure tbok 1 [(0, .bool false)] rfl ⟨rfl, trivial⟩ ?_
  refine WO_end ?_
  refine WK_seq ?_
  refine WK_region ?_
  refine WO_bslice (E := (I1 .i64)) tbok (fun _ => rfl) (by decide) [.int .i64 0, .int .i64 3] ([0, 3] : List Int) rfl rfl trivial rfl rfl rfl rfl rfl rfl rfl rfl rfl rfl rfl rfl (fun b1 hb1 => ?_)
  refine WO.cls (C' := St w0 m m [[⟨b1, 3, ([0, 3] : List Int).flatMap (I1 .i64)⟩]]) (fun _ h => h) ?_
  refine WO_bslice (E := (I1 .i64)) tbok (fun _ => rfl) (by decide) [.int .i64 5, .int .i64 1] ([5, 1] : List Int) rfl rfl trivial rfl rfl rfl rfl rfl rfl rfl rfl rfl rfl rfl rfl (fun b3 hb3 => ?_)
  refine WO.cls (C' := St w0 m m [[⟨b1, 3, ([0, 3] : List Int).flatMap (I1 .i64)⟩], [⟨b3, 3, ([5, 1] : List Int).flatMap (I1 .i64)⟩]]) (fun _ h => h) ?_
  refine WO_bslice (E := (I1 .i64)) tbok (fun _ => rfl) (by decide) [.int .i64 0, .int .i64 3] ([0, 3] : List Int) rfl rfl trivial rfl rfl rfl rfl rfl rfl rfl rfl rfl rfl rfl rfl (fun b5 hb5 => ?_)
  refine WO.cls (C' := St w0 m m [[⟨b1, 3, ([0, 3] : List Int).flatMap (I1 .i64)⟩], [⟨b3, 3, ([5, 1] : List Int).flatMap (I1 .i64)⟩], [⟨b5, 3, ([0, 3] : List Int).flatMap (I1 .i64)⟩]]) (fun _ h => h) ?_
  refine WO_freeze 0 rfl (fun m8 hle9 hmm10 => ?_)
  refine WO.cls (C' := St w0 m m8 [[], [⟨b3, 3, ([5, 1] : List Int).flatMap (I1 .i64)⟩], [⟨b5, 3, ([0, 3] : List Int).flatMap (I1 .i64)⟩]]) (fun _ h => h) ?_
  refine WO_freeze 1 rfl (fun m11 hle12 hmm13 => ?_)
  refine WO.cls (C' := St w0 m m11 [[], [], [⟨b5, 3, ([0, 3] : List Int).flatMap (I1 .i64)⟩]]) (fun _ h => h) ?_
  refine WO_freeze 2 rfl (fun m14 hle15 hmm16 => ?_)
  refine WO.cls (C' := St w0 m m14 [[], [], []]) (fun _ h => h) ?_
  refine WO_bsliceX (E := V1) (El := (RowE (FE (I1 .i64)) 1)) tbok (fun _ => rfl) (by decide) [.slice (some ⟨b1, 0, none⟩) 2 2, .slice (some ⟨b3, 0, none⟩) 2 2, .slice (some ⟨b5, 0, none⟩) 2 2] [.slice (some ⟨b1, 0, none⟩) 2 2, .slice (some ⟨b3, 0, none⟩) 2 2, .slice (some ⟨b5, 0, none⟩) 2 2] ([([0, 3] : List Int), ([5, 1] : List Int), ([0, 3] : List Int)] : List (List Int)) rfl rfl trivial rfl rfl rfl rfl rfl rfl rfl rfl rfl rfl rfl rfl ⟨⟨_, rfl, (((OwnE.rd (E := (I1 .i64)) (k := 1) (fun _ => rfl) hb1 hmm10).mono (mono_FE _) hle12).mono (mono_FE _) hle15)⟩, ⟨_, rfl, ((OwnE.rd (E := (I1 .i64)) (k := 1) (fun _ => rfl) hb3 hmm13).mono (mono_FE _) hle15)⟩, ⟨_, rfl, (OwnE.rd (E := (I1 .i64)) (k := 1) (fun _ => rfl) hb5 hmm16)⟩, trivial⟩ (fun b7 hb7 => ?_)
  refine WO.cls (C' := St w0 m m14 [[], [], [], [⟨b7, 24, [.slice (some ⟨b1, 0, none⟩) 2 2, .slice (some ⟨b3, 0, none⟩) 2 2, .slice (some ⟨b5, 0, none⟩) 2 2]⟩]]) (fun _ h => h) ?_
  refine WO_pure tbok 1 [(0, .bool false), (1, .slice (some ⟨b7, 0, none⟩) 3 3)] rfl ⟨rfl, rfl, trivial⟩ ?_
  refine WO_end ?_
  refine WK_seq ?_
  refine WK_region ?_
  refine WO_pure tbok 1 [(0, .bool false), (1, .slice (some ⟨b7, 0, none⟩) 3 3), (11, .slice (some ⟨b7, 0, none⟩) 3 3)] rfl ⟨rfl, rfl, rfl, trivial⟩ ?_
  refine WO_freeze 3 rfl (fun m18 hle19 hmm20 => ?_)
  refine WO.cls (C' := St w0 m m18 [[], [], [], []]) (fun _ h => h) ?_
  obtain ⟨⟨y_1, y_2, y_3, y_4⟩, hc21, hm⟩ := bind_some hm
  refine WO_call2 (aggregate_Line_Q (y_1, y_2, y_3, y_4)) rfl rfl trivial rfl rfl rfl rfl ⟨10, #[], #[], rfl, callable_10, aggregate_Line_walk (OwnX.rd (E := V1) (k := 1) (fun _ => rfl) hb7 (mono_RowE (mono_FE _) _) hle19 hmm20) hc21⟩ (fun v29 m30 L28 hle31 hq => ?_)
  obtain ⟨a22, qa22, c23, a25, qa25, c26, rfl, h32, h33⟩ := hq
  obtain rfl := SlR.qlen h32
  obtain rfl := SlR.qlen h33
  refine WO.cls (C' := St w0 m m30 [[], [], [], [], L28]) (fun _ h => h.sub (by simp)) ?_
  refine WO_pure tbok 9 [(0, .bool false), (1, .slice (some ⟨b7, 0, none⟩) 3 3), (2, .slice a22 ((y_1).length) c23), (3, .int .i64 y_2), (4, .slice a25 ((y_3).length) c26), (5, .int .i64 y_4)] rfl ⟨rfl, rfl, rfl, rfl, rfl, rfl, trivial⟩ ?_
  refine WO_end ?_
  refine WK_seq ?_
  refine WK_region ?_
  refine WO_pure tbok 3 [(0, .bool false), (1, .slice (some ⟨b7, 0, none⟩) 3 3), (2, .slice a22 ((y_1).length) c23), (3, .int .i64 y_2), (4, .slice a25 ((y_3).length) c26), (19, .bool (y_4 == 0))] rfl ⟨rfl, rfl, rfl, rfl, rfl, rfl, trivial⟩ ?_
  refine WO_split (d := 19) (b := y_4 == 0) rfl (fun hb34 => ?_) (fun hb34 => ?_)
  · have hm := ifT hb34 hm
    refine WO_pure tbok 4 [(0, .bool false), (1, .slice (some ⟨b7, 0, none⟩) 3 3), (2, .slice a22 ((y_1).length) c23), (4, .slice a25 ((y_3).length) c26), (23, .bool (y_2 == 3))] rfl ⟨rfl, rfl, rfl, rfl, rfl, trivial⟩ ?_
    refine WO_split (d := 23) (b := y_2 == 3) rfl (fun hb35 => ?_) (fun hb35 => ?_)
    · have hm := ifT hb35 hm
      refine WO_pure tbok 1 [(0, .bool false), (1, .slice (some ⟨b7, 0, none⟩) 3 3), (4, .slice a25 ((y_3).length) c26), (23, .bool true), (24, .slice a22 ((y_1).length) c23)] rfl ⟨rfl, rfl, rfl, rfl, rfl, trivial⟩ ?_
      refine WO_bslice (E := (I1 .i64)) tbok (fun _ => rfl) (by decide) [.int .i64 0, .int .i64 1, .int .i64 0] ([0, 1, 0] : List Int) rfl rfl trivial rfl rfl rfl rfl rfl rfl rfl rfl rfl rfl rfl rfl (fun b36 hb36 => ?_)
      refine WO.cls (C' := St w0 m m30 [[], [], [], [], L28, [⟨b36, 3, ([0, 1, 0] : List Int).flatMap (I1 .i64)⟩]]) (fun _ h => h) ?_
      obtain ⟨y_5, hc38, hm⟩ := bind_some hm
      refine WO_call0 (.bool y_5) rfl rfl trivial rfl rfl rfl rfl St_closed ⟨13, #[], #[], rfl, callable_13, fun w hw => ⟨_, hw.satV, slices_Equal_sint_walk (h32.mono (mono_FE _) hw.leV) (OwnE.rd (E := (I1 .i64)) (k := 1) (fun _ => rfl) hb36 (fun _ hx => hw.memV (i := 5) rfl hx)) hc38⟩⟩ ?_
      refine WO_pure tbok 2 [(0, .bool false), (1, .slice (some ⟨b7, 0, none⟩) 3 3), (4, .slice a25 ((y_3).length) c26), (28, .bool y_5)] rfl ⟨rfl, rfl, rfl, rfl, trivial⟩ ?_
      refine WO_split (d := 28) (b := y_5) rfl (fun hb39 => ?_) (fun hb39 => ?_)
      · have hm := ifT hb39 hm
        refine WO_pure tbok 2 [(0, .bool false), (1, .slice (some ⟨b7, 0, none⟩) 3 3), (4, .slice a25 ((y_3).length) c26), (28, .bool true), (29, .slice (some ⟨b7, 0, none⟩) 3 3), (30, .slice a25 ((y_3).length) c26)] rfl ⟨rfl, rfl, rfl, rfl, rfl, rfl, trivial⟩ ?_
        obtain ⟨y_6, hc40, hm⟩ := bind_some hm
        refine WO_call0 (.int .i64 y_6) rfl rfl trivial rfl rfl rfl rfl St_closed ⟨15, #[], #[], rfl, callable_15, fun w hw => ⟨_, hw.sat, aggregate_Prove_walk ((OwnX.rd (E := V1) (k := 1) (fun _ => rfl) hb7 (mono_RowE (mono_FE _) _) hle19 hmm20).mono (mono_RowE (mono_FE _) _) hle31) h33 hc40⟩⟩ ?_
        refine WO_pure tbok 3 [(0, .bool false), (1, .slice (some ⟨b7, 0, none⟩) 3 3), (4, .slice a25 ((y_3).length) c26), (34, .bool (y_6 == 0))] rfl ⟨rfl, rfl, rfl, rfl, trivial⟩ ?_
        refine WO_split (d := 34) (b := y_6 == 0) rfl (fun hb41 => ?_) (fun hb41 => ?_)
        · have hm := ifT hb41 hm
          refine WO_pure tbok 2 [(0, .bool false), (34, .bool true), (35, .slice (some ⟨b7, 0, none⟩) 3 3), (36, .slice a25 ((y_3).length) c26)] rfl ⟨rfl, rfl, rfl, rfl, trivial⟩ ?_
          obtain ⟨y_7, hc42, hm⟩ := bind_some hm
          refine WO_call0 (.int .i64 y_7) rfl rfl trivial rfl rfl rfl rfl St_closed ⟨15, #[], #[], rfl, callable_15, fun w hw => ⟨_, hw.sat, aggregate_Prove_walk ((OwnX.rd (E := V1) (k := 1) (fun _ => rfl) hb7 (mono_RowE (mono_FE _) _) hle19 hmm20).mono (mono_RowE (mono_FE _) _) hle31) h33 hc42⟩⟩ ?_
          refine WO_pure tbok 3 [(0, .bool false), (40, .bool (y_7 == 12))] rfl ⟨rfl, rfl, trivial⟩ ?_
          refine WO_split (d := 40) (b := y_7 == 12) rfl (fun hb43 => ?_) (fun hb43 => ?_)
          · have hm := ifT hb43 hm
            obtain ⟨y_8, hc44, hm⟩ := bind_some hm
            refine WO_call0 (.int .i64 y_8) rfl rfl trivial rfl rfl rfl rfl St_closed ⟨20, #[], #[], rfl, callable_20, fun w hw => ⟨_, hw.sat, aggregate_Check_walk SlR_nil hc44⟩⟩ ?_
            refine WO_pure tbok 3 [(0, .bool (y_8 == 1))] rfl ⟨rfl, trivial⟩ ?_
            refine WO_end ?_
            cases hm
            exact WK_ret (ret_out (L := []) (RLc_tmp rfl RLc_nil) (List.nil_sublist _) rfl)
          · have hm := ifF hb43 hm
            refine WO_skip rfl rfl ?_
            refine WO_pure tbok 3 [(0, .bool false)] rfl ⟨rfl, trivial⟩ ?_
            refine WO_end ?_
            cases hm
            exact WK_ret (ret_out (L := []) (RLc_tmp rfl RLc_nil) (List.nil_sublist _) rfl)
        · have hm := ifF hb41 hm
          refine WO_pure tbok 2 [(0, .bool false), (34, .bool false)] rfl ⟨rfl, rfl, trivial⟩ ?_
          refine WO_skip rfl rfl ?_
          refine WO_pure tbok 3 [(0, .bool false), (40, .bool false)] rfl ⟨rfl, rfl, trivial⟩ ?_
          refine WO_skip rfl rfl ?_
          refine WO_pure tbok 3 [(0, .bool false)] rfl ⟨rfl, trivial⟩ ?_
          refine WO_end ?_
          cases hm
          exact WK_ret (ret_out (L := []) (RLc_tmp rfl RLc_nil) (List.nil_sublist _) rfl)
      · have hm := ifF hb39 hm
        refine WO_pure tbok 2 [(0, .bool false), (1, .slice (some ⟨b7, 0, none⟩) 3 3), (4, .slice a25 ((y_3).length) c26), (28, .bool false)] rfl ⟨rfl, rfl, rfl, rfl, trivial⟩ ?_
        refine WO_skip rfl rfl ?_
        refine WO_pure tbok 5 [(0, .bool false), (34, .bool false)] rfl ⟨rfl, rfl, trivial⟩ ?_
        refine WO_skip rfl rfl ?_
        refine WO_pure tbok 3 [(0, .bool false), (40, .bool false)] rfl ⟨rfl, rfl, trivial⟩ ?_
        refine WO_skip rfl rfl ?_
        refine WO_pure tbok 3 [(0, .bool false)] rfl ⟨rfl, trivial⟩ ?_
        refine WO_end ?_
        cases hm
        exact WK_ret (ret_out (L := []) (RLc_tmp rfl RLc_nil) (List.nil_sublist _) rfl)
    · have hm := ifF hb35 hm
      refine WO_pure tbok 1 [(0, .bool false), (1, .slice (some ⟨b7, 0, none⟩) 3 3), (4, .slice a25 ((y_3).length) c26), (23, .bool false)] rfl ⟨rfl, rfl, rfl, rfl, trivial⟩ ?_
      refine WO_skip rfl rfl ?_
      refine WO_skip rfl rfl ?_
      refine WO_pure tbok 4 [(0, .bool false), (1, .slice (some ⟨b7, 0, none⟩) 3 3), (4, .slice a25 ((y_3).length) c26), (28, .bool false)] rfl ⟨rfl, rfl, rfl, rfl, trivial⟩ ?_
      refine WO_skip rfl rfl ?_
      refine WO_pure tbok 5 [(0, .bool false), (34, .bool false)] rfl ⟨rfl, rfl, trivial⟩ ?_
      refine WO_skip rfl rfl ?_
      refine WO_pure tbok 3 [(0, .bool false), (40, .bool false)] rfl ⟨rfl, rfl, trivial⟩ ?_
      refine WO_skip rfl rfl ?_
      refine WO_pure tbok 3 [(0, .bool false)] rfl ⟨rfl, trivial⟩ ?_
      refine WO_end ?_
      cases hm
      exact WK_ret (ret_out (L := []) (RLc_tmp rfl RLc_nil) (List.nil_sublist _) rfl)
  · have hm := ifF hb34 hm
    refine WO_pure tbok 5 [(0, .bool false), (1, .slice (some ⟨b7, 0, none⟩) 3 3), (4, .slice a25 ((y_3).length) c26), (23, .bool false)] rfl ⟨rfl, rfl, rfl, rfl, trivial⟩ ?_
    refine WO_skip rfl rfl ?_
    refine WO_skip rfl rfl ?_
    refine WO_pure tbok 4 [(0, .bool false), (1, .slice (some ⟨b7, 0, none⟩) 3 3), (4, .slice a25 ((y_3).length) c26), (28, .bool false)] rfl ⟨rfl, rfl, rfl, rfl, trivial⟩ ?_
    refine WO_skip rfl rfl ?_
    refine WO_pure tbok 5 [(0, .bool false), (34, .bool false)] rfl ⟨rfl, rfl, trivial⟩ ?_
    refine WO_skip rfl rfl ?_
    refine WO_pure tbok 3 [(0, .bool false), (40, .bool false)] rfl ⟨rfl, rfl, trivial⟩ ?_
    refine WO_skip rfl rfl ?_
    refine WO_pure tbok 3 [(0, .bool false)] rfl ⟨rfl, trivial⟩ ?_
    refine WO_end ?_
    cases hm
    exact WK_ret (ret_out (L := []) (RLc_tmp rfl RLc_nil) (List.nil_sublist _) rfl)
theorem fiduciallaw45_few_c1_walk {m : Mu} {p0 : List Int} {a_p0 : Option Addr} {q_p0 c_p0 : Nat} (h_p0 : SlR (FE (I1 .i64)) 1 m (.slice a_p0 q_p0 c_p0) p0) {r : Bool} (hm : fiduciallaw45_few_c1 p0 = some r) :
    Go.E.Spec Try.prog 30 [.slice a_p0 q_p0 c_p0] m (fun v _ _ => v = .bool r) := by
  refine Spec_enter Try.func30 rfl rfl rfl (fun w0 => ?_)
  refine WK.sub (e' := [(0, .slice a_p0 q_p0 c_p0)]) ⟨rfl, trivial⟩ ?_
  obtain rfl := SlR.qlen h_p0
  refine WK.sub (e' := [(0, .slice a_p0 p0.length c_p0)]) ⟨rfl, trivial⟩ ?_
  unfold fiduciallaw45_few_c1 at hm
  refine WK_seq ?_
  refine WK_region ?_
  refine WO_pure tbok 1 [(0, .slice a_p0 p0.length c_p0), (2, .bool false)] rfl ⟨rfl, rfl, trivial⟩ ?_
  refine WO_end ?_
  refine WK_seq ?_
  refine WK_region ?_
  refine WO_pure tbok 4 [(2, .bool (decide (20 < (p0.length : Int))))] rfl ⟨rfl, trivial⟩ ?_
  refine WO_end ?_
  cases hm
  exact WK_ret (ret_out (L := []) (RLc_tmp rfl RLc_nil) (List.nil_sublist _) rfl)
theorem fiduciallaw45_few_walk {m : Mu} {p0 : List (List Int)} {a_p0 : Option Addr} {q_p0 c_p0 : Nat} (h_p0 : SlR (RowE (FE (I1 .i64)) 1) 1 m (.slice a_p0 q_p0 c_p0) p0) {r : Bool} (hm : fiduciallaw45_few p0 = some r) :
    Go.E.Spec Try.prog 9 [.slice a_p0 q_p0 c_p0] m (fun v _ _ => v = .bool r) := by
  refine Spec_enter Try.func9 rfl rfl rfl (fun w0 => ?_)
  refine WK.sub (e' := [(0, .slice a_p0 q_p0 c_p0)]) ⟨rfl, trivial⟩ ?_
  obtain rfl := SlR.qlen h_p0
  refine WK.sub (e' := [(0, .slice a_p0 p0.length c_p0)]) ⟨rfl, trivial⟩ ?_
  unfold fiduciallaw45_few at hm
  refine WK_seq ?_
  refine WK_region ?_
  refine WO_pure tbok 1 [(0, .slice a_p0 p0.length c_p0), (2, .bool false)] rfl ⟨rfl, rfl, trivial⟩ ?_
  refine WO_end ?_
  refine WK_seq ?_
  refine WK_region ?_
  refine WO_pure tbok 4 [(0, .slice a_p0 p0.length c_p0), (2, .bool false), (6, .bool (decide ((p0.length : Int) ≤ 20)))] rfl ⟨rfl, rfl, rfl, trivial⟩ ?_
  refine WO_split (d := 6) (b := decide ((p0.length : Int) ≤ 20)) rfl (fun hb2 => ?_) (fun hb2 => ?_)
  · have hm := ifT hb2 hm
    refine WO_pure tbok 1 [(2, .bool false), (6, .bool true), (7, .slice a_p0 p0.length c_p0)] rfl ⟨rfl, rfl, rfl, trivial⟩ ?_
    obtain ⟨y_2, hc4, hm⟩ := bind_some hm
    refine WO_call0 (.bool y_2) rfl rfl trivial rfl rfl rfl rfl St_closed ⟨29, #[], #[], rfl, callable_29, fun w hw => ⟨_, hw.sat, slices_ContainsFunc_ssint_walk h_p0 (fun m1 hm1 _ _ _ z_1 h3 _ h => specV_cap callable_30 (fiduciallaw45_few_c1_walk h3 h)) hc4⟩⟩ ?_
    refine WO_pure tbok 3 [(2, .bool (!y_2))] rfl ⟨rfl, trivial⟩ ?_
    refine WO_end ?_
    cases hm
    exact WK_ret (ret_out (L := []) (RLc_tmp rfl RLc_nil) (List.nil_sublist _) rfl)
  · have hm := ifF hb2 hm
    refine WO_pure tbok 1 [(2, .bool false), (6, .bool false)] rfl ⟨rfl, rfl, trivial⟩ ?_
    refine WO_skip rfl rfl ?_
    refine WO_pure tbok 3 [(2, .bool false)] rfl ⟨rfl, trivial⟩ ?_
    refine WO_end ?_
    cases hm
    exact WK_ret (ret_out (L := []) (RLc_tmp rfl RLc_nil) (List.nil_sublist _) rfl)
theorem slices_IndexFunc_sint_walk {m : Mu} {p0 : List Int} {p1 : Int → Option Bool} {a_p0 : Option Addr} {q_p0 c_p0 : Nat} {p1v : Value} (h_p0 : SlR (FE (I1 .i64)) 1 m (.slice a_p0 q_p0 c_p0) p0) (hp1 : ∀ (m1 : Mu), Le m m1 → ∀ (u1 : Int), ∀ (r : Bool), p1 u1 = some r → SpecV Try.prog p1v [.int .i64 u1] m1 (fun v _ _ => v = .bool r)) {r : Int} (hm : slices_IndexFunc_sint p0 p1 = some r) :
    Go.E.Spec Try.prog 59 [.slice a_p0 q_p0 c_p0, p1v] m (fun v _ _ => v = .int .i64 r) := by
  refine Spec_enter Try.func59 rfl rfl rfl (fun w0 => ?_)
  refine WK.sub (e' := [(0, .slice a_p0 q_p0 c_p0), (1, p1v)]) ⟨rfl, rfl, trivial⟩ ?_
  obtain rfl := SlR.qlen h_p0
  refine WK.sub (e' := [(0, .slice a_p0 p0.length c_p0), (1, p1v)]) ⟨rfl, rfl, trivial⟩ ?_
  unfold slices_IndexFunc_sint at hm
  refine WK_seq ?_
  refine WK_region ?_
  refine WO_pure tbok 1 [(0, .slice a_p0 p0.length c_p0), (1, p1v), (4, .int .i64 0)] rfl ⟨rfl, rfl, rfl, trivial⟩ ?_
  refine WO_end ?_
  refine WK_seq ?_
  refine WK_seq ?_
  refine WK_region ?_
  refine WO_pure tbok 3 [(0, .slice a_p0 p0.length c_p0), (1, p1v), (4, .int .i64 0), (7, .int .i64 (p0.length : Int)), (8, .int .i64 0)] rfl ⟨rfl, rfl, rfl, rfl, rfl, trivial⟩ ?_
  refine WO_end ?_
  obtain ⟨x2, hx3, hm⟩ := bind_some hm
  refine WK_join (β := Unit × Unit) (fun p => Sum.inr p.1 = x2) (fun p => [(4, .int .i64 0)]) (fun p => St w0 m m []) ?_ (fun hk4 => ?_)
  · rintro ⟨⟨⟩, ⟨⟩⟩ hq10
    subst hq10
    refine WK.sub (e' := [(4, .int .i64 0)]) ⟨rfl, trivial⟩ (WK.cls (C' := St w0 m m []) (fun _ h => h) ?_)
    refine WK_seq ?_
    refine WK_region ?_
    refine WO_pure tbok 1 [(4, .int .i64 (-1))] rfl ⟨rfl, trivial⟩ ?_
    refine WO_end ?_
    cases hm
    exact WK_ret (ret_out (L := []) (RLc_tmp rfl RLc_nil) (List.nil_sublist _) rfl)
  · refine WK_block ?_
    refine WK_loop (S := Int) (G := Unit) (fun s => slices_IndexFunc_sint_s1 p0 p1 s) (fun s g => [(0, .slice a_p0 p0.length c_p0), (1, p1v), (4, .int .i64 0), (7, .int .i64 (p0.length : Int)), (8, .int .i64 s)]) (fun s g => St w0 m m []) (fun s g => True) FUEL 0 () x2 hx3 trivial ⟨rfl, rfl, rfl, rfl, rfl, trivial⟩ (fun _ h => h) ?_
    rintro s_1 ⟨⟩ o6 fl7 hm5 - hn8 hd9
    have hm5 : slices_IndexFunc_sint_s1 p0 p1 s_1 = some o6 := hm5
    unfold slices_IndexFunc_sint_s1 at hm5
    refine WK.sub (e' := [(0, .slice a_p0 p0.length c_p0), (1, p1v), (4, .int .i64 0), (7, .int .i64 (p0.length : Int)), (8, .int .i64 s_1)]) ⟨rfl, rfl, rfl, rfl, rfl, trivial⟩ (WK.cls (C' := St w0 m m []) (fun _ h => h) ?_)
    refine WK_seq ?_
    refine WK_region ?_
    refine WO_pure tbok 1 [(0, .slice a_p0 p0.length c_p0), (1, p1v), (4, .int .i64 0), (7, .int .i64 (p0.length : Int)), (8, .int .i64 s_1), (9, .bool (decide (s_1 < (p0.length : Int))))] rfl ⟨rfl, rfl, rfl, rfl, rfl, rfl, trivial⟩ ?_
    refine WO_end ?_
    refine WK_seq ?_
    refine WK_cond (b := decide (s_1 < (p0.length : Int))) rfl (fun hb11 => ?_) (fun hb11 => ?_)
    · have hm5 := ifT hb11 hm5
      refine WK_skip ?_
      refine WK_seq ?_
      refine WK_block ?_
      refine WK_seq ?_
      refine WK_region ?_
      refine WO_pure tbok 2 [(0, .slice a_p0 p0.length c_p0), (1, p1v), (4, .int .i64 0), (5, .int .i64 s_1), (7, .int .i64 (p0.length : Int)), (8, .int .i64 s_1)] rfl ⟨rfl, rfl, rfl, rfl, rfl, rfl, trivial⟩ ?_
      refine WO_end ?_
      refine WK_seq ?_
      refine WK_region ?_
      refine WO_pure tbok 3 [(0, .slice a_p0 p0.length c_p0), (1, p1v), (4, .int .i64 0), (5, .int .i64 s_1), (7, .int .i64 (p0.length : Int)), (8, .int .i64 s_1), (11, p1v), (12, .slice a_p0 p0.length c_p0), (13, .int .i64 s_1)] rfl ⟨rfl, rfl, rfl, rfl, rfl, rfl, rfl, rfl, rfl, trivial⟩ ?_
      obtain ⟨v_2, hy12, hm5⟩ := bind_some hm5
      obtain ⟨hc13, hy12⟩ := ix_some hy12
      refine WO_index tbok rfl rfl rfl rfl rfl rfl rfl rfl (SlR.addr h_p0) hc13 ?_
      refine WO_loadE tbok rfl rfl rfl rfl (fun _ h => St.sat h) h_p0 hy12 rfl ?_
      obtain ⟨y_3, hc14, hm5⟩ := bind_some hm5
      obtain ⟨f0, first0, cap0, hf0, hcal0, hsp0⟩ := hp1 _ (Le.refl _) v_2 _ hc14
      refine WO_call0 (.bool y_3) rfl rfl trivial rfl rfl rfl rfl St_closed ⟨f0, first0, cap0, hf0, hcal0, fun w hw => ⟨m, hw.sat, hsp0⟩⟩ ?_
      refine WO_end ?_
      refine WK_cond (b := y_3) rfl (fun hb15 => ?_) (fun hb15 => ?_)
      · have hm5 := ifT hb15 hm5
        refine WK_seq ?_
        refine WK_region ?_
        refine WO_pure tbok 2 [(0, .slice a_p0 p0.length c_p0), (1, p1v), (4, .int .i64 s_1), (7, .int .i64 (p0.length : Int)), (8, .int .i64 s_1)] rfl ⟨rfl, rfl, rfl, rfl, rfl, trivial⟩ ?_
        refine WO_end ?_
        cases hm5
        have hq := hd9 _ rfl
        subst hq
        have hm : some _ = some _ := hm
        cases hm
        exact WK_ret (ret_out (L := []) (RLc_tmp rfl RLc_nil) (List.nil_sublist _) rfl)
      · have hm5 := ifF hb15 hm5
        refine WK_skip ?_
        refine WK_blk ?_
        refine WK_region ?_
        refine WO_pure tbok 2 [(0, .slice a_p0 p0.length c_p0), (1, p1v), (4, .int .i64 0), (7, .int .i64 (p0.length : Int)), (8, .int .i64 (w64 (s_1 + 1)))] rfl ⟨rfl, rfl, rfl, rfl, rfl, trivial⟩ ?_
        refine WO_end ?_
        cases hm5
        refine WK.sub ?_ (WK.cls (fun _ h => h) (hn8 _ () rfl trivial))
        exact ⟨rfl, rfl, rfl, rfl, rfl, trivial⟩
    · have hm5 := ifF hb11 hm5
      refine WK_exit rfl ?_
      cases hm5
      refine WK.sub ?_ (WK.cls (fun _ h => h) (hk4 ((), ()) (hd9 _ rfl)))
      exact ⟨rfl, trivial⟩
theorem slices_ContainsFunc_sint_walk {m : Mu} {p0 : List Int} {p1 : Int → Option Bool} {a_p0 : Option Addr} {q_p0 c_p0 : Nat} {p1v : Value} (h_p0 : SlR (FE (I1 .i64)) 1 m (.slice a_p0 q_p0 c_p0) p0) (hp1 : ∀ (m1 : Mu), Le m m1 → ∀ (u1 : Int), ∀ (r : Bool), p1 u1 = some r → SpecV Try.prog p1v [.int .i64 u1] m1 (fun v _ _ => v = .bool r)) {r : Bool} (hm : slices_ContainsFunc_sint p0 p1 = some r) :
    Go.E.Spec Try.prog 43 [.slice a_p0 q_p0 c_p0, p1v] m (fun v _ _ => v = .bool r) := by
  refine Spec_enter Try.func43 rfl rfl rfl (fun w0 => ?_)
  refine WK.sub (e' := [(0, .slice a_p0 q_p0 c_p0), (1, p1v)]) ⟨rfl, rfl, trivial⟩ ?_
  obtain rfl := SlR.qlen h_p0
  refine WK.sub (e' := [(0, .slice a_p0 p0.length c_p0), (1, p1v)]) ⟨rfl, rfl, trivial⟩ ?_
  unfold slices_ContainsFunc_sint at hm
  refine WK_seq ?_
  refine WK_region ?_
  refine WO_pure tbok 1 [(0, .slice a_p0 p0.length c_p0), (1, p1v), (4, .bool false)] rfl ⟨rfl, rfl, rfl, trivial⟩ ?_
  refine WO_end ?_
  refine WK_seq ?_
  refine WK_region ?_
  refine WO_pure tbok 2 [(4, .bool false), (5, .slice a_p0 p0.length c_p0), (6, p1v)] rfl ⟨rfl, rfl, rfl, trivial⟩ ?_
  obtain ⟨y_1, hc2, hm⟩ := bind_some hm
  refine WO_call0 (.int .i64 y_1) rfl rfl trivial rfl rfl rfl rfl St_closed ⟨59, #[], #[], rfl, callable_59, fun w hw => ⟨_, hw.sat, slices_IndexFunc_sint_walk h_p0 hp1 hc2⟩⟩ ?_
  refine WO_pure tbok 2 [(4, .bool (decide (0 ≤ y_1)))] rfl ⟨rfl, trivial⟩ ?_
  refine WO_end ?_
  cases hm
  exact WK_ret (ret_out (L := []) (RLc_tmp rfl RLc_nil) (List.nil_sublist _) rfl)
theorem fiduciallaw45_line_c1_walk {m : Mu} {p0 : Int}   {r : Bool} (hm : fiduciallaw45_line_c1 p0 = some r) :
    Go.E.Spec Try.prog 45 [.int .i64 p0] m (fun v _ _ => v = .bool r) := by
  refine Spec_enter Try.func45 rfl rfl rfl (fun w0 => ?_)
  refine WK.sub (e' := [(0, .int .i64 p0)]) ⟨rfl, trivial⟩ ?_
  refine WK.sub (e' := [(0, .int .i64 p0)]) ⟨rfl, trivial⟩ ?_
  unfold fiduciallaw45_line_c1 at hm
  refine WK_seq ?_
  refine WK_region ?_
  refine WO_pure tbok 1 [(0, .int .i64 p0), (2, .bool false)] rfl ⟨rfl, rfl, trivial⟩ ?_
  refine WO_end ?_
  refine WK_seq ?_
  refine WK_region ?_
  refine WO_pure tbok 3 [(0, .int .i64 p0), (2, .bool false), (5, .bool (decide (p0 < 0)))] rfl ⟨rfl, rfl, rfl, trivial⟩ ?_
  refine WO_split (d := 5) (b := decide (p0 < 0)) rfl (fun hb1 => ?_) (fun hb1 => ?_)
  · have hm := ifT hb1 hm
    refine WO_pure tbok 4 [(2, .bool true)] rfl ⟨rfl, trivial⟩ ?_
    refine WO_end ?_
    cases hm
    exact WK_ret (ret_out (L := []) (RLc_tmp rfl RLc_nil) (List.nil_sublist _) rfl)
  · have hm := ifF hb1 hm
    refine WO_pure tbok 4 [(2, .bool (decide (1048576 < p0)))] rfl ⟨rfl, trivial⟩ ?_
    refine WO_end ?_
    cases hm
    exact WK_ret (ret_out (L := []) (RLc_tmp rfl RLc_nil) (List.nil_sublist _) rfl)
theorem fiduciallaw45_line_walk {m : Mu} {p0 : List (List Int)} {a_p0 : Option Addr} {q_p0 c_p0 : Nat} (h_p0 : SlR (RowE (FE (I1 .i64)) 1) 1 m (.slice a_p0 q_p0 c_p0) p0) {r : Bool} (hm : fiduciallaw45_line p0 = some r) :
    Go.E.Spec Try.prog 21 [.slice a_p0 q_p0 c_p0] m (fun v _ _ => v = .bool r) := by
  refine Spec_enter Try.func21 rfl rfl rfl (fun w0 => ?_)
  refine WK.sub (e' := [(0, .slice a_p0 q_p0 c_p0)]) ⟨rfl, trivial⟩ ?_
  obtain rfl := SlR.qlen h_p0
  refine WK.sub (e' := [(0, .slice a_p0 p0.length c_p0)]) ⟨rfl, trivial⟩ ?_
  unfold fiduciallaw45_line at hm
  refine WK_seq ?_
  refine WK_region ?_
  refine WO_pure tbok 1 [(0, .slice a_p0 p0.length c_p0), (2, .bool false)] rfl ⟨rfl, rfl, trivial⟩ ?_
  refine WO_end ?_
  refine WK_seq ?_
  refine WK_seq ?_
  obtain ⟨s_1, hx2, hm⟩ := bind_some hm
  refine WK_meet [(0, .slice a_p0 p0.length c_p0), (2, .bool false), (26, .bool s_1)] (St w0 m m []) ?_ (fun hk3 => ?_)
  · refine WK_cond (b := s_1) rfl (fun hb4 => ?_) (fun hb4 => ?_)
    · have hm := ifT hb4 hm
      refine WK_seq ?_
      refine WK_region ?_
      refine WO_pure tbok 1 [(0, .slice a_p0 p0.length c_p0), (2, .bool false)] rfl ⟨rfl, rfl, trivial⟩ ?_
      refine WO_end ?_
      cases hm
      exact WK_ret (ret_out (L := []) (RLc_tmp rfl RLc_nil) (List.nil_sublist _) rfl)
    · have hm := ifF hb4 hm
      refine WK_skip ?_
      refine WK_seq ?_
      refine WK_seq ?_
      refine WK_region ?_
      refine WO_pure tbok 3 [(0, .slice a_p0 p0.length c_p0), (2, .bool false), (27, .slice a_p0 p0.length c_p0), (28, .int .i64 (p0.length : Int)), (29, .int .i64 0)] rfl ⟨rfl, rfl, rfl, rfl, rfl, trivial⟩ ?_
      refine WO_end ?_
      obtain ⟨x5, hx6, hm⟩ := bind_some hm
      refine WK_join (β := Unit × Unit) (fun p => Sum.inr p.1 = x5) (fun p => [(2, .bool false)]) (fun p => St w0 m m []) ?_ (fun hk7 => ?_)
      · rintro ⟨⟨⟩, ⟨⟩⟩ hq13
        subst hq13
        refine WK.sub (e' := [(2, .bool false)]) ⟨rfl, trivial⟩ (WK.cls (C' := St w0 m m []) (fun _ h => h) ?_)
        refine WK_seq ?_
        refine WK_region ?_
        refine WO_pure tbok 1 [(2, .bool true)] rfl ⟨rfl, trivial⟩ ?_
        refine WO_end ?_
        cases hm
        exact WK_ret (ret_out (L := []) (RLc_tmp rfl RLc_nil) (List.nil_sublist _) rfl)
      · refine WK_block ?_
        refine WK_loop (S := Int) (G := Unit) (fun s => fiduciallaw45_line_s1 p0 s) (fun s g => [(0, .slice a_p0 p0.length c_p0), (2, .bool false), (27, .slice a_p0 p0.length c_p0), (28, .int .i64 (p0.length : Int)), (29, .int .i64 s)]) (fun s g => St w0 m m []) (fun s g => True) FUEL 0 () x5 hx6 trivial ⟨rfl, rfl, rfl, rfl, rfl, trivial⟩ (fun _ h => h) ?_
        rintro s_2 ⟨⟩ o9 fl10 hm8 - hn11 hd12
        have hm8 : fiduciallaw45_line_s1 p0 s_2 = some o9 := hm8
        unfold fiduciallaw45_line_s1 at hm8
        refine WK.sub (e' := [(0, .slice a_p0 p0.length c_p0), (2, .bool false), (27, .slice a_p0 p0.length c_p0), (28, .int .i64 (p0.length : Int)), (29, .int .i64 s_2)]) ⟨rfl, rfl, rfl, rfl, rfl, trivial⟩ (WK.cls (C' := St w0 m m []) (fun _ h => h) ?_)
        refine WK_seq ?_
        refine WK_region ?_
        refine WO_pure tbok 1 [(0, .slice a_p0 p0.length c_p0), (2, .bool false), (27, .slice a_p0 p0.length c_p0), (28, .int .i64 (p0.length : Int)), (29, .int .i64 s_2), (30, .bool (decide (s_2 < (p0.length : Int))))] rfl ⟨rfl, rfl, rfl, rfl, rfl, rfl, trivial⟩ ?_
        refine WO_end ?_
        refine WK_seq ?_
        refine WK_cond (b := decide (s_2 < (p0.length : Int))) rfl (fun hb14 => ?_) (fun hb14 => ?_)
        · have hm8 := ifT hb14 hm8
          refine WK_skip ?_
          refine WK_seq ?_
          refine WK_block ?_
          refine WK_seq ?_
          refine WK_region ?_
          obtain ⟨v_3, hy15, hm8⟩ := bind_some hm8
          obtain ⟨hc16, hy15⟩ := ix_some hy15
          refine WO_index tbok rfl rfl rfl rfl rfl rfl rfl rfl (SlR.addr h_p0) hc16 ?_
          refine WO_loadR tbok rfl rfl rfl rfl (fun _ h => St.sat h) h_p0 hy15 rfl rfl (fun a17 c18 h19 => ?_)
          refine WO_pure tbok 1 [(0, .slice a_p0 p0.length c_p0), (2, .bool false), (4, .slice a17 ((v_3).length) c18), (27, .slice a_p0 p0.length c_p0), (28, .int .i64 (p0.length : Int)), (29, .int .i64 s_2)] rfl ⟨rfl, rfl, rfl, rfl, rfl, rfl, trivial⟩ ?_
          refine WO_end ?_
          refine WK_seq ?_
          obtain ⟨s_4, hx21, hm8⟩ := bind_some hm8
          refine WK_meet [(0, .slice a_p0 p0.length c_p0), (2, .bool false), (27, .slice a_p0 p0.length c_p0), (28, .int .i64 (p0.length : Int)), (29, .int .i64 s_2), (43, .bool s_4)] (St w0 m m []) ?_ (fun hk22 => ?_)
          · refine WK_cond (b := s_4) rfl (fun hb23 => ?_) (fun hb23 => ?_)
            · have hm8 := ifT hb23 hm8
              refine WK_seq ?_
              refine WK_region ?_
              refine WO_pure tbok 1 [(0, .slice a_p0 p0.length c_p0), (2, .bool false), (27, .slice a_p0 p0.length c_p0), (28, .int .i64 (p0.length : Int)), (29, .int .i64 s_2)] rfl ⟨rfl, rfl, rfl, rfl, rfl, trivial⟩ ?_
              refine WO_end ?_
              cases hm8
              have hq := hd12 _ rfl
              subst hq
              have hm : some _ = some _ := hm
              cases hm
              exact WK_ret (ret_out (L := []) (RLc_tmp rfl RLc_nil) (List.nil_sublist _) rfl)
            · have hm8 := ifF hb23 hm8
              refine WK_skip ?_
              refine WK_blk ?_
              refine WK_region ?_
              refine WO_pure tbok 2 [(0, .slice a_p0 p0.length c_p0), (2, .bool false), (27, .slice a_p0 p0.length c_p0), (28, .int .i64 (p0.length : Int)), (29, .int .i64 (w64 (s_2 + 1)))] rfl ⟨rfl, rfl, rfl, rfl, rfl, trivial⟩ ?_
              refine WO_end ?_
              cases hm8
              refine WK.sub ?_ (WK.cls (fun _ h => h) (hn11 _ () rfl trivial))
              exact ⟨rfl, rfl, rfl, rfl, rfl, trivial⟩
          · refine WK_region ?_
            refine WO_pure tbok 3 [(0, .slice a_p0 p0.length c_p0), (2, .bool false), (4, .slice a17 ((v_3).length) c18), (27, .slice a_p0 p0.length c_p0), (28, .int .i64 (p0.length : Int)), (29, .int .i64 s_2), (34, .int .i64 ((v_3).length : Int)), (35, .slice a_p0 p0.length c_p0)] rfl ⟨rfl, rfl, rfl, rfl, rfl, rfl, rfl, rfl, trivial⟩ ?_
            obtain ⟨v_5, hy24, hx21⟩ := bind_some hx21
            obtain ⟨hc25, hy24⟩ := ix_some hy24
            refine WO_index tbok rfl rfl rfl rfl rfl rfl rfl rfl (SlR.addr h_p0) hc25 ?_
            refine WO_loadR tbok rfl rfl rfl rfl (fun _ h => St.sat h) h_p0 hy24 rfl rfl (fun a26 c27 h28 => ?_)
            refine WO_pure tbok 3 [(0, .slice a_p0 p0.length c_p0), (2, .bool false), (4, .slice a17 ((v_3).length) c18), (27, .slice a_p0 p0.length c_p0), (28, .int .i64 (p0.length : Int)), (29, .int .i64 s_2), (40, .bool (((v_3).length : Int) != ((v_5).length : Int)))] rfl ⟨rfl, rfl, rfl, rfl, rfl, rfl, rfl, trivial⟩ ?_
            refine WO_split (d := 40) (b := ((v_3).length : Int) != ((v_5).length : Int)) rfl (fun hb30 => ?_) (fun hb30 => ?_)
            · have hx21 := ifT hb30 hx21
              refine WO_pure tbok 1 [(0, .slice a_p0 p0.length c_p0), (2, .bool false), (27, .slice a_p0 p0.length c_p0), (28, .int .i64 (p0.length : Int)), (29, .int .i64 s_2), (40, .bool true)] rfl ⟨rfl, rfl, rfl, rfl, rfl, rfl, trivial⟩ ?_
              refine WO_skip rfl rfl ?_
              refine WO_pure tbok 1 [(0, .slice a_p0 p0.length c_p0), (2, .bool false), (27, .slice a_p0 p0.length c_p0), (28, .int .i64 (p0.length : Int)), (29, .int .i64 s_2), (43, .bool true)] rfl ⟨rfl, rfl, rfl, rfl, rfl, rfl, trivial⟩ ?_
              refine WO_end ?_
              cases hx21
              refine WK.sub ?_ (WK.cls (fun _ h => h) hk22)
              exact ⟨rfl, rfl, rfl, rfl, rfl, rfl, trivial⟩
            · have hx21 := ifF hb30 hx21
              refine WO_pure tbok 1 [(0, .slice a_p0 p0.length c_p0), (2, .bool false), (27, .slice a_p0 p0.length c_p0), (28, .int .i64 (p0.length : Int)), (29, .int .i64 s_2), (40, .bool false), (41, .slice a17 ((v_3).length) c18)] rfl ⟨rfl, rfl, rfl, rfl, rfl, rfl, rfl, trivial⟩ ?_
              obtain ⟨y_7, hc31, hx21⟩ := bind_some hx21
              refine WO_call0 (.bool y_7) rfl rfl trivial rfl rfl rfl rfl St_closed ⟨43, #[], #[], rfl, callable_43, fun w hw => ⟨_, hw.sat, slices_ContainsFunc_sint_walk h19 (fun m1 hm1 z_6 _ h => specV_cap callable_45 (fiduciallaw45_line_c1_walk h)) hc31⟩⟩ ?_
              refine WO_pure tbok 1 [(0, .slice a_p0 p0.length c_p0), (2, .bool false), (27, .slice a_p0 p0.length c_p0), (28, .int .i64 (p0.length : Int)), (29, .int .i64 s_2), (43, .bool y_7)] rfl ⟨rfl, rfl, rfl, rfl, rfl, rfl, trivial⟩ ?_
              refine WO_end ?_
              cases hx21
              refine WK.sub ?_ (WK.cls (fun _ h => h) hk22)
              exact ⟨rfl, rfl, rfl, rfl, rfl, rfl, trivial⟩
        · have hm8 := ifF hb14 hm8
          refine WK_exit rfl ?_
          cases hm8
          refine WK.sub ?_ (WK.cls (fun _ h => h) (hk7 ((), ()) (hd12 _ rfl)))
          exact ⟨rfl, trivial⟩
  · refine WK_region ?_
    refine WO_pure tbok 4 [(0, .slice a_p0 p0.length c_p0), (2, .bool false), (8, .bool (decide ((p0.length : Int) < 1)))] rfl ⟨rfl, rfl, rfl, trivial⟩ ?_
    refine WO_split (d := 8) (b := decide ((p0.length : Int) < 1)) rfl (fun hb32 => ?_) (fun hb32 => ?_)
    · have hx2 := ifT hb32 hx2
      refine WO_pure tbok 18 [(0, .slice a_p0 p0.length c_p0), (2, .bool false), (26, .bool true)] rfl ⟨rfl, rfl, rfl, trivial⟩ ?_
      refine WO_end ?_
      cases hx2
      refine WK.sub ?_ (WK.cls (fun _ h => h) hk3)
      exact ⟨rfl, rfl, rfl, trivial⟩
    · have hx2 := ifF hb32 hx2
      refine WO_pure tbok 5 [(0, .slice a_p0 p0.length c_p0), (2, .bool false), (13, .bool (decide (64 < (p0.length : Int))))] rfl ⟨rfl, rfl, rfl, trivial⟩ ?_
      refine WO_split (d := 13) (b := decide (64 < (p0.length : Int))) rfl (fun hb33 => ?_) (fun hb33 => ?_)
      · have hx2 := ifT hb33 hx2
        refine WO_pure tbok 13 [(0, .slice a_p0 p0.length c_p0), (2, .bool false), (26, .bool true)] rfl ⟨rfl, rfl, rfl, trivial⟩ ?_
        refine WO_end ?_
        cases hx2
        refine WK.sub ?_ (WK.cls (fun _ h => h) hk3)
        exact ⟨rfl, rfl, rfl, trivial⟩
      · have hx2 := ifF hb33 hx2
        refine WO_pure tbok 1 [(0, .slice a_p0 p0.length c_p0), (2, .bool false), (13, .bool false), (14, .slice a_p0 p0.length c_p0)] rfl ⟨rfl, rfl, rfl, rfl, trivial⟩ ?_
        obtain ⟨v_8, hy34, hx2⟩ := bind_some hx2
        obtain ⟨hc35, hy34⟩ := ix_some hy34
        refine WO_index tbok rfl rfl rfl rfl rfl rfl rfl rfl (SlR.addr h_p0) hc35 ?_
        refine WO_loadR tbok rfl rfl rfl rfl (fun _ h => St.sat h) h_p0 hy34 rfl rfl (fun a36 c37 h38 => ?_)
        refine WO_pure tbok 4 [(0, .slice a_p0 p0.length c_p0), (2, .bool false), (20, .bool (decide (((v_8).length : Int) < 1)))] rfl ⟨rfl, rfl, rfl, trivial⟩ ?_
        refine WO_split (d := 20) (b := decide (((v_8).length : Int) < 1)) rfl (fun hb40 => ?_) (fun hb40 => ?_)
        · have hx2 := ifT hb40 hx2
          refine WO_pure tbok 6 [(0, .slice a_p0 p0.length c_p0), (2, .bool false), (26, .bool true)] rfl ⟨rfl, rfl, rfl, trivial⟩ ?_
          refine WO_end ?_
          cases hx2
          refine WK.sub ?_ (WK.cls (fun _ h => h) hk3)
          exact ⟨rfl, rfl, rfl, trivial⟩
        · have hx2 := ifF hb40 hx2
          refine WO_pure tbok 1 [(0, .slice a_p0 p0.length c_p0), (2, .bool false), (20, .bool false), (21, .slice a_p0 p0.length c_p0)] rfl ⟨rfl, rfl, rfl, rfl, trivial⟩ ?_
          obtain ⟨v_9, hy41, hx2⟩ := bind_some hx2
          obtain ⟨hc42, hy41⟩ := ix_some hy41
          refine WO_index tbok rfl rfl rfl rfl rfl rfl rfl rfl (SlR.addr h_p0) hc42 ?_
          refine WO_loadR tbok rfl rfl rfl rfl (fun _ h => St.sat h) h_p0 hy41 rfl rfl (fun a43 c44 h45 => ?_)
          refine WO_pure tbok 3 [(0, .slice a_p0 p0.length c_p0), (2, .bool false), (26, .bool (decide (64 < ((v_9).length : Int))))] rfl ⟨rfl, rfl, rfl, trivial⟩ ?_
          refine WO_end ?_
          cases hx2
          refine WK.sub ?_ (WK.cls (fun _ h => h) hk3)
          exact ⟨rfl, rfl, rfl, trivial⟩
theorem fiduciallaw45_penalties_walk {m : Mu} {p0 : Int} {p1 : Int}   {r : Bool} (hm : fiduciallaw45_penalties p0 p1 = some r) :
    Go.E.Spec Try.prog 37 [.int .i64 p0, .int .i64 p1] m (fun v _ _ => v = .bool r) := by
  refine Spec_enter Try.func37 rfl rfl rfl (fun w0 => ?_)
  refine WK.sub (e' := [(0, .int .i64 p0), (1, .int .i64 p1)]) ⟨rfl, rfl, trivial⟩ ?_
  refine WK.sub (e' := [(0, .int .i64 p0), (1, .int .i64 p1)]) ⟨rfl, rfl, trivial⟩ ?_
  unfold fiduciallaw45_penalties at hm
  refine WK_seq ?_
  refine WK_region ?_
  refine WO_pure tbok 1 [(0, .int .i64 p0), (1, .int .i64 p1), (4, .bool false)] rfl ⟨rfl, rfl, rfl, trivial⟩ ?_
  refine WO_end ?_
  refine WK_seq ?_
  refine WK_region ?_
  refine WO_pure tbok 3 [(0, .int .i64 p0), (1, .int .i64 p1), (4, .bool false), (7, .bool (decide (0 ≤ p0)))] rfl ⟨rfl, rfl, rfl, rfl, trivial⟩ ?_
  refine WO_split (d := 7) (b := decide (0 ≤ p0)) rfl (fun hb1 => ?_) (fun hb1 => ?_)
  · have hm := ifT hb1 hm
    refine WO_pure tbok 5 [(1, .int .i64 p1), (4, .bool false), (12, .bool (decide (p0 ≤ p1)))] rfl ⟨rfl, rfl, rfl, trivial⟩ ?_
    refine WO_split (d := 12) (b := decide (p0 ≤ p1)) rfl (fun hb2 => ?_) (fun hb2 => ?_)
    · have hm := ifT hb2 hm
      refine WO_pure tbok 4 [(4, .bool (decide (p1 ≤ 1048576)))] rfl ⟨rfl, trivial⟩ ?_
      refine WO_end ?_
      cases hm
      exact WK_ret (ret_out (L := []) (RLc_tmp rfl RLc_nil) (List.nil_sublist _) rfl)
    · have hm := ifF hb2 hm
      refine WO_pure tbok 4 [(4, .bool false)] rfl ⟨rfl, trivial⟩ ?_
      refine WO_end ?_
      cases hm
      exact WK_ret (ret_out (L := []) (RLc_tmp rfl RLc_nil) (List.nil_sublist _) rfl)
  · have hm := ifF hb1 hm
    refine WO_pure tbok 9 [(4, .bool false)] rfl ⟨rfl, trivial⟩ ?_
    refine WO_end ?_
    cases hm
    exact WK_ret (ret_out (L := []) (RLc_tmp rfl RLc_nil) (List.nil_sublist _) rfl)
theorem fiduciallaw45_lined_walk {m : Mu} {p0 : List (List Int)} {p1_0 : Int} {p1_1 : Int} {a_p0 : Option Addr} {q_p0 c_p0 : Nat} (h_p0 : SlR (RowE (FE (I1 .i64)) 1) 1 m (.slice a_p0 q_p0 c_p0) p0) {r : Int} (hm : fiduciallaw45_lined p0 p1_0 p1_1 = some r) :
    Go.E.Spec Try.prog 11 [.slice a_p0 q_p0 c_p0, .agg #[.int .i64 p1_0, .int .i64 p1_1]] m (fun v _ _ => v = .int .i64 r) := by
  refine Spec_enter Try.func11 rfl rfl rfl (fun w0 => ?_)
  refine WK.sub (e' := [(0, .slice a_p0 q_p0 c_p0), (1, .agg #[.int .i64 p1_0, .int .i64 p1_1])]) ⟨rfl, rfl, trivial⟩ ?_
  obtain rfl := SlR.qlen h_p0
  refine WK.sub (e' := [(0, .slice a_p0 p0.length c_p0), (1, .agg #[.int .i64 p1_0, .int .i64 p1_1])]) ⟨rfl, rfl, trivial⟩ ?_
  unfold fiduciallaw45_lined at hm
  refine WK_seq ?_
  refine WK_region ?_
  refine WO_box [.int .i64 p1_0, .int .i64 p1_1] rfl rfl trivial rfl rfl rfl (fun b2 => ?_)
  refine WO.cls (C' := St w0 m m [[⟨b2, 23, [.int .i64 p1_0, .int .i64 p1_1]⟩]]) (fun _ h => h) ?_
  refine WO_pure tbok 1 [(0, .slice a_p0 p0.length c_p0), (3, .pointer (some ⟨b2, 0, none⟩)), (4, .int .i64 0)] rfl ⟨rfl, rfl, rfl, trivial⟩ ?_
  refine WO_end ?_
  refine WK_seq ?_
  refine WK_seq ?_
  refine WK_region ?_
  refine WO_pure tbok 1 [(3, .pointer (some ⟨b2, 0, none⟩)), (4, .int .i64 0), (5, .slice a_p0 p0.length c_p0)] rfl ⟨rfl, rfl, rfl, trivial⟩ ?_
  obtain ⟨y_1, hc3, hm⟩ := bind_some hm
  refine WO_call0 (.bool y_1) rfl rfl trivial rfl rfl rfl rfl St_closed ⟨21, #[], #[], rfl, callable_21, fun w hw => ⟨_, hw.sat, fiduciallaw45_line_walk h_p0 hc3⟩⟩ ?_
  refine WO_pure tbok 1 [(3, .pointer (some ⟨b2, 0, none⟩)), (4, .int .i64 0), (7, .bool (!y_1))] rfl ⟨rfl, rfl, rfl, trivial⟩ ?_
  refine WO_end ?_
  refine WK_cond (b := !y_1) rfl (fun hb4 => ?_) (fun hb4 => ?_)
  · have hm := ifT hb4 hm
    refine WK_seq ?_
    refine WK_region ?_
    refine WO_pure tbok 1 [(3, .pointer (some ⟨b2, 0, none⟩)), (4, .int .i64 1)] rfl ⟨rfl, rfl, trivial⟩ ?_
    refine WO_end ?_
    cases hm
    exact WK_ret (ret_out (L := []) (RLc_tmp rfl RLc_nil) (List.nil_sublist _) rfl)
  · have hm := ifF hb4 hm
    refine WK_skip ?_
    refine WK_seq ?_
    refine WK_seq ?_
    refine WK_region ?_
    refine WO_pure tbok 1 [(3, .pointer (some ⟨b2, 0, none⟩)), (4, .int .i64 0), (8, .pointer (some ⟨b2, 0, none⟩))] rfl ⟨rfl, rfl, rfl, trivial⟩ ?_
    refine WO_loadB tbok 0 rfl rfl rfl rfl (fun _ h => h) rfl rfl ?_
    refine WO_pure tbok 1 [(4, .int .i64 0), (9, .int .i64 p1_0), (10, .pointer (some ⟨b2, 1, none⟩))] rfl ⟨rfl, rfl, rfl, trivial⟩ ?_
    refine WO_loadB tbok 0 rfl rfl rfl rfl (fun _ h => h) rfl rfl ?_
    obtain ⟨y_2, hc5, hm⟩ := bind_some hm
    refine WO_call0 (.bool y_2) rfl rfl trivial rfl rfl rfl rfl St_closed ⟨37, #[], #[], rfl, callable_37, fun w hw => ⟨_, hw.sat, fiduciallaw45_penalties_walk hc5⟩⟩ ?_
    refine WO_pure tbok 1 [(4, .int .i64 0), (13, .bool (!y_2))] rfl ⟨rfl, rfl, trivial⟩ ?_
    refine WO_end ?_
    refine WK_cond (b := !y_2) rfl (fun hb6 => ?_) (fun hb6 => ?_)
    · have hm := ifT hb6 hm
      refine WK_seq ?_
      refine WK_region ?_
      refine WO_pure tbok 1 [(4, .int .i64 2)] rfl ⟨rfl, trivial⟩ ?_
      refine WO_end ?_
      cases hm
      exact WK_ret (ret_out (L := []) (RLc_tmp rfl RLc_nil) (List.nil_sublist _) rfl)
    · have hm := ifF hb6 hm
      refine WK_skip ?_
      refine WK_seq ?_
      refine WK_region ?_
      refine WO_pure tbok 1 [(4, .int .i64 0)] rfl ⟨rfl, trivial⟩ ?_
      refine WO_end ?_
      cases hm
      exact WK_ret (ret_out (L := []) (RLc_tmp rfl RLc_nil) (List.nil_sublist _) rfl)
theorem fiduciallaw45_jump_walk {m : Mu} {p0 : Int} {p1 : Int} {p2 : Int}   {r : Int} (hm : fiduciallaw45_jump p0 p1 p2 = some r) :
    Go.E.Spec Try.prog 39 [.int .i64 p0, .int .i64 p1, .int .i64 p2] m (fun v _ _ => v = .int .i64 r) := by
  refine Spec_enter Try.func39 rfl rfl rfl (fun w0 => ?_)
  refine WK.sub (e' := [(0, .int .i64 p0), (1, .int .i64 p1), (2, .int .i64 p2)]) ⟨rfl, rfl, rfl, trivial⟩ ?_
  refine WK.sub (e' := [(0, .int .i64 p0), (1, .int .i64 p1), (2, .int .i64 p2)]) ⟨rfl, rfl, rfl, trivial⟩ ?_
  unfold fiduciallaw45_jump at hm
  refine WK_seq ?_
  refine WK_region ?_
  refine WO_pure tbok 1 [(0, .int .i64 p0), (1, .int .i64 p1), (2, .int .i64 p2), (6, .int .i64 0)] rfl ⟨rfl, rfl, rfl, rfl, trivial⟩ ?_
  refine WO_end ?_
  refine WK_seq ?_
  refine WK_seq ?_
  refine WK_region ?_
  refine WO_pure tbok 1 [(1, .int .i64 p1), (2, .int .i64 p2), (6, .int .i64 0), (7, .int .i64 p0)] rfl ⟨rfl, rfl, rfl, rfl, trivial⟩ ?_
  refine WO_end ?_
  refine WK_block ?_
  refine WK_seq ?_
  refine WK_region ?_
  refine WO_pure tbok 2 [(1, .int .i64 p1), (2, .int .i64 p2), (6, .int .i64 0), (7, .int .i64 p0), (8, .bool (p0 == 0))] rfl ⟨rfl, rfl, rfl, rfl, rfl, trivial⟩ ?_
  refine WO_end ?_
  refine WK_cond (b := p0 == 0) rfl (fun hb1 => ?_) (fun hb1 => ?_)
  · have hm := ifT hb1 hm
    refine WK_seq ?_
    refine WK_region ?_
    refine WO_pure tbok 1 [(2, .int .i64 p2), (6, .int .i64 0)] rfl ⟨rfl, rfl, trivial⟩ ?_
    refine WO_end ?_
    cases hm
    exact WK_ret (ret_out (L := []) (RLc_tmp rfl RLc_nil) (List.nil_sublist _) rfl)
  · have hm := ifF hb1 hm
    refine WK_seq ?_
    refine WK_seq ?_
    refine WK_region ?_
    refine WO_pure tbok 2 [(1, .int .i64 p1), (2, .int .i64 p2), (6, .int .i64 0), (7, .int .i64 p0), (10, .bool (p0 == 1))] rfl ⟨rfl, rfl, rfl, rfl, rfl, trivial⟩ ?_
    refine WO_end ?_
    obtain ⟨s_1, hx2, hm⟩ := bind_some hm
    refine WK_meet [(1, .int .i64 p1), (2, .int .i64 p2), (6, .int .i64 0), (10, .bool s_1)] (St w0 m m []) ?_ (fun hk3 => ?_)
    · refine WK_cond (b := s_1) rfl (fun hb4 => ?_) (fun hb4 => ?_)
      · have hm := ifT hb4 hm
        refine WK_seq ?_
        refine WK_region ?_
        refine WO_pure tbok 2 [(2, .int .i64 p2), (6, .int .i64 p1)] rfl ⟨rfl, rfl, trivial⟩ ?_
        refine WO_end ?_
        cases hm
        exact WK_ret (ret_out (L := []) (RLc_tmp rfl RLc_nil) (List.nil_sublist _) rfl)
      · have hm := ifF hb4 hm
        refine WK_skip ?_
        refine WK_blk ?_
        refine WK_seq ?_
        refine WK_region ?_
        refine WO_pure tbok 2 [(6, .int .i64 p2)] rfl ⟨rfl, trivial⟩ ?_
        refine WO_end ?_
        cases hm
        exact WK_ret (ret_out (L := []) (RLc_tmp rfl RLc_nil) (List.nil_sublist _) rfl)
    · refine WK_cond (b := p0 == 1) rfl (fun hb5 => ?_) (fun hb5 => ?_)
      · have hx2 := ifT hb5 hx2
        refine WK_skip ?_
        cases hx2
        refine WK.sub ?_ (WK.cls (fun _ h => h) hk3)
        exact ⟨rfl, rfl, rfl, rfl, trivial⟩
      · have hx2 := ifF hb5 hx2
        refine WK_region ?_
        refine WO_pure tbok 2 [(1, .int .i64 p1), (2, .int .i64 p2), (6, .int .i64 0), (10, .bool (p0 == (-1)))] rfl ⟨rfl, rfl, rfl, rfl, trivial⟩ ?_
        refine WO_end ?_
        cases hx2
        refine WK.sub ?_ (WK.cls (fun _ h => h) hk3)
        exact ⟨rfl, rfl, rfl, rfl, trivial⟩
def fiduciallaw45_least_Q (r : List (List Int)) : Value → Mu → List Ent → Prop := fun v m L => ∃ (a0 : Option Addr) (q0 c0 : Nat), v = .slice a0 q0 c0 ∧ SlR (RowE (FE (I1 .i64)) 1) 1 m (.slice a0 q0 c0) r
theorem fiduciallaw45_least_walk {m : Mu} {p0 : List (List Int)} {p1 : Int} {p2 : Int} {a_p0 : Option Addr} {q_p0 c_p0 : Nat} (h_p0 : SlR (RowE (FE (I1 .i64)) 1) 1 m (.slice a_p0 q_p0 c_p0) p0) {r : List (List Int)} (hm : fiduciallaw45_least p0 p1 p2 = some r) :
    Go.E.Spec Try.prog 38 [.slice a_p0 q_p0 c_p0, .int .i64 p1, .int .i64 p2] m (fiduciallaw45_least_Q r) := by
  refine Spec_enter Try.func38 rfl rfl rfl (fun w0 => ?_)
  refine WK.sub (e' := [(0, .slice a_p0 q_p0 c_p0), (1, .int .i64 p1), (2, .int .i64 p2)]) ⟨rfl, rfl, rfl, trivial⟩ ?_
  obtain rfl := SlR.qlen h_p0
  refine WK.sub (e' := [(0, .slice a_p0 p0.length c_p0), (1, .int .i64 p1), (2, .int .i64 p2)]) ⟨rfl, rfl, rfl, trivial⟩ ?_
  unfold fiduciallaw45_least at hm
  refine WK_seq ?_
  refine WK_region ?_
  refine WO_pure tbok 1 [(0, .slice a_p0 p0.length c_p0), (1, .int .i64 p1), (2, .int .i64 p2), (6, .slice none 0 0)] rfl ⟨rfl, rfl, rfl, rfl, trivial⟩ ?_
  refine WO_end ?_
  refine WK_seq ?_
  refine WK_region ?_
  refine WO_pure tbok 2 [(0, .slice a_p0 p0.length c_p0), (1, .int .i64 p1), (2, .int .i64 p2), (6, .slice none 0 0), (14, .int .i64 (p0.length : Int))] rfl ⟨rfl, rfl, rfl, rfl, rfl, trivial⟩ ?_
  obtain ⟨hc2, hm⟩ := chk_some hm
  refine WO_makeT (E := (I1 .i64)) (k := 1) (T0 := 24) (T1 := 3) tbok rfl rfl trivial rfl rfl rfl rfl rfl rfl rfl rfl rfl rfl (mk_ok (by decide) hc2) (fun b3 c4 L5 hL5 => ?_)
  refine WO.cls (C' := St w0 m m [L5]) (fun _ h => h) ?_
  refine WO_pure tbok 1 [(0, .slice a_p0 p0.length c_p0), (1, .int .i64 p1), (2, .int .i64 p2), (6, .slice none 0 0), (7, .slice (some ⟨b3, 0, none⟩) ((List.replicate ((p0.length : Int) : Int).toNat ([] : List Int)).length) c4)] rfl ⟨rfl, rfl, rfl, rfl, rfl, trivial⟩ ?_
  refine WO_end ?_
  refine WK_seq ?_
  refine WK_seq ?_
  refine WK_region ?_
  refine WO_pure tbok 4 [(0, .slice a_p0 p0.length c_p0), (1, .int .i64 p1), (2, .int .i64 p2), (6, .slice none 0 0), (7, .slice (some ⟨b3, 0, none⟩) ((List.replicate ((p0.length : Int) : Int).toNat ([] : List Int)).length) c4), (8, .int .i64 (w64 ((p0.length : Int) - 1)))] rfl ⟨rfl, rfl, rfl, rfl, rfl, rfl, trivial⟩ ?_
  refine WO_end ?_
  obtain ⟨x13, hx14, hm⟩ := bind_some hm
  refine WK_join (β := (List (List Int)) × (List Value × List Ent)) (fun p => p.1 = x13 ∧ OwnT 24 3 1 (I1 .i64) (.slice (some ⟨b3, 0, none⟩) ((List.replicate ((p0.length : Int) : Int).toNat ([] : List Int)).length) c4) p.2.1 p.1 p.2.2) (fun p => [(6, .slice none 0 0), (7, .slice (some ⟨b3, 0, none⟩) ((List.replicate ((p0.length : Int) : Int).toNat ([] : List Int)).length) c4)]) (fun p => St w0 m m [p.2.2]) ?_ (fun hk15 => ?_)
  · rintro ⟨l_3, ⟨vs12, L11⟩⟩ ⟨hq21, hL11⟩
    subst hq21
    refine WK.sub (e' := [(6, .slice none 0 0), (7, .slice (some ⟨b3, 0, none⟩) ((List.replicate ((p0.length : Int) : Int).toNat ([] : List Int)).length) c4)]) ⟨rfl, rfl, trivial⟩ (WK.cls (C' := St w0 m m [L11]) (fun _ h => h) ?_)
    refine WK_seq ?_
    refine WK_region ?_
    refine WO_pure tbok 2 [(6, .slice (some ⟨b3, 0, none⟩) ((List.replicate ((p0.length : Int) : Int).toNat ([] : List Int)).length) c4)] rfl ⟨rfl, trivial⟩ ?_
    refine WO_end ?_
    cases hm
    refine WK_freeze 0 rfl (fun m22 hle23 hmm24 => ?_)
    refine WK.cls (C' := St w0 m m22 [[]]) (fun _ h => h) ?_
    exact WK_ret (ret_out (L := []) (RLc_tmp rfl RLc_nil) (List.nil_sublist _) ⟨(some ⟨b3, 0, none⟩), ((List.replicate ((p0.length : Int) : Int).toNat ([] : List Int)).length), c4, rfl, (OwnT.rd (E := (I1 .i64)) (k := 1) (fun _ => rfl) hL11 hmm24)⟩)
  · refine WK_block ?_
    refine WK_loop (S := List (List Int) × Int) (G := List Value × List Ent) (fun s => fiduciallaw45_least_s1 p0 p1 p2 s.1 s.2) (fun s g => [(0, .slice a_p0 p0.length c_p0), (1, .int .i64 p1), (2, .int .i64 p2), (6, .slice none 0 0), (7, .slice (some ⟨b3, 0, none⟩) ((List.replicate ((p0.length : Int) : Int).toNat ([] : List Int)).length) c4), (8, .int .i64 s.2)]) (fun s g => St w0 m m [g.2]) (fun s g => OwnT 24 3 1 (I1 .i64) (.slice (some ⟨b3, 0, none⟩) ((List.replicate ((p0.length : Int) : Int).toNat ([] : List Int)).length) c4) g.1 s.1 g.2) FUEL ((List.replicate ((p0.length : Int) : Int).toNat ([] : List Int)), w64 ((p0.length : Int) - 1)) ((List.replicate ((p0.length : Int) : Int).toNat (Value.slice none 0 0)), L5) x13 hx14 hL5 ⟨rfl, rfl, rfl, rfl, rfl, rfl, trivial⟩ (fun _ h => h) ?_
    rintro ⟨l_1, s_2⟩ ⟨vs9, L8⟩ o17 fl18 hm16 hL8 hn19 hd20
    have hm16 : fiduciallaw45_least_s1 p0 p1 p2 l_1 s_2 = some o17 := hm16
    unfold fiduciallaw45_least_s1 at hm16
    refine WK.sub (e' := [(0, .slice a_p0 p0.length c_p0), (1, .int .i64 p1), (2, .int .i64 p2), (6, .slice none 0 0), (7, .slice (some ⟨b3, 0, none⟩) ((List.replicate ((p0.length : Int) : Int).toNat ([] : List Int)).length) c4), (8, .int .i64 s_2)]) ⟨rfl, rfl, rfl, rfl, rfl, rfl, trivial⟩ (WK.cls (C' := St w0 m m [L8]) (fun _ h => h) ?_)
    refine WK_seq ?_
    refine WK_seq ?_
    refine WK_region ?_
    refine WO_pure tbok 2 [(0, .slice a_p0 p0.length c_p0), (1, .int .i64 p1), (2, .int .i64 p2), (6, .slice none 0 0), (7, .slice (some ⟨b3, 0, none⟩) ((List.replicate ((p0.length : Int) : Int).toNat ([] : List Int)).length) c4), (8, .int .i64 s_2), (20, .bool (decide (0 ≤ s_2)))] rfl ⟨rfl, rfl, rfl, rfl, rfl, rfl, rfl, trivial⟩ ?_
    refine WO_end ?_
    refine WK_cond (b := decide (0 ≤ s_2)) rfl (fun hb25 => ?_) (fun hb25 => ?_)
    · have hm16 := ifT hb25 hm16
      refine WK_skip ?_
      refine WK_seq ?_
      refine WK_block ?_
      refine WK_seq ?_
      refine WK_region ?_
      refine WO_pure tbok 2 [(0, .slice a_p0 p0.length c_p0), (1, .int .i64 p1), (2, .int .i64 p2), (6, .slice none 0 0), (7, .slice (some ⟨b3, 0, none⟩) ((List.replicate ((p0.length : Int) : Int).toNat ([] : List Int)).length) c4), (8, .int .i64 s_2), (23, .slice a_p0 p0.length c_p0), (24, .int .i64 s_2)] rfl ⟨rfl, rfl, rfl, rfl, rfl, rfl, rfl, rfl, trivial⟩ ?_
      obtain ⟨v_4, hy26, hm16⟩ := bind_some hm16
      obtain ⟨hc27, hy26⟩ := ix_some hy26
      refine WO_index tbok rfl rfl rfl rfl rfl rfl rfl rfl (SlR.addr h_p0) hc27 ?_
      refine WO_loadR tbok rfl rfl rfl rfl (fun _ h => St.sat h) h_p0 hy26 rfl rfl (fun a28 c29 h30 => ?_)
      refine WO_pure tbok 2 [(0, .slice a_p0 p0.length c_p0), (1, .int .i64 p1), (2, .int .i64 p2), (6, .slice none 0 0), (7, .slice (some ⟨b3, 0, none⟩) ((List.replicate ((p0.length : Int) : Int).toNat ([] : List Int)).length) c4), (8, .int .i64 s_2), (26, .slice a28 ((v_4).length) c29), (27, .int .i64 ((v_4).length : Int)), (28, .int .i64 0)] rfl ⟨rfl, rfl, rfl, rfl, rfl, rfl, rfl, rfl, rfl, trivial⟩ ?_
      refine WO_end ?_
      obtain ⟨x38, hx39, hm16⟩ := bind_some hm16
      refine WK_join (β := (List (List Int)) × (List Value × List Ent)) (fun p => p.1 = x38 ∧ OwnT 24 3 1 (I1 .i64) (.slice (some ⟨b3, 0, none⟩) ((List.replicate ((p0.length : Int) : Int).toNat ([] : List Int)).length) c4) p.2.1 p.1 p.2.2) (fun p => [(0, .slice a_p0 p0.length c_p0), (1, .int .i64 p1), (2, .int .i64 p2), (6, .slice none 0 0), (7, .slice (some ⟨b3, 0, none⟩) ((List.replicate ((p0.length : Int) : Int).toNat ([] : List Int)).length) c4), (8, .int .i64 s_2)]) (fun p => St w0 m m [p.2.2]) ?_ (fun hk40 => ?_)
      · rintro ⟨l_7, ⟨vs37, L36⟩⟩ ⟨hq46, hL36⟩
        subst hq46
        refine WK.sub (e' := [(0, .slice a_p0 p0.length c_p0), (1, .int .i64 p1), (2, .int .i64 p2), (6, .slice none 0 0), (7, .slice (some ⟨b3, 0, none⟩) ((List.replicate ((p0.length : Int) : Int).toNat ([] : List Int)).length) c4), (8, .int .i64 s_2)]) ⟨rfl, rfl, rfl, rfl, rfl, rfl, trivial⟩ (WK.cls (C' := St w0 m m [L36]) (fun _ h => h) ?_)
        refine WK_blk ?_
        refine WK_region ?_
        refine WO_pure tbok 3 [(0, .slice a_p0 p0.length c_p0), (1, .int .i64 p1), (2, .int .i64 p2), (6, .slice none 0 0), (7, .slice (some ⟨b3, 0, none⟩) ((List.replicate ((p0.length : Int) : Int).toNat ([] : List Int)).length) c4), (8, .int .i64 (w64 (s_2 - 1)))] rfl ⟨rfl, rfl, rfl, rfl, rfl, rfl, trivial⟩ ?_
        refine WO_end ?_
        cases hm16
        refine WK.sub ?_ (WK.cls (fun _ h => h) (hn19 _ (vs37, L36) rfl hL36))
        exact ⟨rfl, rfl, rfl, rfl, rfl, rfl, trivial⟩
      · refine WK_block ?_
        refine WK_loop (S := List (List Int) × Int) (G := List Value × List Ent) (fun s => fiduciallaw45_least_s2 p0 p1 p2 s_2 v_4 s.1 s.2) (fun s g => [(0, .slice a_p0 p0.length c_p0), (1, .int .i64 p1), (2, .int .i64 p2), (6, .slice none 0 0), (7, .slice (some ⟨b3, 0, none⟩) ((List.replicate ((p0.length : Int) : Int).toNat ([] : List Int)).length) c4), (8, .int .i64 s_2), (26, .slice a28 ((v_4).length) c29), (27, .int .i64 ((v_4).length : Int)), (28, .int .i64 s.2)]) (fun s g => St w0 m m [g.2]) (fun s g => OwnT 24 3 1 (I1 .i64) (.slice (some ⟨b3, 0, none⟩) ((List.replicate ((p0.length : Int) : Int).toNat ([] : List Int)).length) c4) g.1 s.1 g.2) FUEL (l_1, 0) (vs9, L8) x38 hx39 hL8 ⟨rfl, rfl, rfl, rfl, rfl, rfl, rfl, rfl, rfl, trivial⟩ (fun _ h => h) ?_
        rintro ⟨l_5, s_6⟩ ⟨vs34, L33⟩ o42 fl43 hm41 hL33 hn44 hd45
        have hm41 : fiduciallaw45_least_s2 p0 p1 p2 s_2 v_4 l_5 s_6 = some o42 := hm41
        unfold fiduciallaw45_least_s2 at hm41
        refine WK.sub (e' := [(0, .slice a_p0 p0.length c_p0), (1, .int .i64 p1), (2, .int .i64 p2), (6, .slice none 0 0), (7, .slice (some ⟨b3, 0, none⟩) ((List.replicate ((p0.length : Int) : Int).toNat ([] : List Int)).length) c4), (8, .int .i64 s_2), (26, .slice a28 ((v_4).length) c29), (27, .int .i64 ((v_4).length : Int)), (28, .int .i64 s_6)]) ⟨rfl, rfl, rfl, rfl, rfl, rfl, rfl, rfl, rfl, trivial⟩ (WK.cls (C' := St w0 m m [L33]) (fun _ h => h) ?_)
        refine WK_seq ?_
        refine WK_region ?_
        refine WO_pure tbok 1 [(0, .slice a_p0 p0.length c_p0), (1, .int .i64 p1), (2, .int .i64 p2), (6, .slice none 0 0), (7, .slice (some ⟨b3, 0, none⟩) ((List.replicate ((p0.length : Int) : Int).toNat ([] : List Int)).length) c4), (8, .int .i64 s_2), (26, .slice a28 ((v_4).length) c29), (27, .int .i64 ((v_4).length : Int)), (28, .int .i64 s_6), (29, .bool (decide (s_6 < ((v_4).length : Int))))] rfl ⟨rfl, rfl, rfl, rfl, rfl, rfl, rfl, rfl, rfl, rfl, trivial⟩ ?_
        refine WO_end ?_
        refine WK_seq ?_
        refine WK_cond (b := decide (s_6 < ((v_4).length : Int))) rfl (fun hb47 => ?_) (fun hb47 => ?_)
        · have hm41 := ifT hb47 hm41
          refine WK_skip ?_
          refine WK_seq ?_
          refine WK_block ?_
          refine WK_seq ?_
          refine WK_region ?_
          refine WO_pure tbok 1 [(0, .slice a_p0 p0.length c_p0), (1, .int .i64 p1), (2, .int .i64 p2), (6, .slice none 0 0), (7, .slice (some ⟨b3, 0, none⟩) ((List.replicate ((p0.length : Int) : Int).toNat ([] : List Int)).length) c4), (8, .int .i64 s_2), (26, .slice a28 ((v_4).length) c29), (27, .int .i64 ((v_4).length : Int)), (28, .int .i64 s_6), (30, .int .i64 s_6)] rfl ⟨rfl, rfl, rfl, rfl, rfl, rfl, rfl, rfl, rfl, rfl, trivial⟩ ?_
          obtain ⟨v_8, hy48, hm41⟩ := bind_some hm41
          obtain ⟨hc49, hy48⟩ := ix_some hy48
          refine WO_index tbok rfl rfl rfl rfl rfl rfl rfl rfl (SlR.addr h30) hc49 ?_
          refine WO_loadE tbok rfl rfl rfl rfl (fun _ h => St.sat h) h30 hy48 rfl ?_
          refine WO_pure tbok 2 [(0, .slice a_p0 p0.length c_p0), (1, .int .i64 p1), (2, .int .i64 p2), (6, .slice none 0 0), (7, .slice (some ⟨b3, 0, none⟩) ((List.replicate ((p0.length : Int) : Int).toNat ([] : List Int)).length) c4), (8, .int .i64 s_2), (9, .int .i64 s_6), (10, .int .i64 v_8), (26, .slice a28 ((v_4).length) c29), (27, .int .i64 ((v_4).length : Int)), (28, .int .i64 s_6)] rfl ⟨rfl, rfl, rfl, rfl, rfl, rfl, rfl, rfl, rfl, rfl, rfl, trivial⟩ ?_
          refine WO_end ?_
          refine WK_seq ?_
          refine WK_region ?_
          refine WO_pure tbok 1 [(0, .slice a_p0 p0.length c_p0), (1, .int .i64 p1), (2, .int .i64 p2), (6, .slice none 0 0), (7, .slice (some ⟨b3, 0, none⟩) ((List.replicate ((p0.length : Int) : Int).toNat ([] : List Int)).length) c4), (8, .int .i64 s_2), (9, .int .i64 s_6), (10, .int .i64 v_8), (11, .int .i64 0), (26, .slice a28 ((v_4).length) c29), (27, .int .i64 ((v_4).length : Int)), (28, .int .i64 s_6)] rfl ⟨rfl, rfl, rfl, rfl, rfl, rfl, rfl, rfl, rfl, rfl, rfl, rfl, trivial⟩ ?_
          refine WO_end ?_
          refine WK_seq ?_
          refine WK_seq ?_
          refine WK_region ?_
          refine WO_pure tbok 2 [(0, .slice a_p0 p0.length c_p0), (1, .int .i64 p1), (2, .int .i64 p2), (6, .slice none 0 0), (7, .slice (some ⟨b3, 0, none⟩) ((List.replicate ((p0.length : Int) : Int).toNat ([] : List Int)).length) c4), (8, .int .i64 s_2), (9, .int .i64 s_6), (10, .int .i64 v_8), (11, .int .i64 0), (26, .slice a28 ((v_4).length) c29), (27, .int .i64 ((v_4).length : Int)), (28, .int .i64 s_6), (33, .slice a_p0 p0.length c_p0), (34, .int .i64 s_2)] rfl ⟨rfl, rfl, rfl, rfl, rfl, rfl, rfl, rfl, rfl, rfl, rfl, rfl, rfl, rfl, trivial⟩ ?_
          obtain ⟨v_9, hy50, hm41⟩ := bind_some hm41
          obtain ⟨hc51, hy50⟩ := ix_some hy50
          refine WO_index tbok rfl rfl rfl rfl rfl rfl rfl rfl (SlR.addr h_p0) hc51 ?_
          refine WO_loadR tbok rfl rfl rfl rfl (fun _ h => St.sat h) h_p0 hy50 rfl rfl (fun a52 c53 h54 => ?_)
          refine WO_pure tbok 2 [(0, .slice a_p0 p0.length c_p0), (1, .int .i64 p1), (2, .int .i64 p2), (6, .slice none 0 0), (7, .slice (some ⟨b3, 0, none⟩) ((List.replicate ((p0.length : Int) : Int).toNat ([] : List Int)).length) c4), (8, .int .i64 s_2), (9, .int .i64 s_6), (10, .int .i64 v_8), (11, .int .i64 0), (26, .slice a28 ((v_4).length) c29), (27, .int .i64 ((v_4).length : Int)), (28, .int .i64 s_6), (37, .int .i64 ((v_9).length : Int)), (38, .int .i64 0)] rfl ⟨rfl, rfl, rfl, rfl, rfl, rfl, rfl, rfl, rfl, rfl, rfl, rfl, rfl, rfl, trivial⟩ ?_
          refine WO_end ?_
          obtain ⟨x56, hx57, hm41⟩ := bind_some hm41
          refine WK_join (β := Int × Unit) (fun p => p.1 = x56) (fun p => [(0, .slice a_p0 p0.length c_p0), (1, .int .i64 p1), (2, .int .i64 p2), (6, .slice none 0 0), (7, .slice (some ⟨b3, 0, none⟩) ((List.replicate ((p0.length : Int) : Int).toNat ([] : List Int)).length) c4), (8, .int .i64 s_2), (10, .int .i64 v_8), (11, .int .i64 p.1), (26, .slice a28 ((v_4).length) c29), (27, .int .i64 ((v_4).length : Int)), (28, .int .i64 s_6)]) (fun p => St w0 m m [L33]) ?_ (fun hk58 => ?_)
          · rintro ⟨s_12, ⟨⟩⟩ hq64
            subst hq64
            refine WK.sub (e' := [(0, .slice a_p0 p0.length c_p0), (1, .int .i64 p1), (2, .int .i64 p2), (6, .slice none 0 0), (7, .slice (some ⟨b3, 0, none⟩) ((List.replicate ((p0.length : Int) : Int).toNat ([] : List Int)).length) c4), (8, .int .i64 s_2), (10, .int .i64 v_8), (11, .int .i64 s_12), (26, .slice a28 ((v_4).length) c29), (27, .int .i64 ((v_4).length : Int)), (28, .int .i64 s_6)]) ⟨rfl, rfl, rfl, rfl, rfl, rfl, rfl, rfl, rfl, rfl, rfl, trivial⟩ (WK.cls (C' := St w0 m m [L33]) (fun _ h => h) ?_)
            refine WK_region ?_
            refine WO_pure tbok 4 [(0, .slice a_p0 p0.length c_p0), (1, .int .i64 p1), (2, .int .i64 p2), (6, .slice none 0 0), (7, .slice (some ⟨b3, 0, none⟩) ((List.replicate ((p0.length : Int) : Int).toNat ([] : List Int)).length) c4), (8, .int .i64 s_2), (10, .int .i64 v_8), (11, .int .i64 s_12), (26, .slice a28 ((v_4).length) c29), (27, .int .i64 ((v_4).length : Int)), (28, .int .i64 s_6), (85, .slice (some ⟨b3, 0, none⟩) ((List.replicate ((p0.length : Int) : Int).toNat ([] : List Int)).length) c4), (86, .int .i64 s_2), (87, .slice (some ⟨b3, 0, none⟩) ((List.replicate ((p0.length : Int) : Int).toNat ([] : List Int)).length) c4), (88, .int .i64 s_2)] rfl ⟨rfl, rfl, rfl, rfl, rfl, rfl, rfl, rfl, rfl, rfl, rfl, rfl, rfl, rfl, rfl, trivial⟩ ?_
            obtain ⟨v_13, hy65, hm41⟩ := bind_some hm41
            obtain ⟨hc66, hy65⟩ := ix_some hy65
            refine WO_index tbok rfl rfl rfl rfl rfl rfl rfl rfl (OwnT.addr hL33) (by simpa using hc66) ?_
            refine WO_loadT tbok 0 rfl rfl rfl rfl (fun _ h => h) hL33 rfl hy65 rfl rfl (fun a67 c68 L69 hv70 hr71 => ?_)
            refine WO_pure tbok 3 [(0, .slice a_p0 p0.length c_p0), (1, .int .i64 p1), (2, .int .i64 p2), (6, .slice none 0 0), (7, .slice (some ⟨b3, 0, none⟩) ((List.replicate ((p0.length : Int) : Int).toNat ([] : List Int)).length) c4), (8, .int .i64 s_2), (26, .slice a28 ((v_4).length) c29), (27, .int .i64 ((v_4).length : Int)), (28, .int .i64 s_6), (85, .slice (some ⟨b3, 0, none⟩) ((List.replicate ((p0.length : Int) : Int).toNat ([] : List Int)).length) c4), (86, .int .i64 s_2), (90, .slice a67 v_13.length c68), (93, .int .i64 (w64 (v_8 + s_12)))] rfl ⟨rfl, rfl, rfl, rfl, rfl, rfl, rfl, rfl, rfl, rfl, rfl, rfl, rfl, trivial⟩ ?_
            refine WO_bslice (E := (I1 .i64)) tbok (fun _ => rfl) (by decide) [.int .i64 (w64 (v_8 + s_12))] ([w64 (v_8 + s_12)] : List Int) rfl rfl trivial rfl rfl rfl rfl rfl rfl rfl rfl rfl rfl rfl rfl (fun b73 hb73 => ?_)
            refine WO.cls (C' := St w0 m m [L33, [⟨b73, 3, ([w64 (v_8 + s_12)] : List Int).flatMap (I1 .i64)⟩]]) (fun _ h => h) ?_
            refine WO_takeT (E := (I1 .i64)) (k := 1) 0 hL33 rfl hv70 hy65 (fun L75 L76 hL75 hL76 => ?_)
            refine WO.cls (C' := St w0 m m [L75, [⟨b73, 3, ([w64 (v_8 + s_12)] : List Int).flatMap (I1 .i64)⟩], L76]) (fun _ h => h) ?_
            obtain ⟨hc79, hm41⟩ := chk_some hm41
            refine WO_append (E := (I1 .i64)) tbok (fun _ => rfl) 2 ([w64 (v_8 + s_12)] : List Int) (fun _ _ => rfl) rfl rfl rfl rfl rfl rfl rfl rfl rfl rfl rfl rfl hL76 rfl (src_seg (j := 1) rfl) (ap_ok (by decide) hc79) (ap_max hc79) (fun a80 c81 L82 hL82 => ?_)
            refine WO.cls (C' := St w0 m m [L75, [⟨b73, 3, ([w64 (v_8 + s_12)] : List Int).flatMap (I1 .i64)⟩], L82]) (fun _ h => h) ?_
            obtain ⟨hc84, hm41⟩ := chk_some hm41
            refine WO_index tbok rfl rfl rfl rfl rfl rfl rfl rfl (OwnH.addr hL75) (by simpa using hc84) ?_
            refine WO_storeTH tbok 0 2 rfl rfl rfl rfl rfl hL75 rfl hL82 rfl rfl (by simpa using idx_lt hc84) rfl rfl rfl rfl (fun L85 hL85 => ?_)
            refine WO.cls (C' := St w0 m m [L85, [⟨b73, 3, ([w64 (v_8 + s_12)] : List Int).flatMap (I1 .i64)⟩], []]) (fun _ h => h) ?_
            refine WO_end ?_
            refine WK_blk ?_
            refine WK_region ?_
            refine WO_pure tbok 2 [(0, .slice a_p0 p0.length c_p0), (1, .int .i64 p1), (2, .int .i64 p2), (6, .slice none 0 0), (7, .slice (some ⟨b3, 0, none⟩) ((List.replicate ((p0.length : Int) : Int).toNat ([] : List Int)).length) c4), (8, .int .i64 s_2), (26, .slice a28 ((v_4).length) c29), (27, .int .i64 ((v_4).length : Int)), (28, .int .i64 (w64 (s_6 + 1)))] rfl ⟨rfl, rfl, rfl, rfl, rfl, rfl, rfl, rfl, rfl, trivial⟩ ?_
            refine WO_end ?_
            cases hm41
            refine WK.sub ?_ (WK.cls (fun _ h => St.take 1 h) (hn44 _ ((vs34.set s_2.toNat (.slice a80 ((v_13 ++ ([w64 (v_8 + s_12)] : List Int)).length) c81)), L85) rfl hL85))
            exact ⟨rfl, rfl, rfl, rfl, rfl, rfl, rfl, rfl, rfl, trivial⟩
          · refine WK_block ?_
            refine WK_loop (S := Int × Int) (G := Unit) (fun s => fiduciallaw45_least_s3 p0 p1 p2 s_2 l_5 s_6 v_9 s.1 s.2) (fun s g => [(0, .slice a_p0 p0.length c_p0), (1, .int .i64 p1), (2, .int .i64 p2), (6, .slice none 0 0), (7, .slice (some ⟨b3, 0, none⟩) ((List.replicate ((p0.length : Int) : Int).toNat ([] : List Int)).length) c4), (8, .int .i64 s_2), (9, .int .i64 s_6), (10, .int .i64 v_8), (11, .int .i64 s.1), (26, .slice a28 ((v_4).length) c29), (27, .int .i64 ((v_4).length : Int)), (28, .int .i64 s_6), (37, .int .i64 ((v_9).length : Int)), (38, .int .i64 s.2)]) (fun s g => St w0 m m [L33]) (fun s g => True) FUEL (0, 0) () x56 hx57 trivial ⟨rfl, rfl, rfl, rfl, rfl, rfl, rfl, rfl, rfl, rfl, rfl, rfl, rfl, rfl, trivial⟩ (fun _ h => h) ?_
            rintro ⟨s_10, s_11⟩ ⟨⟩ o60 fl61 hm59 - hn62 hd63
            have hm59 : fiduciallaw45_least_s3 p0 p1 p2 s_2 l_5 s_6 v_9 s_10 s_11 = some o60 := hm59
            unfold fiduciallaw45_least_s3 at hm59
            refine WK.sub (e' := [(0, .slice a_p0 p0.length c_p0), (1, .int .i64 p1), (2, .int .i64 p2), (6, .slice none 0 0), (7, .slice (some ⟨b3, 0, none⟩) ((List.replicate ((p0.length : Int) : Int).toNat ([] : List Int)).length) c4), (8, .int .i64 s_2), (9, .int .i64 s_6), (10, .int .i64 v_8), (11, .int .i64 s_10), (26, .slice a28 ((v_4).length) c29), (27, .int .i64 ((v_4).length : Int)), (28, .int .i64 s_6), (37, .int .i64 ((v_9).length : Int)), (38, .int .i64 s_11)]) ⟨rfl, rfl, rfl, rfl, rfl, rfl, rfl, rfl, rfl, rfl, rfl, rfl, rfl, rfl, trivial⟩ (WK.cls (C' := St w0 m m [L33]) (fun _ h => h) ?_)
            refine WK_seq ?_
            refine WK_region ?_
            refine WO_pure tbok 1 [(0, .slice a_p0 p0.length c_p0), (1, .int .i64 p1), (2, .int .i64 p2), (6, .slice none 0 0), (7, .slice (some ⟨b3, 0, none⟩) ((List.replicate ((p0.length : Int) : Int).toNat ([] : List Int)).length) c4), (8, .int .i64 s_2), (9, .int .i64 s_6), (10, .int .i64 v_8), (11, .int .i64 s_10), (26, .slice a28 ((v_4).length) c29), (27, .int .i64 ((v_4).length : Int)), (28, .int .i64 s_6), (37, .int .i64 ((v_9).length : Int)), (38, .int .i64 s_11), (39, .bool (decide (s_11 < ((v_9).length : Int))))] rfl ⟨rfl, rfl, rfl, rfl, rfl, rfl, rfl, rfl, rfl, rfl, rfl, rfl, rfl, rfl, rfl, trivial⟩ ?_
            refine WO_end ?_
            refine WK_seq ?_
            refine WK_cond (b := decide (s_11 < ((v_9).length : Int))) rfl (fun hb87 => ?_) (fun hb87 => ?_)
            · have hm59 := ifT hb87 hm59
              refine WK_skip ?_
              refine WK_seq ?_
              refine WK_block ?_
              refine WK_seq ?_
              refine WK_region ?_
              refine WO_pure tbok 2 [(0, .slice a_p0 p0.length c_p0), (1, .int .i64 p1), (2, .int .i64 p2), (6, .slice none 0 0), (7, .slice (some ⟨b3, 0, none⟩) ((List.replicate ((p0.length : Int) : Int).toNat ([] : List Int)).length) c4), (8, .int .i64 s_2), (9, .int .i64 s_6), (10, .int .i64 v_8), (11, .int .i64 s_10), (12, .int .i64 s_11), (26, .slice a28 ((v_4).length) c29), (27, .int .i64 ((v_4).length : Int)), (28, .int .i64 s_6), (37, .int .i64 ((v_9).length : Int)), (38, .int .i64 s_11)] rfl ⟨rfl, rfl, rfl, rfl, rfl, rfl, rfl, rfl, rfl, rfl, rfl, rfl, rfl, rfl, rfl, trivial⟩ ?_
              refine WO_end ?_
              refine WK_seq ?_
              obtain ⟨s_14, hx88, hm59⟩ := bind_some hm59
              refine WK_meet [(0, .slice a_p0 p0.length c_p0), (1, .int .i64 p1), (2, .int .i64 p2), (6, .slice none 0 0), (7, .slice (some ⟨b3, 0, none⟩) ((List.replicate ((p0.length : Int) : Int).toNat ([] : List Int)).length) c4), (8, .int .i64 s_2), (9, .int .i64 s_6), (10, .int .i64 v_8), (11, .int .i64 s_10), (12, .int .i64 s_11), (26, .slice a28 ((v_4).length) c29), (27, .int .i64 ((v_4).length : Int)), (28, .int .i64 s_6), (37, .int .i64 ((v_9).length : Int)), (38, .int .i64 s_11), (68, .bool s_14)] (St w0 m m [L33]) ?_ (fun hk89 => ?_)
              · obtain ⟨s_15, hx90, hm59⟩ := bind_some hm59
                refine WK_meet [(0, .slice a_p0 p0.length c_p0), (1, .int .i64 p1), (2, .int .i64 p2), (6, .slice none 0 0), (7, .slice (some ⟨b3, 0, none⟩) ((List.replicate ((p0.length : Int) : Int).toNat ([] : List Int)).length) c4), (8, .int .i64 s_2), (9, .int .i64 s_6), (10, .int .i64 v_8), (11, .int .i64 s_15), (26, .slice a28 ((v_4).length) c29), (27, .int .i64 ((v_4).length : Int)), (28, .int .i64 s_6), (37, .int .i64 ((v_9).length : Int)), (38, .int .i64 s_11)] (St w0 m m [L33]) ?_ (fun hk91 => ?_)
                · refine WK_blk ?_
                  refine WK_region ?_
                  refine WO_pure tbok 2 [(0, .slice a_p0 p0.length c_p0), (1, .int .i64 p1), (2, .int .i64 p2), (6, .slice none 0 0), (7, .slice (some ⟨b3, 0, none⟩) ((List.replicate ((p0.length : Int) : Int).toNat ([] : List Int)).length) c4), (8, .int .i64 s_2), (9, .int .i64 s_6), (10, .int .i64 v_8), (11, .int .i64 s_15), (26, .slice a28 ((v_4).length) c29), (27, .int .i64 ((v_4).length : Int)), (28, .int .i64 s_6), (37, .int .i64 ((v_9).length : Int)), (38, .int .i64 (w64 (s_11 + 1)))] rfl ⟨rfl, rfl, rfl, rfl, rfl, rfl, rfl, rfl, rfl, rfl, rfl, rfl, rfl, rfl, trivial⟩ ?_
                  refine WO_end ?_
                  cases hm59
                  refine WK.sub ?_ (WK.cls (fun _ h => h) (hn62 _ () rfl trivial))
                  exact ⟨rfl, rfl, rfl, rfl, rfl, rfl, rfl, rfl, rfl, rfl, rfl, rfl, rfl, rfl, trivial⟩
                · refine WK_cond (b := s_14) rfl (fun hb92 => ?_) (fun hb92 => ?_)
                  · have hx90 := ifT hb92 hx90
                    refine WK_draw 16 [0, 1, 2, 3, 4, 5, 6, 7, 8, 9, 10, 11, 12, 13, 14, 15] follows_ok (by kernel_rfl) St_closed ?_
                    refine WO_pure tbok 3 [(0, .slice a_p0 p0.length c_p0), (1, .int .i64 p1), (2, .int .i64 p2), (6, .slice none 0 0), (7, .slice (some ⟨b3, 0, none⟩) ((List.replicate ((p0.length : Int) : Int).toNat ([] : List Int)).length) c4), (8, .int .i64 s_2), (9, .int .i64 s_6), (10, .int .i64 v_8), (11, .int .i64 s_10), (12, .int .i64 s_11), (26, .slice a28 ((v_4).length) c29), (27, .int .i64 ((v_4).length : Int)), (28, .int .i64 s_6), (37, .int .i64 ((v_9).length : Int)), (38, .int .i64 s_11), (69, .slice (some ⟨b3, 0, none⟩) ((List.replicate ((p0.length : Int) : Int).toNat ([] : List Int)).length) c4), (71, .int .i64 (w64 (s_2 + 1)))] rfl ⟨rfl, rfl, rfl, rfl, rfl, rfl, rfl, rfl, rfl, rfl, rfl, rfl, rfl, rfl, rfl, rfl, rfl, trivial⟩ ?_
                    obtain ⟨v_16, hy93, hx90⟩ := bind_some hx90
                    obtain ⟨hc94, hy93⟩ := ix_some hy93
                    refine WO_index tbok rfl rfl rfl rfl rfl rfl rfl rfl (OwnT.addr hL33) (by simpa using hc94) ?_
                    refine WO_loadT tbok 0 rfl rfl rfl rfl (fun _ h => h) hL33 rfl hy93 rfl rfl (fun a95 c96 L97 hv98 hr99 => ?_)
                    refine WO_pure tbok 1 [(0, .slice a_p0 p0.length c_p0), (1, .int .i64 p1), (2, .int .i64 p2), (6, .slice none 0 0), (7, .slice (some ⟨b3, 0, none⟩) ((List.replicate ((p0.length : Int) : Int).toNat ([] : List Int)).length) c4), (8, .int .i64 s_2), (9, .int .i64 s_6), (10, .int .i64 v_8), (11, .int .i64 s_10), (12, .int .i64 s_11), (26, .slice a28 ((v_4).length) c29), (27, .int .i64 ((v_4).length : Int)), (28, .int .i64 s_6), (37, .int .i64 ((v_9).length : Int)), (38, .int .i64 s_11), (73, .slice a95 v_16.length c96), (74, .int .i64 s_11)] rfl ⟨rfl, rfl, rfl, rfl, rfl, rfl, rfl, rfl, rfl, rfl, rfl, rfl, rfl, rfl, rfl, rfl, rfl, trivial⟩ ?_
                    obtain ⟨v_17, hy101, hx90⟩ := bind_some hx90
                    obtain ⟨hc102, hy101⟩ := ix_some hy101
                    refine WO_index tbok rfl rfl rfl rfl rfl rfl rfl rfl (OwnE.addr hr99) (by simpa using hc102) ?_
                    refine WO_loadTE (E := (I1 .i64)) tbok (fun _ => rfl) 0 rfl rfl rfl rfl (fun _ h => h) hL33 rfl hv98 hy93 hy101 rfl ?_
                    refine WO_pure tbok 5 [(0, .slice a_p0 p0.length c_p0), (1, .int .i64 p1), (2, .int .i64 p2), (6, .slice none 0 0), (7, .slice (some ⟨b3, 0, none⟩) ((List.replicate ((p0.length : Int) : Int).toNat ([] : List Int)).length) c4), (8, .int .i64 s_2), (9, .int .i64 s_6), (10, .int .i64 v_8), (11, .int .i64 s_10), (26, .slice a28 ((v_4).length) c29), (27, .int .i64 ((v_4).length : Int)), (28, .int .i64 s_6), (37, .int .i64 ((v_9).length : Int)), (38, .int .i64 s_11), (76, .int .i64 v_17), (79, .int .i64 (w64 (s_11 - s_6))), (80, .int .i64 p1), (81, .int .i64 p2)] rfl ⟨rfl, rfl, rfl, rfl, rfl, rfl, rfl, rfl, rfl, rfl, rfl, rfl, rfl, rfl, rfl, rfl, rfl, rfl, trivial⟩ ?_
                    obtain ⟨y_18, hc103, hx90⟩ := bind_some hx90
                    refine WO_call0 (.int .i64 y_18) rfl rfl St_closed rfl rfl rfl rfl St_closed ⟨39, #[], #[], rfl, callable_39, fun w hw => ⟨_, hw.sat, fiduciallaw45_jump_walk hc103⟩⟩ ?_
                    refine WO_pure tbok 2 [(0, .slice a_p0 p0.length c_p0), (1, .int .i64 p1), (2, .int .i64 p2), (6, .slice none 0 0), (7, .slice (some ⟨b3, 0, none⟩) ((List.replicate ((p0.length : Int) : Int).toNat ([] : List Int)).length) c4), (8, .int .i64 s_2), (9, .int .i64 s_6), (10, .int .i64 v_8), (11, .int .i64 (w64 (v_17 + y_18))), (26, .slice a28 ((v_4).length) c29), (27, .int .i64 ((v_4).length : Int)), (28, .int .i64 s_6), (37, .int .i64 ((v_9).length : Int)), (38, .int .i64 s_11)] rfl ⟨rfl, rfl, rfl, rfl, rfl, rfl, rfl, rfl, rfl, rfl, rfl, rfl, rfl, rfl, trivial⟩ ?_
                    refine WO_tail ?_
                    refine WO_end ?_
                    cases hx90
                    refine WK.sub ?_ (WK.cls (fun _ h => h) hk91)
                    exact ⟨rfl, rfl, rfl, rfl, rfl, rfl, rfl, rfl, rfl, rfl, rfl, rfl, rfl, rfl, trivial⟩
                  · have hx90 := ifF hb92 hx90
                    refine WK_skip ?_
                    cases hx90
                    refine WK.sub ?_ (WK.cls (fun _ h => h) hk91)
                    exact ⟨rfl, rfl, rfl, rfl, rfl, rfl, rfl, rfl, rfl, rfl, rfl, rfl, rfl, rfl, trivial⟩
              · refine WK_draw 28 [0, 1, 2, 3, 4, 5, 6, 7, 8, 9, 10, 11, 12, 13, 14, 15, 16, 17, 18, 19, 20, 21, 24, 22, 23, 25, 26, 27] follows_ok (by kernel_rfl) St_closed ?_
                refine WO_pure tbok 6 [(0, .slice a_p0 p0.length c_p0), (1, .int .i64 p1), (2, .int .i64 p2), (6, .slice none 0 0), (7, .slice (some ⟨b3, 0, none⟩) ((List.replicate ((p0.length : Int) : Int).toNat ([] : List Int)).length) c4), (8, .int .i64 s_2), (9, .int .i64 s_6), (10, .int .i64 v_8), (11, .int .i64 s_10), (12, .int .i64 s_11), (26, .slice a28 ((v_4).length) c29), (27, .int .i64 ((v_4).length : Int)), (28, .int .i64 s_6), (37, .int .i64 ((v_9).length : Int)), (38, .int .i64 s_11), (46, .bool (decide ((w64 (s_2 + 1)) < (p0.length : Int))))] rfl ⟨rfl, rfl, rfl, rfl, rfl, rfl, rfl, rfl, rfl, rfl, rfl, rfl, rfl, rfl, rfl, rfl, trivial⟩ ?_
                refine WO_split (d := 46) (b := decide ((w64 (s_2 + 1)) < (p0.length : Int))) rfl (fun hb104 => ?_) (fun hb104 => ?_)
                · have hx88 := ifT hb104 hx88
                  refine WO_pure tbok 3 [(0, .slice a_p0 p0.length c_p0), (1, .int .i64 p1), (2, .int .i64 p2), (6, .slice none 0 0), (7, .slice (some ⟨b3, 0, none⟩) ((List.replicate ((p0.length : Int) : Int).toNat ([] : List Int)).length) c4), (8, .int .i64 s_2), (9, .int .i64 s_6), (10, .int .i64 v_8), (11, .int .i64 s_10), (12, .int .i64 s_11), (26, .slice a28 ((v_4).length) c29), (27, .int .i64 ((v_4).length : Int)), (28, .int .i64 s_6), (37, .int .i64 ((v_9).length : Int)), (38, .int .i64 s_11), (46, .bool true), (49, .bool (s_11 == 0))] rfl ⟨rfl, rfl, rfl, rfl, rfl, rfl, rfl, rfl, rfl, rfl, rfl, rfl, rfl, rfl, rfl, rfl, rfl, trivial⟩ ?_
                  refine WO_split (d := 49) (b := s_11 == 0) rfl (fun hb105 => ?_) (fun hb105 => ?_)
                  · have hx88 := ifT hb105 hx88
                    refine WO_pure tbok 14 [(0, .slice a_p0 p0.length c_p0), (1, .int .i64 p1), (2, .int .i64 p2), (6, .slice none 0 0), (7, .slice (some ⟨b3, 0, none⟩) ((List.replicate ((p0.length : Int) : Int).toNat ([] : List Int)).length) c4), (8, .int .i64 s_2), (9, .int .i64 s_6), (10, .int .i64 v_8), (11, .int .i64 s_10), (12, .int .i64 s_11), (26, .slice a28 ((v_4).length) c29), (27, .int .i64 ((v_4).length : Int)), (28, .int .i64 s_6), (37, .int .i64 ((v_9).length : Int)), (38, .int .i64 s_11), (46, .bool true), (49, .bool true)] rfl ⟨rfl, rfl, rfl, rfl, rfl, rfl, rfl, rfl, rfl, rfl, rfl, rfl, rfl, rfl, rfl, rfl, rfl, trivial⟩ ?_
                    refine WO_skip rfl rfl ?_
                    refine WO_pure tbok 4 [(0, .slice a_p0 p0.length c_p0), (1, .int .i64 p1), (2, .int .i64 p2), (6, .slice none 0 0), (7, .slice (some ⟨b3, 0, none⟩) ((List.replicate ((p0.length : Int) : Int).toNat ([] : List Int)).length) c4), (8, .int .i64 s_2), (9, .int .i64 s_6), (10, .int .i64 v_8), (11, .int .i64 s_10), (12, .int .i64 s_11), (26, .slice a28 ((v_4).length) c29), (27, .int .i64 ((v_4).length : Int)), (28, .int .i64 s_6), (37, .int .i64 ((v_9).length : Int)), (38, .int .i64 s_11), (68, .bool true)] rfl ⟨rfl, rfl, rfl, rfl, rfl, rfl, rfl, rfl, rfl, rfl, rfl, rfl, rfl, rfl, rfl, rfl, trivial⟩ ?_
                    refine WO_tail ?_
                    refine WO_end ?_
                    cases hx88
                    refine WK.sub ?_ (WK.cls (fun _ h => h) hk89)
                    exact ⟨rfl, rfl, rfl, rfl, rfl, rfl, rfl, rfl, rfl, rfl, rfl, rfl, rfl, rfl, rfl, rfl, trivial⟩
                  · have hx88 := ifF hb105 hx88
                    refine WO_pure tbok 3 [(0, .slice a_p0 p0.length c_p0), (1, .int .i64 p1), (2, .int .i64 p2), (6, .slice none 0 0), (7, .slice (some ⟨b3, 0, none⟩) ((List.replicate ((p0.length : Int) : Int).toNat ([] : List Int)).length) c4), (8, .int .i64 s_2), (9, .int .i64 s_6), (10, .int .i64 v_8), (11, .int .i64 s_10), (12, .int .i64 s_11), (26, .slice a28 ((v_4).length) c29), (27, .int .i64 ((v_4).length : Int)), (28, .int .i64 s_6), (37, .int .i64 ((v_9).length : Int)), (38, .int .i64 s_11), (46, .bool true), (49, .bool false), (50, .slice (some ⟨b3, 0, none⟩) ((List.replicate ((p0.length : Int) : Int).toNat ([] : List Int)).length) c4), (52, .int .i64 (w64 (s_2 + 1)))] rfl ⟨rfl, rfl, rfl, rfl, rfl, rfl, rfl, rfl, rfl, rfl, rfl, rfl, rfl, rfl, rfl, rfl, rfl, rfl, rfl, trivial⟩ ?_
                    obtain ⟨v_19, hy106, hx88⟩ := bind_some hx88
                    obtain ⟨hc107, hy106⟩ := ix_some hy106
                    refine WO_index tbok rfl rfl rfl rfl rfl rfl rfl rfl (OwnT.addr hL33) (by simpa using hc107) ?_
                    refine WO_loadT tbok 0 rfl rfl rfl rfl (fun _ h => h) hL33 rfl hy106 rfl rfl (fun a108 c109 L110 hv111 hr112 => ?_)
                    refine WO_pure tbok 1 [(0, .slice a_p0 p0.length c_p0), (1, .int .i64 p1), (2, .int .i64 p2), (6, .slice none 0 0), (7, .slice (some ⟨b3, 0, none⟩) ((List.replicate ((p0.length : Int) : Int).toNat ([] : List Int)).length) c4), (8, .int .i64 s_2), (9, .int .i64 s_6), (10, .int .i64 v_8), (11, .int .i64 s_10), (12, .int .i64 s_11), (26, .slice a28 ((v_4).length) c29), (27, .int .i64 ((v_4).length : Int)), (28, .int .i64 s_6), (37, .int .i64 ((v_9).length : Int)), (38, .int .i64 s_11), (46, .bool true), (49, .bool false), (54, .slice a108 v_19.length c109), (55, .int .i64 s_11)] rfl ⟨rfl, rfl, rfl, rfl, rfl, rfl, rfl, rfl, rfl, rfl, rfl, rfl, rfl, rfl, rfl, rfl, rfl, rfl, rfl, trivial⟩ ?_
                    obtain ⟨v_20, hy114, hx88⟩ := bind_some hx88
                    obtain ⟨hc115, hy114⟩ := ix_some hy114
                    refine WO_index tbok rfl rfl rfl rfl rfl rfl rfl rfl (OwnE.addr hr112) (by simpa using hc115) ?_
                    refine WO_loadTE (E := (I1 .i64)) tbok (fun _ => rfl) 0 rfl rfl rfl rfl (fun _ h => h) hL33 rfl hv111 hy106 hy114 rfl ?_
                    refine WO_pure tbok 6 [(0, .slice a_p0 p0.length c_p0), (1, .int .i64 p1), (2, .int .i64 p2), (6, .slice none 0 0), (7, .slice (some ⟨b3, 0, none⟩) ((List.replicate ((p0.length : Int) : Int).toNat ([] : List Int)).length) c4), (8, .int .i64 s_2), (9, .int .i64 s_6), (10, .int .i64 v_8), (11, .int .i64 s_10), (12, .int .i64 s_11), (26, .slice a28 ((v_4).length) c29), (27, .int .i64 ((v_4).length : Int)), (28, .int .i64 s_6), (37, .int .i64 ((v_9).length : Int)), (38, .int .i64 s_11), (46, .bool true), (49, .bool false), (57, .int .i64 v_20), (60, .int .i64 (w64 (s_11 - s_6))), (61, .int .i64 p1), (62, .int .i64 p2), (65, .int .i64 s_10)] rfl ⟨rfl, rfl, rfl, rfl, rfl, rfl, rfl, rfl, rfl, rfl, rfl, rfl, rfl, rfl, rfl, rfl, rfl, rfl, rfl, rfl, rfl, rfl, trivial⟩ ?_
                    obtain ⟨y_21, hc116, hx88⟩ := bind_some hx88
                    refine WO_call0 (.int .i64 y_21) rfl rfl St_closed rfl rfl rfl rfl St_closed ⟨39, #[], #[], rfl, callable_39, fun w hw => ⟨_, hw.sat, fiduciallaw45_jump_walk hc116⟩⟩ ?_
                    refine WO_pure tbok 4 [(0, .slice a_p0 p0.length c_p0), (1, .int .i64 p1), (2, .int .i64 p2), (6, .slice none 0 0), (7, .slice (some ⟨b3, 0, none⟩) ((List.replicate ((p0.length : Int) : Int).toNat ([] : List Int)).length) c4), (8, .int .i64 s_2), (9, .int .i64 s_6), (10, .int .i64 v_8), (11, .int .i64 s_10), (12, .int .i64 s_11), (26, .slice a28 ((v_4).length) c29), (27, .int .i64 ((v_4).length : Int)), (28, .int .i64 s_6), (37, .int .i64 ((v_9).length : Int)), (38, .int .i64 s_11), (68, .bool (decide ((w64 (v_20 + y_21)) < s_10)))] rfl ⟨rfl, rfl, rfl, rfl, rfl, rfl, rfl, rfl, rfl, rfl, rfl, rfl, rfl, rfl, rfl, rfl, trivial⟩ ?_
                    refine WO_tail ?_
                    refine WO_end ?_
                    cases hx88
                    refine WK.sub ?_ (WK.cls (fun _ h => h) hk89)
                    exact ⟨rfl, rfl, rfl, rfl, rfl, rfl, rfl, rfl, rfl, rfl, rfl, rfl, rfl, rfl, rfl, rfl, trivial⟩
                · have hx88 := ifF hb104 hx88
                  refine WO_pure tbok 17 [(0, .slice a_p0 p0.length c_p0), (1, .int .i64 p1), (2, .int .i64 p2), (6, .slice none 0 0), (7, .slice (some ⟨b3, 0, none⟩) ((List.replicate ((p0.length : Int) : Int).toNat ([] : List Int)).length) c4), (8, .int .i64 s_2), (9, .int .i64 s_6), (10, .int .i64 v_8), (11, .int .i64 s_10), (12, .int .i64 s_11), (26, .slice a28 ((v_4).length) c29), (27, .int .i64 ((v_4).length : Int)), (28, .int .i64 s_6), (37, .int .i64 ((v_9).length : Int)), (38, .int .i64 s_11), (46, .bool false), (49, undef)] rfl ⟨rfl, rfl, rfl, rfl, rfl, rfl, rfl, rfl, rfl, rfl, rfl, rfl, rfl, rfl, rfl, rfl, rfl, trivial⟩ ?_
                  refine WO_skip rfl rfl ?_
                  refine WO_pure tbok 4 [(0, .slice a_p0 p0.length c_p0), (1, .int .i64 p1), (2, .int .i64 p2), (6, .slice none 0 0), (7, .slice (some ⟨b3, 0, none⟩) ((List.replicate ((p0.length : Int) : Int).toNat ([] : List Int)).length) c4), (8, .int .i64 s_2), (9, .int .i64 s_6), (10, .int .i64 v_8), (11, .int .i64 s_10), (12, .int .i64 s_11), (26, .slice a28 ((v_4).length) c29), (27, .int .i64 ((v_4).length : Int)), (28, .int .i64 s_6), (37, .int .i64 ((v_9).length : Int)), (38, .int .i64 s_11), (68, .bool false)] rfl ⟨rfl, rfl, rfl, rfl, rfl, rfl, rfl, rfl, rfl, rfl, rfl, rfl, rfl, rfl, rfl, rfl, trivial⟩ ?_
                  refine WO_tail ?_
                  refine WO_end ?_
                  cases hx88
                  refine WK.sub ?_ (WK.cls (fun _ h => h) hk89)
                  exact ⟨rfl, rfl, rfl, rfl, rfl, rfl, rfl, rfl, rfl, rfl, rfl, rfl, rfl, rfl, rfl, rfl, trivial⟩
            · have hm59 := ifF hb87 hm59
              refine WK_exit rfl ?_
              cases hm59
              refine WK.sub ?_ (WK.cls (fun _ h => h) (hk58 (s_10, ()) (hd63 _ rfl)))
              exact ⟨rfl, rfl, rfl, rfl, rfl, rfl, rfl, rfl, rfl, rfl, rfl, trivial⟩
        · have hm41 := ifF hb47 hm41
          refine WK_exit rfl ?_
          cases hm41
          refine WK.sub ?_ (WK.cls (fun _ h => h) (hk40 (l_5, (vs34, L33)) ⟨(hd45 _ rfl), hL33⟩))
          exact ⟨rfl, rfl, rfl, rfl, rfl, rfl, trivial⟩
    · have hm16 := ifF hb25 hm16
      refine WK_exit rfl ?_
      cases hm16
      refine WK.sub ?_ (WK.cls (fun _ h => h) (hk15 (l_1, (vs9, L8)) ⟨(hd20 _ rfl), hL8⟩))
      exact ⟨rfl, rfl, trivial⟩
def fiduciallaw45_first_Q (r : List Int × Int) : Value → List Ent → Prop := fun v L => ∃ (a0 : Option Addr) (q0 c0 : Nat), v = .tuple #[.slice a0 q0 c0, .int .i64 r.2] ∧ OwnE 3 1 (I1 .i64) (.slice a0 q0 c0) r.1 L
theorem fiduciallaw45_first_walk {m : Mu} {p0 : List (List Int)} {p1 : Int} {p2 : Int} {a_p0 : Option Addr} {q_p0 c_p0 : Nat} (h_p0 : SlR (RowE (FE (I1 .i64)) 1) 1 m (.slice a_p0 q_p0 c_p0) p0) {r : List Int × Int} (hm : fiduciallaw45_first p0 p1 p2 = some r) :
    Go.E.Spec Try.prog 12 [.slice a_p0 q_p0 c_p0, .int .i64 p1, .int .i64 p2] m (fun v _ L => fiduciallaw45_first_Q r v L) := by
  refine Spec_enter Try.func12 rfl rfl rfl (fun w0 => ?_)
  refine WK.sub (e' := [(0, .slice a_p0 q_p0 c_p0), (1, .int .i64 p1), (2, .int .i64 p2)]) ⟨rfl, rfl, rfl, trivial⟩ ?_
  obtain rfl := SlR.qlen h_p0
  refine WK.sub (e' := [(0, .slice a_p0 p0.length c_p0), (1, .int .i64 p1), (2, .int .i64 p2)]) ⟨rfl, rfl, rfl, trivial⟩ ?_
  unfold fiduciallaw45_first at hm
  refine WK_seq ?_
  refine WK_region ?_
  refine WO_pure tbok 2 [(0, .slice a_p0 p0.length c_p0), (1, .int .i64 p1), (2, .int .i64 p2), (6, .slice none 0 0), (7, .int .i64 0)] rfl ⟨rfl, rfl, rfl, rfl, rfl, trivial⟩ ?_
  refine WO_end ?_
  refine WK_seq ?_
  refine WK_region ?_
  refine WO_pure tbok 3 [(0, .slice a_p0 p0.length c_p0), (1, .int .i64 p1), (2, .int .i64 p2), (6, .slice none 0 0), (7, .int .i64 0), (15, .slice a_p0 p0.length c_p0), (16, .int .i64 p1), (17, .int .i64 p2)] rfl ⟨rfl, rfl, rfl, rfl, rfl, rfl, rfl, rfl, trivial⟩ ?_
  obtain ⟨y_1, hc2, hm⟩ := bind_some hm
  refine WO_call2 (fiduciallaw45_least_Q y_1) rfl rfl trivial rfl rfl rfl rfl ⟨38, #[], #[], rfl, callable_38, fiduciallaw45_least_walk h_p0 hc2⟩ (fun v7 m8 L6 hle9 hq => ?_)
  obtain ⟨a3, qa3, c4, rfl, h10⟩ := hq
  obtain rfl := SlR.qlen h10
  refine WO.cls (C' := St w0 m m8 [L6]) (fun _ h => h.sub (by simp)) ?_
  refine WO_pure tbok 1 [(0, .slice a_p0 p0.length c_p0), (1, .int .i64 p1), (2, .int .i64 p2), (6, .slice none 0 0), (7, .int .i64 0), (8, .slice a3 ((y_1).length) c4)] rfl ⟨rfl, rfl, rfl, rfl, rfl, rfl, trivial⟩ ?_
  refine WO_end ?_
  refine WK_seq ?_
  refine WK_region ?_
  refine WO_pure tbok 1 [(0, .slice a_p0 p0.length c_p0), (1, .int .i64 p1), (2, .int .i64 p2), (6, .slice none 0 0), (7, .int .i64 0), (8, .slice a3 ((y_1).length) c4), (19, .slice a3 ((y_1).length) c4)] rfl ⟨rfl, rfl, rfl, rfl, rfl, rfl, rfl, trivial⟩ ?_
  obtain ⟨v_2, hy11, hm⟩ := bind_some hm
  obtain ⟨hc12, hy11⟩ := ix_some hy11
  refine WO_index tbok rfl rfl rfl rfl rfl rfl rfl rfl (SlR.addr h10) hc12 ?_
  refine WO_loadR tbok rfl rfl rfl rfl (fun _ h => St.sat h) h10 hy11 rfl rfl (fun a13 c14 h15 => ?_)
  obtain ⟨y_3, hc17, hm⟩ := bind_some hm
  refine WO_call0 (.int .i64 y_3) rfl rfl trivial rfl rfl rfl rfl St_closed ⟨34, #[], #[], rfl, callable_34, fun w hw => ⟨_, hw.sat, slices_Min_sint_walk h15 hc17⟩⟩ ?_
  refine WO_pure tbok 1 [(0, .slice a_p0 p0.length c_p0), (1, .int .i64 p1), (2, .int .i64 p2), (6, .slice none 0 0), (7, .int .i64 0), (8, .slice a3 ((y_1).length) c4), (9, .int .i64 y_3)] rfl ⟨rfl, rfl, rfl, rfl, rfl, rfl, rfl, trivial⟩ ?_
  refine WO_end ?_
  refine WK_seq ?_
  refine WK_region ?_
  refine WO_pure tbok 1 [(0, .slice a_p0 p0.length c_p0), (1, .int .i64 p1), (2, .int .i64 p2), (6, .slice none 0 0), (7, .int .i64 0), (8, .slice a3 ((y_1).length) c4), (9, .int .i64 y_3), (23, .slice a3 ((y_1).length) c4)] rfl ⟨rfl, rfl, rfl, rfl, rfl, rfl, rfl, rfl, trivial⟩ ?_
  obtain ⟨v_4, hy18, hm⟩ := bind_some hm
  obtain ⟨hc19, hy18⟩ := ix_some hy18
  refine WO_index tbok rfl rfl rfl rfl rfl rfl rfl rfl (SlR.addr h10) hc19 ?_
  refine WO_loadR tbok rfl rfl rfl rfl (fun _ h => St.sat h) h10 hy18 rfl rfl (fun a20 c21 h22 => ?_)
  refine WO_pure tbok 1 [(0, .slice a_p0 p0.length c_p0), (1, .int .i64 p1), (2, .int .i64 p2), (6, .slice none 0 0), (7, .int .i64 0), (8, .slice a3 ((y_1).length) c4), (9, .int .i64 y_3), (25, .slice a20 ((v_4).length) c21), (26, .int .i64 y_3)] rfl ⟨rfl, rfl, rfl, rfl, rfl, rfl, rfl, rfl, rfl, trivial⟩ ?_
  obtain ⟨y_5, hc24, hm⟩ := bind_some hm
  refine WO_call0 (.int .i64 y_5) rfl rfl trivial rfl rfl rfl rfl St_closed ⟨35, #[], #[], rfl, callable_35, fun w hw => ⟨_, hw.sat, slices_Index_sint_walk h22 hc24⟩⟩ ?_
  refine WO_bslice (E := (I1 .i64)) tbok (fun _ => rfl) (by decide) [.int .i64 y_5] ([y_5] : List Int) rfl rfl trivial rfl rfl rfl rfl rfl rfl rfl rfl rfl rfl rfl rfl (fun b25 hb25 => ?_)
  refine WO.cls (C' := St w0 m m8 [L6, [⟨b25, 3, ([y_5] : List Int).flatMap (I1 .i64)⟩]]) (fun _ h => h) ?_
  refine WO_pure tbok 1 [(0, .slice a_p0 p0.length c_p0), (1, .int .i64 p1), (2, .int .i64 p2), (6, .slice none 0 0), (7, .int .i64 0), (8, .slice a3 ((y_1).length) c4), (9, .int .i64 y_3), (10, .slice (some ⟨b25, 0, none⟩) 1 1)] rfl ⟨rfl, rfl, rfl, rfl, rfl, rfl, rfl, rfl, trivial⟩ ?_
  refine WO_end ?_
  refine WK_seq ?_
  refine WK_seq ?_
  refine WK_region ?_
  refine WO_pure tbok 1 [(0, .slice a_p0 p0.length c_p0), (1, .int .i64 p1), (2, .int .i64 p2), (6, .slice none 0 0), (7, .int .i64 0), (8, .slice a3 ((y_1).length) c4), (9, .int .i64 y_3), (10, .slice (some ⟨b25, 0, none⟩) 1 1), (11, .int .i64 1)] rfl ⟨rfl, rfl, rfl, rfl, rfl, rfl, rfl, rfl, rfl, trivial⟩ ?_
  refine WO_end ?_
  obtain ⟨x37, hx38, hm⟩ := bind_some hm
  refine WK_join (β := (List Int) × (Option Addr × Nat × Nat × List Ent)) (fun p => p.1 = x37 ∧ OwnE 3 1 (I1 .i64) (.slice p.2.1 p.2.2.1 p.2.2.2.1) p.1 p.2.2.2.2) (fun p => [(6, .slice none 0 0), (7, .int .i64 0), (9, .int .i64 y_3), (10, .slice p.2.1 p.2.2.1 p.2.2.2.1)]) (fun p => St w0 m m8 [L6, p.2.2.2.2]) ?_ (fun hk39 => ?_)
  · rintro ⟨l_8, ⟨a34, q35, c36, L33⟩⟩ ⟨hq45, hL33⟩
    subst hq45
    have hqq : q35 = l_8.length := OwnE.qlen hL33
    subst hqq
    refine WK.sub (e' := [(6, .slice none 0 0), (7, .int .i64 0), (9, .int .i64 y_3), (10, .slice a34 ((l_8).length) c36)]) ⟨rfl, rfl, rfl, rfl, trivial⟩ (WK.cls (C' := St w0 m m8 [L6, L33]) (fun _ h => h) ?_)
    refine WK_seq ?_
    refine WK_region ?_
    refine WO_pure tbok 4 [(6, .slice a34 ((l_8).length) c36), (7, .int .i64 y_3)] rfl ⟨rfl, rfl, trivial⟩ ?_
    refine WO_end ?_
    cases hm
    exact WK_ret (ret_out (L := L33) (RLc_tmp rfl (RLc_tmp rfl RLc_nil)) (seg_sub 1 rfl) ⟨a34, _, c36, rfl, hL33⟩)
  · refine WK_block ?_
    refine WK_loop (S := List Int × Int) (G := Option Addr × Nat × Nat × List Ent) (fun s => fiduciallaw45_first_s1 p0 p1 p2 y_1 s.1 s.2) (fun s g => [(0, .slice a_p0 p0.length c_p0), (1, .int .i64 p1), (2, .int .i64 p2), (6, .slice none 0 0), (7, .int .i64 0), (8, .slice a3 ((y_1).length) c4), (9, .int .i64 y_3), (10, .slice g.1 g.2.1 g.2.2.1), (11, .int .i64 s.2)]) (fun s g => St w0 m m8 [L6, g.2.2.2]) (fun s g => OwnE 3 1 (I1 .i64) (.slice g.1 g.2.1 g.2.2.1) s.1 g.2.2.2) FUEL (([y_5] : List Int), 1) (some ⟨b25, 0, none⟩, 1, 1, [⟨b25, 3, ([y_5] : List Int).flatMap (I1 .i64)⟩]) x37 hx38 hb25 ⟨rfl, rfl, rfl, rfl, rfl, rfl, rfl, rfl, rfl, trivial⟩ (fun _ h => h) ?_
    rintro ⟨l_6, s_7⟩ ⟨a29, q30, c31, L28⟩ o41 fl42 hm40 hL28 hn43 hd44
    have hm40 : fiduciallaw45_first_s1 p0 p1 p2 y_1 l_6 s_7 = some o41 := hm40
    unfold fiduciallaw45_first_s1 at hm40
    have hqq : q30 = l_6.length := OwnE.qlen hL28
    subst hqq
    refine WK.sub (e' := [(0, .slice a_p0 p0.length c_p0), (1, .int .i64 p1), (2, .int .i64 p2), (6, .slice none 0 0), (7, .int .i64 0), (8, .slice a3 ((y_1).length) c4), (9, .int .i64 y_3), (10, .slice a29 ((l_6).length) c31), (11, .int .i64 s_7)]) ⟨rfl, rfl, rfl, rfl, rfl, rfl, rfl, rfl, rfl, trivial⟩ (WK.cls (C' := St w0 m m8 [L6, L28]) (fun _ h => h) ?_)
    refine WK_seq ?_
    refine WK_seq ?_
    refine WK_region ?_
    refine WO_pure tbok 4 [(0, .slice a_p0 p0.length c_p0), (1, .int .i64 p1), (2, .int .i64 p2), (6, .slice none 0 0), (7, .int .i64 0), (8, .slice a3 ((y_1).length) c4), (9, .int .i64 y_3), (10, .slice a29 ((l_6).length) c31), (11, .int .i64 s_7), (32, .bool (decide (s_7 < (p0.length : Int))))] rfl ⟨rfl, rfl, rfl, rfl, rfl, rfl, rfl, rfl, rfl, rfl, trivial⟩ ?_
    refine WO_end ?_
    refine WK_cond (b := decide (s_7 < (p0.length : Int))) rfl (fun hb46 => ?_) (fun hb46 => ?_)
    · have hm40 := ifT hb46 hm40
      refine WK_skip ?_
      refine WK_seq ?_
      refine WK_block ?_
      refine WK_seq ?_
      refine WK_region ?_
      refine WO_pure tbok 3 [(0, .slice a_p0 p0.length c_p0), (1, .int .i64 p1), (2, .int .i64 p2), (6, .slice none 0 0), (7, .int .i64 0), (8, .slice a3 ((y_1).length) c4), (9, .int .i64 y_3), (10, .slice a29 ((l_6).length) c31), (11, .int .i64 s_7), (35, .slice a29 ((l_6).length) c31), (37, .int .i64 (w64 (s_7 - 1)))] rfl ⟨rfl, rfl, rfl, rfl, rfl, rfl, rfl, rfl, rfl, rfl, rfl, trivial⟩ ?_
      obtain ⟨v_9, hy47, hm40⟩ := bind_some hm40
      obtain ⟨hc48, hy47⟩ := ix_some hy47
      refine WO_index tbok rfl rfl rfl rfl rfl rfl rfl rfl (OwnE.addr hL28) (by simpa using hc48) ?_
      refine WO_loadO (E := (I1 .i64)) tbok (fun _ => rfl) 1 rfl rfl rfl rfl (fun _ h => h) hL28 rfl hy47 rfl ?_
      refine WO_pure tbok 1 [(0, .slice a_p0 p0.length c_p0), (1, .int .i64 p1), (2, .int .i64 p2), (6, .slice none 0 0), (7, .int .i64 0), (8, .slice a3 ((y_1).length) c4), (9, .int .i64 y_3), (10, .slice a29 ((l_6).length) c31), (11, .int .i64 s_7), (12, .int .i64 v_9)] rfl ⟨rfl, rfl, rfl, rfl, rfl, rfl, rfl, rfl, rfl, rfl, trivial⟩ ?_
      refine WO_end ?_
      refine WK_seq ?_
      refine WK_draw 18 [0, 1, 2, 3, 4, 5, 6, 7, 8, 9, 10, 11, 12, 13, 14, 15, 16, 17] follows_ok (by kernel_rfl) St_closed ?_
      refine WO_pure tbok 3 [(0, .slice a_p0 p0.length c_p0), (1, .int .i64 p1), (2, .int .i64 p2), (6, .slice none 0 0), (7, .int .i64 0), (8, .slice a3 ((y_1).length) c4), (9, .int .i64 y_3), (10, .slice a29 ((l_6).length) c31), (11, .int .i64 s_7), (12, .int .i64 v_9), (40, .slice a3 ((y_1).length) c4), (42, .int .i64 (w64 (s_7 - 1)))] rfl ⟨rfl, rfl, rfl, rfl, rfl, rfl, rfl, rfl, rfl, rfl, rfl, rfl, trivial⟩ ?_
      obtain ⟨v_10, hy49, hm40⟩ := bind_some hm40
      obtain ⟨hc50, hy49⟩ := ix_some hy49
      refine WO_index tbok rfl rfl rfl rfl rfl rfl rfl rfl (SlR.addr h10) hc50 ?_
      refine WO_loadR tbok rfl rfl rfl rfl (fun _ h => St.sat h) h10 hy49 rfl rfl (fun a51 c52 h53 => ?_)
      refine WO_pure tbok 1 [(0, .slice a_p0 p0.length c_p0), (1, .int .i64 p1), (2, .int .i64 p2), (6, .slice none 0 0), (7, .int .i64 0), (8, .slice a3 ((y_1).length) c4), (9, .int .i64 y_3), (10, .slice a29 ((l_6).length) c31), (11, .int .i64 s_7), (12, .int .i64 v_9), (44, .slice a51 ((v_10).length) c52), (45, .int .i64 v_9)] rfl ⟨rfl, rfl, rfl, rfl, rfl, rfl, rfl, rfl, rfl, rfl, rfl, rfl, trivial⟩ ?_
      obtain ⟨v_11, hy55, hm40⟩ := bind_some hm40
      obtain ⟨hc56, hy55⟩ := ix_some hy55
      refine WO_index tbok rfl rfl rfl rfl rfl rfl rfl rfl (SlR.addr h53) hc56 ?_
      refine WO_loadE tbok rfl rfl rfl rfl (fun _ h => St.sat h) h53 hy55 rfl ?_
      refine WO_pure tbok 3 [(0, .slice a_p0 p0.length c_p0), (1, .int .i64 p1), (2, .int .i64 p2), (6, .slice none 0 0), (7, .int .i64 0), (8, .slice a3 ((y_1).length) c4), (9, .int .i64 y_3), (10, .slice a29 ((l_6).length) c31), (11, .int .i64 s_7), (12, .int .i64 v_9), (47, .int .i64 v_11), (48, .slice a_p0 p0.length c_p0), (50, .int .i64 (w64 (s_7 - 1)))] rfl ⟨rfl, rfl, rfl, rfl, rfl, rfl, rfl, rfl, rfl, rfl, rfl, rfl, rfl, trivial⟩ ?_
      obtain ⟨v_12, hy57, hm40⟩ := bind_some hm40
      obtain ⟨hc58, hy57⟩ := ix_some hy57
      refine WO_index tbok rfl rfl rfl rfl rfl rfl rfl rfl (SlR.addr (h_p0.mono (mono_RowE (mono_FE _) _) hle9)) hc58 ?_
      refine WO_loadR tbok rfl rfl rfl rfl (fun _ h => St.sat h) (h_p0.mono (mono_RowE (mono_FE _) _) hle9) hy57 rfl rfl (fun a59 c60 h61 => ?_)
      refine WO_pure tbok 1 [(0, .slice a_p0 p0.length c_p0), (1, .int .i64 p1), (2, .int .i64 p2), (6, .slice none 0 0), (7, .int .i64 0), (8, .slice a3 ((y_1).length) c4), (9, .int .i64 y_3), (10, .slice a29 ((l_6).length) c31), (11, .int .i64 s_7), (12, .int .i64 v_9), (47, .int .i64 v_11), (52, .slice a59 ((v_12).length) c60), (53, .int .i64 v_9)] rfl ⟨rfl, rfl, rfl, rfl, rfl, rfl, rfl, rfl, rfl, rfl, rfl, rfl, rfl, trivial⟩ ?_
      obtain ⟨v_13, hy63, hm40⟩ := bind_some hm40
      obtain ⟨hc64, hy63⟩ := ix_some hy63
      refine WO_index tbok rfl rfl rfl rfl rfl rfl rfl rfl (SlR.addr h61) hc64 ?_
      refine WO_loadE tbok rfl rfl rfl rfl (fun _ h => St.sat h) h61 hy63 rfl ?_
      refine WO_pure tbok 2 [(0, .slice a_p0 p0.length c_p0), (1, .int .i64 p1), (2, .int .i64 p2), (6, .slice none 0 0), (7, .int .i64 0), (8, .slice a3 ((y_1).length) c4), (9, .int .i64 y_3), (10, .slice a29 ((l_6).length) c31), (11, .int .i64 s_7), (12, .int .i64 v_9), (13, .int .i64 (w64 (v_11 - v_13)))] rfl ⟨rfl, rfl, rfl, rfl, rfl, rfl, rfl, rfl, rfl, rfl, rfl, trivial⟩ ?_
      refine WO_tail ?_
      refine WO_end ?_
      refine WK_seq ?_
      refine WK_region ?_
      refine WO_pure tbok 2 [(0, .slice a_p0 p0.length c_p0), (1, .int .i64 p1), (2, .int .i64 p2), (6, .slice none 0 0), (7, .int .i64 0), (8, .slice a3 ((y_1).length) c4), (9, .int .i64 y_3), (10, .slice a29 ((l_6).length) c31), (11, .int .i64 s_7), (12, .int .i64 v_9), (13, .int .i64 (w64 (v_11 - v_13))), (57, .slice a_p0 p0.length c_p0), (58, .int .i64 s_7)] rfl ⟨rfl, rfl, rfl, rfl, rfl, rfl, rfl, rfl, rfl, rfl, rfl, rfl, rfl, trivial⟩ ?_
      obtain ⟨v_14, hy65, hm40⟩ := bind_some hm40
      obtain ⟨hc66, hy65⟩ := ix_some hy65
      refine WO_index tbok rfl rfl rfl rfl rfl rfl rfl rfl (SlR.addr (h_p0.mono (mono_RowE (mono_FE _) _) hle9)) hc66 ?_
      refine WO_loadR tbok rfl rfl rfl rfl (fun _ h => St.sat h) (h_p0.mono (mono_RowE (mono_FE _) _) hle9) hy65 rfl rfl (fun a67 c68 h69 => ?_)
      refine WO_pure tbok 2 [(0, .slice a_p0 p0.length c_p0), (1, .int .i64 p1), (2, .int .i64 p2), (6, .slice none 0 0), (7, .int .i64 0), (8, .slice a3 ((y_1).length) c4), (9, .int .i64 y_3), (10, .slice a29 ((l_6).length) c31), (11, .int .i64 s_7), (12, .int .i64 v_9), (13, .int .i64 (w64 (v_11 - v_13))), (61, .int .i64 ((v_14).length : Int)), (62, .int .i64 0)] rfl ⟨rfl, rfl, rfl, rfl, rfl, rfl, rfl, rfl, rfl, rfl, rfl, rfl, rfl, trivial⟩ ?_
      refine WO_end ?_
      obtain ⟨x81, hx82, hm40⟩ := bind_some hm40
      refine WK_join (β := (List Int) × (Option Addr × Nat × Nat × List Ent)) (fun p => p.1 = x81 ∧ OwnE 3 1 (I1 .i64) (.slice p.2.1 p.2.2.1 p.2.2.2.1) p.1 p.2.2.2.2) (fun p => [(0, .slice a_p0 p0.length c_p0), (1, .int .i64 p1), (2, .int .i64 p2), (6, .slice none 0 0), (7, .int .i64 0), (8, .slice a3 ((y_1).length) c4), (9, .int .i64 y_3), (10, .slice p.2.1 p.2.2.1 p.2.2.2.1), (11, .int .i64 s_7)]) (fun p => St w0 m m8 [L6, p.2.2.2.2]) ?_ (fun hk83 => ?_)
      · rintro ⟨l_17, ⟨a78, q79, c80, L77⟩⟩ ⟨hq89, hL77⟩
        subst hq89
        have hqq : q79 = l_17.length := OwnE.qlen hL77
        subst hqq
        refine WK.sub (e' := [(0, .slice a_p0 p0.length c_p0), (1, .int .i64 p1), (2, .int .i64 p2), (6, .slice none 0 0), (7, .int .i64 0), (8, .slice a3 ((y_1).length) c4), (9, .int .i64 y_3), (10, .slice a78 ((l_17).length) c80), (11, .int .i64 s_7)]) ⟨rfl, rfl, rfl, rfl, rfl, rfl, rfl, rfl, rfl, trivial⟩ (WK.cls (C' := St w0 m m8 [L6, L77]) (fun _ h => h) ?_)
        refine WK_blk ?_
        refine WK_region ?_
        refine WO_pure tbok 3 [(0, .slice a_p0 p0.length c_p0), (1, .int .i64 p1), (2, .int .i64 p2), (6, .slice none 0 0), (7, .int .i64 0), (8, .slice a3 ((y_1).length) c4), (9, .int .i64 y_3), (10, .slice a78 ((l_17).length) c80), (11, .int .i64 (w64 (s_7 + 1)))] rfl ⟨rfl, rfl, rfl, rfl, rfl, rfl, rfl, rfl, rfl, trivial⟩ ?_
        refine WO_end ?_
        cases hm40
        refine WK.sub ?_ (WK.cls (fun _ h => h) (hn43 _ (a78, _, c80, L77) rfl hL77))
        exact ⟨rfl, rfl, rfl, rfl, rfl, rfl, rfl, rfl, rfl, trivial⟩
      · refine WK_block ?_
        refine WK_loop (S := List Int × Int) (G := Option Addr × Nat × Nat × List Ent) (fun s => fiduciallaw45_first_s2 p1 p2 y_1 s_7 v_9 v_11 v_13 v_14 s.1 s.2) (fun s g => [(0, .slice a_p0 p0.length c_p0), (1, .int .i64 p1), (2, .int .i64 p2), (6, .slice none 0 0), (7, .int .i64 0), (8, .slice a3 ((y_1).length) c4), (9, .int .i64 y_3), (10, .slice g.1 g.2.1 g.2.2.1), (11, .int .i64 s_7), (12, .int .i64 v_9), (13, .int .i64 (w64 (v_11 - v_13))), (61, .int .i64 ((v_14).length : Int)), (62, .int .i64 s.2)]) (fun s g => St w0 m m8 [L6, g.2.2.2]) (fun s g => OwnE 3 1 (I1 .i64) (.slice g.1 g.2.1 g.2.2.1) s.1 g.2.2.2) FUEL (l_6, 0) (a29, _, c31, L28) x81 hx82 hL28 ⟨rfl, rfl, rfl, rfl, rfl, rfl, rfl, rfl, rfl, rfl, rfl, rfl, rfl, trivial⟩ (fun _ h => h) ?_
        rintro ⟨l_15, s_16⟩ ⟨a73, q74, c75, L72⟩ o85 fl86 hm84 hL72 hn87 hd88
        have hm84 : fiduciallaw45_first_s2 p1 p2 y_1 s_7 v_9 v_11 v_13 v_14 l_15 s_16 = some o85 := hm84
        unfold fiduciallaw45_first_s2 at hm84
        have hqq : q74 = l_15.length := OwnE.qlen hL72
        subst hqq
        refine WK.sub (e' := [(0, .slice a_p0 p0.length c_p0), (1, .int .i64 p1), (2, .int .i64 p2), (6, .slice none 0 0), (7, .int .i64 0), (8, .slice a3 ((y_1).length) c4), (9, .int .i64 y_3), (10, .slice a73 ((l_15).length) c75), (11, .int .i64 s_7), (12, .int .i64 v_9), (13, .int .i64 (w64 (v_11 - v_13))), (61, .int .i64 ((v_14).length : Int)), (62, .int .i64 s_16)]) ⟨rfl, rfl, rfl, rfl, rfl, rfl, rfl, rfl, rfl, rfl, rfl, rfl, rfl, trivial⟩ (WK.cls (C' := St w0 m m8 [L6, L72]) (fun _ h => h) ?_)
        refine WK_seq ?_
        refine WK_region ?_
        refine WO_pure tbok 1 [(0, .slice a_p0 p0.length c_p0), (1, .int .i64 p1), (2, .int .i64 p2), (6, .slice none 0 0), (7, .int .i64 0), (8, .slice a3 ((y_1).length) c4), (9, .int .i64 y_3), (10, .slice a73 ((l_15).length) c75), (11, .int .i64 s_7), (12, .int .i64 v_9), (13, .int .i64 (w64 (v_11 - v_13))), (61, .int .i64 ((v_14).length : Int)), (62, .int .i64 s_16), (63, .bool (decide (s_16 < ((v_14).length : Int))))] rfl ⟨rfl, rfl, rfl, rfl, rfl, rfl, rfl, rfl, rfl, rfl, rfl, rfl, rfl, rfl, trivial⟩ ?_
        refine WO_end ?_
        refine WK_seq ?_
        refine WK_cond (b := decide (s_16 < ((v_14).length : Int))) rfl (fun hb90 => ?_) (fun hb90 => ?_)
        · have hm84 := ifT hb90 hm84
          refine WK_skip ?_
          refine WK_seq ?_
          refine WK_block ?_
          refine WK_seq ?_
          refine WK_region ?_
          refine WO_pure tbok 2 [(0, .slice a_p0 p0.length c_p0), (1, .int .i64 p1), (2, .int .i64 p2), (6, .slice none 0 0), (7, .int .i64 0), (8, .slice a3 ((y_1).length) c4), (9, .int .i64 y_3), (10, .slice a73 ((l_15).length) c75), (11, .int .i64 s_7), (12, .int .i64 v_9), (13, .int .i64 (w64 (v_11 - v_13))), (14, .int .i64 s_16), (61, .int .i64 ((v_14).length : Int)), (62, .int .i64 s_16)] rfl ⟨rfl, rfl, rfl, rfl, rfl, rfl, rfl, rfl, rfl, rfl, rfl, rfl, rfl, rfl, trivial⟩ ?_
          refine WO_end ?_
          refine WK_seq ?_
          refine WK_draw 16 [0, 1, 2, 3, 4, 5, 6, 7, 8, 9, 10, 11, 14, 12, 13, 15] follows_ok (by kernel_rfl) St_closed ?_
          refine WO_pure tbok 2 [(0, .slice a_p0 p0.length c_p0), (1, .int .i64 p1), (2, .int .i64 p2), (6, .slice none 0 0), (7, .int .i64 0), (8, .slice a3 ((y_1).length) c4), (9, .int .i64 y_3), (10, .slice a73 ((l_15).length) c75), (11, .int .i64 s_7), (12, .int .i64 v_9), (13, .int .i64 (w64 (v_11 - v_13))), (14, .int .i64 s_16), (61, .int .i64 ((v_14).length : Int)), (62, .int .i64 s_16), (65, .slice a3 ((y_1).length) c4), (66, .int .i64 s_7)] rfl ⟨rfl, rfl, rfl, rfl, rfl, rfl, rfl, rfl, rfl, rfl, rfl, rfl, rfl, rfl, rfl, rfl, trivial⟩ ?_
          obtain ⟨v_18, hy91, hm84⟩ := bind_some hm84
          obtain ⟨hc92, hy91⟩ := ix_some hy91
          refine WO_index tbok rfl rfl rfl rfl rfl rfl rfl rfl (SlR.addr h10) hc92 ?_
          refine WO_loadR tbok rfl rfl rfl rfl (fun _ h => St.sat h) h10 hy91 rfl rfl (fun a93 c94 h95 => ?_)
          refine WO_pure tbok 1 [(0, .slice a_p0 p0.length c_p0), (1, .int .i64 p1), (2, .int .i64 p2), (6, .slice none 0 0), (7, .int .i64 0), (8, .slice a3 ((y_1).length) c4), (9, .int .i64 y_3), (10, .slice a73 ((l_15).length) c75), (11, .int .i64 s_7), (12, .int .i64 v_9), (13, .int .i64 (w64 (v_11 - v_13))), (14, .int .i64 s_16), (61, .int .i64 ((v_14).length : Int)), (62, .int .i64 s_16), (68, .slice a93 ((v_18).length) c94), (69, .int .i64 s_16)] rfl ⟨rfl, rfl, rfl, rfl, rfl, rfl, rfl, rfl, rfl, rfl, rfl, rfl, rfl, rfl, rfl, rfl, trivial⟩ ?_
          obtain ⟨v_19, hy97, hm84⟩ := bind_some hm84
          obtain ⟨hc98, hy97⟩ := ix_some hy97
          refine WO_index tbok rfl rfl rfl rfl rfl rfl rfl rfl (SlR.addr h95) hc98 ?_
          refine WO_loadE tbok rfl rfl rfl rfl (fun _ h => St.sat h) h95 hy97 rfl ?_
          refine WO_pure tbok 6 [(0, .slice a_p0 p0.length c_p0), (1, .int .i64 p1), (2, .int .i64 p2), (6, .slice none 0 0), (7, .int .i64 0), (8, .slice a3 ((y_1).length) c4), (9, .int .i64 y_3), (10, .slice a73 ((l_15).length) c75), (11, .int .i64 s_7), (12, .int .i64 v_9), (13, .int .i64 (w64 (v_11 - v_13))), (14, .int .i64 s_16), (61, .int .i64 ((v_14).length : Int)), (62, .int .i64 s_16), (71, .int .i64 v_19), (74, .int .i64 (w64 (s_16 - v_9))), (75, .int .i64 p1), (76, .int .i64 p2), (79, .int .i64 (w64 (v_11 - v_13)))] rfl ⟨rfl, rfl, rfl, rfl, rfl, rfl, rfl, rfl, rfl, rfl, rfl, rfl, rfl, rfl, rfl, rfl, rfl, rfl, rfl, trivial⟩ ?_
          obtain ⟨y_20, hc99, hm84⟩ := bind_some hm84
          refine WO_call0 (.int .i64 y_20) rfl rfl St_closed rfl rfl rfl rfl St_closed ⟨39, #[], #[], rfl, callable_39, fun w hw => ⟨_, hw.sat, fiduciallaw45_jump_walk hc99⟩⟩ ?_
          refine WO_pure tbok 2 [(0, .slice a_p0 p0.length c_p0), (1, .int .i64 p1), (2, .int .i64 p2), (6, .slice none 0 0), (7, .int .i64 0), (8, .slice a3 ((y_1).length) c4), (9, .int .i64 y_3), (10, .slice a73 ((l_15).length) c75), (11, .int .i64 s_7), (12, .int .i64 v_9), (13, .int .i64 (w64 (v_11 - v_13))), (14, .int .i64 s_16), (61, .int .i64 ((v_14).length : Int)), (62, .int .i64 s_16), (80, .bool ((w64 (v_19 + y_20)) == (w64 (v_11 - v_13))))] rfl ⟨rfl, rfl, rfl, rfl, rfl, rfl, rfl, rfl, rfl, rfl, rfl, rfl, rfl, rfl, rfl, trivial⟩ ?_
          refine WO_tail ?_
          refine WO_end ?_
          refine WK_cond (b := (w64 (v_19 + y_20)) == (w64 (v_11 - v_13))) rfl (fun hb100 => ?_) (fun hb100 => ?_)
          · have hm84 := ifT hb100 hm84
            refine WK_seq ?_
            refine WK_region ?_
            refine WO_pure tbok 2 [(0, .slice a_p0 p0.length c_p0), (1, .int .i64 p1), (2, .int .i64 p2), (6, .slice none 0 0), (7, .int .i64 0), (8, .slice a3 ((y_1).length) c4), (9, .int .i64 y_3), (10, .slice a73 ((l_15).length) c75), (11, .int .i64 s_7), (12, .int .i64 v_9), (13, .int .i64 (w64 (v_11 - v_13))), (61, .int .i64 ((v_14).length : Int)), (62, .int .i64 s_16), (81, .slice a73 ((l_15).length) c75), (82, .int .i64 s_16)] rfl ⟨rfl, rfl, rfl, rfl, rfl, rfl, rfl, rfl, rfl, rfl, rfl, rfl, rfl, rfl, rfl, trivial⟩ ?_
            refine WO_bslice (E := (I1 .i64)) tbok (fun _ => rfl) (by decide) [.int .i64 s_16] ([s_16] : List Int) rfl rfl trivial rfl rfl rfl rfl rfl rfl rfl rfl rfl rfl rfl rfl (fun b101 hb101 => ?_)
            refine WO.cls (C' := St w0 m m8 [L6, L72, [⟨b101, 3, ([s_16] : List Int).flatMap (I1 .i64)⟩]]) (fun _ h => h) ?_
            obtain ⟨hc103, hm84⟩ := chk_some hm84
            refine WO_append (E := (I1 .i64)) tbok (fun _ => rfl) 1 ([s_16] : List Int) (fun _ _ => rfl) rfl rfl rfl rfl rfl rfl rfl rfl rfl rfl rfl rfl hL72 rfl (src_seg (j := 2) rfl) (ap_ok (by decide) hc103) (ap_max hc103) (fun a104 c105 L106 hL106 => ?_)
            refine WO.cls (C' := St w0 m m8 [L6, L106, [⟨b101, 3, ([s_16] : List Int).flatMap (I1 .i64)⟩]]) (fun _ h => h) ?_
            refine WO_pure tbok 1 [(0, .slice a_p0 p0.length c_p0), (1, .int .i64 p1), (2, .int .i64 p2), (6, .slice none 0 0), (7, .int .i64 0), (8, .slice a3 ((y_1).length) c4), (9, .int .i64 y_3), (10, .slice a104 ((l_15 ++ ([s_16] : List Int)).length) c105), (11, .int .i64 s_7), (12, .int .i64 v_9), (13, .int .i64 (w64 (v_11 - v_13))), (61, .int .i64 ((v_14).length : Int)), (62, .int .i64 s_16)] rfl ⟨rfl, rfl, rfl, rfl, rfl, rfl, rfl, rfl, rfl, rfl, rfl, rfl, rfl, trivial⟩ ?_
            refine WO_end ?_
            refine WK_exit rfl ?_
            cases hm84
            refine WK.sub ?_ (WK.cls (fun _ h => St.take 2 h) (hk83 ((l_15 ++ ([s_16] : List Int)), (a104, (l_15 ++ ([s_16] : List Int)).length, c105, L106)) ⟨(hd88 _ rfl), hL106⟩))
            exact ⟨rfl, rfl, rfl, rfl, rfl, rfl, rfl, rfl, rfl, trivial⟩
          · have hm84 := ifF hb100 hm84
            refine WK_skip ?_
            refine WK_blk ?_
            refine WK_region ?_
            refine WO_pure tbok 2 [(0, .slice a_p0 p0.length c_p0), (1, .int .i64 p1), (2, .int .i64 p2), (6, .slice none 0 0), (7, .int .i64 0), (8, .slice a3 ((y_1).length) c4), (9, .int .i64 y_3), (10, .slice a73 ((l_15).length) c75), (11, .int .i64 s_7), (12, .int .i64 v_9), (13, .int .i64 (w64 (v_11 - v_13))), (61, .int .i64 ((v_14).length : Int)), (62, .int .i64 (w64 (s_16 + 1)))] rfl ⟨rfl, rfl, rfl, rfl, rfl, rfl, rfl, rfl, rfl, rfl, rfl, rfl, rfl, trivial⟩ ?_
            refine WO_end ?_
            cases hm84
            refine WK.sub ?_ (WK.cls (fun _ h => h) (hn87 _ (a73, _, c75, L72) rfl hL72))
            exact ⟨rfl, rfl, rfl, rfl, rfl, rfl, rfl, rfl, rfl, rfl, rfl, rfl, rfl, trivial⟩
        · have hm84 := ifF hb90 hm84
          refine WK_exit rfl ?_
          cases hm84
          refine WK.sub ?_ (WK.cls (fun _ h => h) (hk83 (l_15, (a73, _, c75, L72)) ⟨(hd88 _ rfl), hL72⟩))
          exact ⟨rfl, rfl, rfl, rfl, rfl, rfl, rfl, rfl, rfl, trivial⟩
    · have hm40 := ifF hb46 hm40
      refine WK_exit rfl ?_
      cases hm40
      refine WK.sub ?_ (WK.cls (fun _ h => h) (hk39 (l_6, (a29, _, c31, L28)) ⟨(hd44 _ rfl), hL28⟩))
      exact ⟨rfl, rfl, rfl, rfl, trivial⟩
end Go.Proofs.Ytgakaghdiodakaa
