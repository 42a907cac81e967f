import Derived.Test.YtgakaghdiodakaaTab
import Derived.Test.YtgakaghdiodakaaM
import Derived.Test.YtgakaghdiodakaaW2
set_option linter.unusedVariables false
set_option maxRecDepth 100000
set_option maxHeartbeats 4000000
namespace Go.Proofs.Ytgakaghdiodakaa
open Go.E Go.RowKit
attribute [local irreducible] Go.E.WO Go.E.WK
theorem fiduciallaw45_proves_walk {m : Mu} {p0 : List (List Int)} {p1 : Int} {p2 : Int} {p3 : List (List Int)} {p4 : Int} {a_p0 : Option Addr} {q_p0 c_p0 : Nat} {a_p3 : Option Addr} {q_p3 c_p3 : Nat} (h_p0 : SlR (RowE (FE (I1 .i64)) 1) 1 m (.slice a_p0 q_p0 c_p0) p0) (h_p3 : SlR (RowE (FE (I1 .i64)) 1) 1 m (.slice a_p3 q_p3 c_p3) p3) {r : Int} (hm : fiduciallaw45_proves p0 p1 p2 p3 p4 = some r) :
    Go.E.Spec Try.prog 14 [.slice a_p0 q_p0 c_p0, .int .i64 p1, .int .i64 p2, .slice a_p3 q_p3 c_p3, .int .i64 p4] m (fun v _ _ => v = .int .i64 r) := by
  refine Spec_enter Try.func14 rfl rfl rfl (fun w0 => ?_)
  refine WK.sub (e' := [(0, .slice a_p0 q_p0 c_p0), (1, .int .i64 p1), (2, .int .i64 p2), (3, .slice a_p3 q_p3 c_p3), (4, .int .i64 p4)]) ⟨rfl, rfl, rfl, rfl, rfl, trivial⟩ ?_
  obtain rfl := SlR.qlen h_p0
  obtain rfl := SlR.qlen h_p3
  refine WK.sub (e' := [(0, .slice a_p0 p0.length c_p0), (1, .int .i64 p1), (2, .int .i64 p2), (3, .slice a_p3 p3.length c_p3), (4, .int .i64 p4)]) ⟨rfl, rfl, rfl, rfl, rfl, trivial⟩ ?_
  unfold fiduciallaw45_proves at hm
  refine WK_seq ?_
  refine WK_region ?_
  refine WO_pure tbok 1 [(0, .slice a_p0 p0.length c_p0), (1, .int .i64 p1), (2, .int .i64 p2), (3, .slice a_p3 p3.length c_p3), (4, .int .i64 p4), (10, .int .i64 0)] rfl ⟨rfl, rfl, rfl, rfl, rfl, rfl, trivial⟩ ?_
  refine WO_end ?_
  refine WK_seq ?_
  refine WK_seq ?_
  refine WK_region ?_
  refine WO_pure tbok 5 [(0, .slice a_p0 p0.length c_p0), (1, .int .i64 p1), (2, .int .i64 p2), (3, .slice a_p3 p3.length c_p3), (4, .int .i64 p4), (10, .int .i64 0), (26, .bool ((p3.length : Int) != (p0.length : Int)))] rfl ⟨rfl, rfl, rfl, rfl, rfl, rfl, rfl, trivial⟩ ?_
  refine WO_end ?_
  refine WK_cond (b := (p3.length : Int) != (p0.length : Int)) rfl (fun hb3 => ?_) (fun hb3 => ?_)
  · have hm := ifT hb3 hm
    refine WK_seq ?_
    refine WK_region ?_
    refine WO_pure tbok 1 [(0, .slice a_p0 p0.length c_p0), (1, .int .i64 p1), (2, .int .i64 p2), (3, .slice a_p3 p3.length c_p3), (4, .int .i64 p4), (10, .int .i64 4)] rfl ⟨rfl, rfl, rfl, rfl, rfl, rfl, trivial⟩ ?_
    refine WO_end ?_
    cases hm
    exact WK_ret (ret_out (L := []) (RLc_tmp rfl RLc_nil) (List.nil_sublist _) rfl)
  · have hm := ifF hb3 hm
    refine WK_skip ?_
    refine WK_seq ?_
    refine WK_seq ?_
    refine WK_region ?_
    refine WO_pure tbok 3 [(0, .slice a_p0 p0.length c_p0), (1, .int .i64 p1), (2, .int .i64 p2), (3, .slice a_p3 p3.length c_p3), (4, .int .i64 p4), (10, .int .i64 0), (27, .slice a_p3 p3.length c_p3), (28, .int .i64 (p3.length : Int)), (29, .int .i64 0)] rfl ⟨rfl, rfl, rfl, rfl, rfl, rfl, rfl, rfl, rfl, trivial⟩ ?_
    refine WO_end ?_
    obtain ⟨x4, hx5, hm⟩ := bind_some hm
    refine WK_join (β := Unit × Unit) (fun p => Sum.inr p.1 = x4) (fun p => [(0, .slice a_p0 p0.length c_p0), (1, .int .i64 p1), (2, .int .i64 p2), (3, .slice a_p3 p3.length c_p3), (4, .int .i64 p4), (10, .int .i64 0)]) (fun p => St w0 m m []) ?_ (fun hk6 => ?_)
    · rintro ⟨⟨⟩, ⟨⟩⟩ hq12
      subst hq12
      refine WK.sub (e' := [(0, .slice a_p0 p0.length c_p0), (1, .int .i64 p1), (2, .int .i64 p2), (3, .slice a_p3 p3.length c_p3), (4, .int .i64 p4), (10, .int .i64 0)]) ⟨rfl, rfl, rfl, rfl, rfl, rfl, trivial⟩ (WK.cls (C' := St w0 m m []) (fun _ h => h) ?_)
      refine WK_seq ?_
      refine WK_seq ?_
      refine WK_region ?_
      refine WO_pure tbok 3 [(0, .slice a_p0 p0.length c_p0), (1, .int .i64 p1), (2, .int .i64 p2), (3, .slice a_p3 p3.length c_p3), (4, .int .i64 p4), (10, .int .i64 0), (41, .slice a_p3 p3.length c_p3), (42, .int .i64 (p3.length : Int)), (43, .int .i64 0)] rfl ⟨rfl, rfl, rfl, rfl, rfl, rfl, rfl, rfl, rfl, trivial⟩ ?_
      refine WO_end ?_
      obtain ⟨x13, hx14, hm⟩ := bind_some hm
      refine WK_join (β := Unit × Unit) (fun p => Sum.inr p.1 = x13) (fun p => [(0, .slice a_p0 p0.length c_p0), (1, .int .i64 p1), (2, .int .i64 p2), (3, .slice a_p3 p3.length c_p3), (4, .int .i64 p4), (10, .int .i64 0)]) (fun p => St w0 m m []) ?_ (fun hk15 => ?_)
      · rintro ⟨⟨⟩, ⟨⟩⟩ hq21
        subst hq21
        refine WK.sub (e' := [(0, .slice a_p0 p0.length c_p0), (1, .int .i64 p1), (2, .int .i64 p2), (3, .slice a_p3 p3.length c_p3), (4, .int .i64 p4), (10, .int .i64 0)]) ⟨rfl, rfl, rfl, rfl, rfl, rfl, trivial⟩ (WK.cls (C' := St w0 m m []) (fun _ h => h) ?_)
        refine WK_seq ?_
        refine WK_seq ?_
        refine WK_region ?_
        refine WO_pure tbok 3 [(0, .slice a_p0 p0.length c_p0), (1, .int .i64 p1), (2, .int .i64 p2), (3, .slice a_p3 p3.length c_p3), (4, .int .i64 p4), (10, .int .i64 0), (61, .slice a_p3 p3.length c_p3), (62, .int .i64 (p3.length : Int)), (63, .int .i64 0)] rfl ⟨rfl, rfl, rfl, rfl, rfl, rfl, rfl, rfl, rfl, trivial⟩ ?_
        refine WO_end ?_
        obtain ⟨x22, hx23, hm⟩ := bind_some hm
        refine WK_join (β := Unit × Unit) (fun p => Sum.inr p.1 = x22) (fun p => [(3, .slice a_p3 p3.length c_p3), (4, .int .i64 p4), (10, .int .i64 0)]) (fun p => St w0 m m []) ?_ (fun hk24 => ?_)
        · rintro ⟨⟨⟩, ⟨⟩⟩ hq30
          subst hq30
          refine WK.sub (e' := [(3, .slice a_p3 p3.length c_p3), (4, .int .i64 p4), (10, .int .i64 0)]) ⟨rfl, rfl, rfl, trivial⟩ (WK.cls (C' := St w0 m m []) (fun _ h => h) ?_)
          refine WK_seq ?_
          refine WK_seq ?_
          refine WK_region ?_
          refine WO_pure tbok 4 [(4, .int .i64 p4), (10, .int .i64 0), (124, .slice a_p3 p3.length c_p3), (127, .int .i64 (w64 ((p3.length : Int) - 1)))] rfl ⟨rfl, rfl, rfl, rfl, trivial⟩ ?_
          obtain ⟨v_4, hy31, hm⟩ := bind_some hm
          obtain ⟨hc32, hy31⟩ := ix_some hy31
          refine WO_index tbok rfl rfl rfl rfl rfl rfl rfl rfl (SlR.addr h_p3) hc32 ?_
          refine WO_loadR tbok rfl rfl rfl rfl (fun _ h => St.sat h) h_p3 hy31 rfl rfl (fun a33 c34 h35 => ?_)
          obtain ⟨y_5, hc37, hm⟩ := bind_some hm
          refine WO_call0 (.int .i64 y_5) rfl rfl trivial rfl rfl rfl rfl St_closed ⟨34, #[], #[], rfl, callable_34, fun w hw => ⟨_, hw.sat, slices_Min_sint_walk h35 hc37⟩⟩ ?_
          refine WO_pure tbok 2 [(10, .int .i64 0), (132, .bool (decide (y_5 < p4)))] rfl ⟨rfl, rfl, trivial⟩ ?_
          refine WO_end ?_
          refine WK_cond (b := decide (y_5 < p4)) rfl (fun hb38 => ?_) (fun hb38 => ?_)
          · have hm := ifT hb38 hm
            refine WK_seq ?_
            refine WK_region ?_
            refine WO_pure tbok 1 [(10, .int .i64 12)] rfl ⟨rfl, trivial⟩ ?_
            refine WO_end ?_
            cases hm
            exact WK_ret (ret_out (L := []) (RLc_tmp rfl RLc_nil) (List.nil_sublist _) rfl)
          · have hm := ifF hb38 hm
            refine WK_skip ?_
            refine WK_seq ?_
            refine WK_region ?_
            refine WO_pure tbok 1 [(10, .int .i64 0)] rfl ⟨rfl, trivial⟩ ?_
            refine WO_end ?_
            cases hm
            exact WK_ret (ret_out (L := []) (RLc_tmp rfl RLc_nil) (List.nil_sublist _) rfl)
        · refine WK_block ?_
          refine WK_loop (S := Int) (G := Unit) (fun s => fiduciallaw45_proves_s3 p0 p1 p2 p3 s) (fun s g => [(0, .slice a_p0 p0.length c_p0), (1, .int .i64 p1), (2, .int .i64 p2), (3, .slice a_p3 p3.length c_p3), (4, .int .i64 p4), (10, .int .i64 0), (61, .slice a_p3 p3.length c_p3), (62, .int .i64 (p3.length : Int)), (63, .int .i64 s)]) (fun s g => St w0 m m []) (fun s g => True) FUEL 0 () x22 hx23 trivial ⟨rfl, rfl, rfl, rfl, rfl, rfl, rfl, rfl, rfl, trivial⟩ (fun _ h => h) ?_
          rintro s_3 ⟨⟩ o26 fl27 hm25 - hn28 hd29
          have hm25 : fiduciallaw45_proves_s3 p0 p1 p2 p3 s_3 = some o26 := hm25
          unfold fiduciallaw45_proves_s3 at hm25
          refine WK.sub (e' := [(0, .slice a_p0 p0.length c_p0), (1, .int .i64 p1), (2, .int .i64 p2), (3, .slice a_p3 p3.length c_p3), (4, .int .i64 p4), (10, .int .i64 0), (61, .slice a_p3 p3.length c_p3), (62, .int .i64 (p3.length : Int)), (63, .int .i64 s_3)]) ⟨rfl, rfl, rfl, rfl, rfl, rfl, rfl, rfl, rfl, trivial⟩ (WK.cls (C' := St w0 m m []) (fun _ h => h) ?_)
          refine WK_seq ?_
          refine WK_region ?_
          refine WO_pure tbok 1 [(0, .slice a_p0 p0.length c_p0), (1, .int .i64 p1), (2, .int .i64 p2), (3, .slice a_p3 p3.length c_p3), (4, .int .i64 p4), (10, .int .i64 0), (61, .slice a_p3 p3.length c_p3), (62, .int .i64 (p3.length : Int)), (63, .int .i64 s_3), (64, .bool (decide (s_3 < (p3.length : Int))))] rfl ⟨rfl, rfl, rfl, rfl, rfl, rfl, rfl, rfl, rfl, rfl, trivial⟩ ?_
          refine WO_end ?_
          refine WK_seq ?_
          refine WK_cond (b := decide (s_3 < (p3.length : Int))) rfl (fun hb39 => ?_) (fun hb39 => ?_)
          · have hm25 := ifT hb39 hm25
            refine WK_skip ?_
            refine WK_seq ?_
            refine WK_block ?_
            refine WK_seq ?_
            refine WK_region ?_
            refine WO_pure tbok 1 [(0, .slice a_p0 p0.length c_p0), (1, .int .i64 p1), (2, .int .i64 p2), (3, .slice a_p3 p3.length c_p3), (4, .int .i64 p4), (10, .int .i64 0), (61, .slice a_p3 p3.length c_p3), (62, .int .i64 (p3.length : Int)), (63, .int .i64 s_3), (65, .int .i64 s_3)] rfl ⟨rfl, rfl, rfl, rfl, rfl, rfl, rfl, rfl, rfl, rfl, trivial⟩ ?_
            obtain ⟨v_6, hy40, hm25⟩ := bind_some hm25
            obtain ⟨hc41, hy40⟩ := ix_some hy40
            refine WO_index tbok rfl rfl rfl rfl rfl rfl rfl rfl (SlR.addr h_p3) hc41 ?_
            refine WO_loadR tbok rfl rfl rfl rfl (fun _ h => St.sat h) h_p3 hy40 rfl rfl (fun a42 c43 h44 => ?_)
            refine WO_pure tbok 2 [(0, .slice a_p0 p0.length c_p0), (1, .int .i64 p1), (2, .int .i64 p2), (3, .slice a_p3 p3.length c_p3), (4, .int .i64 p4), (10, .int .i64 0), (17, .int .i64 s_3), (18, .slice a42 ((v_6).length) c43), (61, .slice a_p3 p3.length c_p3), (62, .int .i64 (p3.length : Int)), (63, .int .i64 s_3)] rfl ⟨rfl, rfl, rfl, rfl, rfl, rfl, rfl, rfl, rfl, rfl, rfl, trivial⟩ ?_
            refine WO_end ?_
            refine WK_seq ?_
            refine WK_region ?_
            refine WO_pure tbok 3 [(0, .slice a_p0 p0.length c_p0), (1, .int .i64 p1), (2, .int .i64 p2), (3, .slice a_p3 p3.length c_p3), (4, .int .i64 p4), (10, .int .i64 0), (17, .int .i64 s_3), (18, .slice a42 ((v_6).length) c43), (61, .slice a_p3 p3.length c_p3), (62, .int .i64 (p3.length : Int)), (63, .int .i64 s_3), (68, .slice a42 ((v_6).length) c43), (69, .int .i64 ((v_6).length : Int)), (70, .int .i64 0)] rfl ⟨rfl, rfl, rfl, rfl, rfl, rfl, rfl, rfl, rfl, rfl, rfl, rfl, rfl, rfl, trivial⟩ ?_
            refine WO_end ?_
            obtain ⟨x46, hx47, hm25⟩ := bind_some hm25
            refine WK_join (β := Unit × Unit) (fun p => Sum.inr p.1 = x46) (fun p => [(0, .slice a_p0 p0.length c_p0), (1, .int .i64 p1), (2, .int .i64 p2), (3, .slice a_p3 p3.length c_p3), (4, .int .i64 p4), (10, .int .i64 0), (61, .slice a_p3 p3.length c_p3), (62, .int .i64 (p3.length : Int)), (63, .int .i64 s_3)]) (fun p => St w0 m m []) ?_ (fun hk48 => ?_)
            · rintro ⟨⟨⟩, ⟨⟩⟩ hq54
              subst hq54
              refine WK.sub (e' := [(0, .slice a_p0 p0.length c_p0), (1, .int .i64 p1), (2, .int .i64 p2), (3, .slice a_p3 p3.length c_p3), (4, .int .i64 p4), (10, .int .i64 0), (61, .slice a_p3 p3.length c_p3), (62, .int .i64 (p3.length : Int)), (63, .int .i64 s_3)]) ⟨rfl, rfl, rfl, rfl, rfl, rfl, rfl, rfl, rfl, trivial⟩ (WK.cls (C' := St w0 m m []) (fun _ h => h) ?_)
              refine WK_blk ?_
              refine WK_region ?_
              refine WO_pure tbok 2 [(0, .slice a_p0 p0.length c_p0), (1, .int .i64 p1), (2, .int .i64 p2), (3, .slice a_p3 p3.length c_p3), (4, .int .i64 p4), (10, .int .i64 0), (61, .slice a_p3 p3.length c_p3), (62, .int .i64 (p3.length : Int)), (63, .int .i64 (w64 (s_3 + 1)))] rfl ⟨rfl, rfl, rfl, rfl, rfl, rfl, rfl, rfl, rfl, trivial⟩ ?_
              refine WO_end ?_
              cases hm25
              refine WK.sub ?_ (WK.cls (fun _ h => h) (hn28 _ () rfl trivial))
              exact ⟨rfl, rfl, rfl, rfl, rfl, rfl, rfl, rfl, rfl, trivial⟩
            · refine WK_block ?_
              refine WK_loop (S := Int) (G := Unit) (fun s => fiduciallaw45_proves_s4 p0 p1 p2 p3 s_3 v_6 s) (fun s g => [(0, .slice a_p0 p0.length c_p0), (1, .int .i64 p1), (2, .int .i64 p2), (3, .slice a_p3 p3.length c_p3), (4, .int .i64 p4), (10, .int .i64 0), (17, .int .i64 s_3), (18, .slice a42 ((v_6).length) c43), (61, .slice a_p3 p3.length c_p3), (62, .int .i64 (p3.length : Int)), (63, .int .i64 s_3), (68, .slice a42 ((v_6).length) c43), (69, .int .i64 ((v_6).length : Int)), (70, .int .i64 s)]) (fun s g => St w0 m m []) (fun s g => True) FUEL 0 () x46 hx47 trivial ⟨rfl, rfl, rfl, rfl, rfl, rfl, rfl, rfl, rfl, rfl, rfl, rfl, rfl, rfl, trivial⟩ (fun _ h => h) ?_
              rintro s_7 ⟨⟩ o50 fl51 hm49 - hn52 hd53
              have hm49 : fiduciallaw45_proves_s4 p0 p1 p2 p3 s_3 v_6 s_7 = some o50 := hm49
              unfold fiduciallaw45_proves_s4 at hm49
              refine WK.sub (e' := [(0, .slice a_p0 p0.length c_p0), (1, .int .i64 p1), (2, .int .i64 p2), (3, .slice a_p3 p3.length c_p3), (4, .int .i64 p4), (10, .int .i64 0), (17, .int .i64 s_3), (18, .slice a42 ((v_6).length) c43), (61, .slice a_p3 p3.length c_p3), (62, .int .i64 (p3.length : Int)), (63, .int .i64 s_3), (68, .slice a42 ((v_6).length) c43), (69, .int .i64 ((v_6).length : Int)), (70, .int .i64 s_7)]) ⟨rfl, rfl, rfl, rfl, rfl, rfl, rfl, rfl, rfl, rfl, rfl, rfl, rfl, rfl, trivial⟩ (WK.cls (C' := St w0 m m []) (fun _ h => h) ?_)
              refine WK_seq ?_
              refine WK_region ?_
              refine WO_pure tbok 1 [(0, .slice a_p0 p0.length c_p0), (1, .int .i64 p1), (2, .int .i64 p2), (3, .slice a_p3 p3.length c_p3), (4, .int .i64 p4), (10, .int .i64 0), (17, .int .i64 s_3), (18, .slice a42 ((v_6).length) c43), (61, .slice a_p3 p3.length c_p3), (62, .int .i64 (p3.length : Int)), (63, .int .i64 s_3), (68, .slice a42 ((v_6).length) c43), (69, .int .i64 ((v_6).length : Int)), (70, .int .i64 s_7), (71, .bool (decide (s_7 < ((v_6).length : Int))))] rfl ⟨rfl, rfl, rfl, rfl, rfl, rfl, rfl, rfl, rfl, rfl, rfl, rfl, rfl, rfl, rfl, trivial⟩ ?_
              refine WO_end ?_
              refine WK_seq ?_
              refine WK_cond (b := decide (s_7 < ((v_6).length : Int))) rfl (fun hb55 => ?_) (fun hb55 => ?_)
              · have hm49 := ifT hb55 hm49
                refine WK_skip ?_
                refine WK_seq ?_
                refine WK_block ?_
                refine WK_seq ?_
                refine WK_region ?_
                refine WO_pure tbok 1 [(0, .slice a_p0 p0.length c_p0), (1, .int .i64 p1), (2, .int .i64 p2), (3, .slice a_p3 p3.length c_p3), (4, .int .i64 p4), (10, .int .i64 0), (17, .int .i64 s_3), (18, .slice a42 ((v_6).length) c43), (61, .slice a_p3 p3.length c_p3), (62, .int .i64 (p3.length : Int)), (63, .int .i64 s_3), (68, .slice a42 ((v_6).length) c43), (69, .int .i64 ((v_6).length : Int)), (70, .int .i64 s_7), (72, .int .i64 s_7)] rfl ⟨rfl, rfl, rfl, rfl, rfl, rfl, rfl, rfl, rfl, rfl, rfl, rfl, rfl, rfl, rfl, trivial⟩ ?_
                obtain ⟨v_8, hy56, hm49⟩ := bind_some hm49
                obtain ⟨hc57, hy56⟩ := ix_some hy56
                refine WO_index tbok rfl rfl rfl rfl rfl rfl rfl rfl (SlR.addr h44) hc57 ?_
                refine WO_loadE tbok rfl rfl rfl rfl (fun _ h => St.sat h) h44 hy56 rfl ?_
                refine WO_pure tbok 2 [(0, .slice a_p0 p0.length c_p0), (1, .int .i64 p1), (2, .int .i64 p2), (3, .slice a_p3 p3.length c_p3), (4, .int .i64 p4), (10, .int .i64 0), (17, .int .i64 s_3), (18, .slice a42 ((v_6).length) c43), (19, .int .i64 s_7), (20, .int .i64 v_8), (61, .slice a_p3 p3.length c_p3), (62, .int .i64 (p3.length : Int)), (63, .int .i64 s_3), (68, .slice a42 ((v_6).length) c43), (69, .int .i64 ((v_6).length : Int)), (70, .int .i64 s_7)] rfl ⟨rfl, rfl, rfl, rfl, rfl, rfl, rfl, rfl, rfl, rfl, rfl, rfl, rfl, rfl, rfl, rfl, trivial⟩ ?_
                refine WO_end ?_
                refine WK_seq ?_
                refine WK_seq ?_
                obtain ⟨s_9, hx58, hm49⟩ := bind_some hm49
                refine WK_meet [(0, .slice a_p0 p0.length c_p0), (1, .int .i64 p1), (2, .int .i64 p2), (3, .slice a_p3 p3.length c_p3), (4, .int .i64 p4), (10, .int .i64 0), (17, .int .i64 s_3), (18, .slice a42 ((v_6).length) c43), (19, .int .i64 s_7), (20, .int .i64 v_8), (61, .slice a_p3 p3.length c_p3), (62, .int .i64 (p3.length : Int)), (63, .int .i64 s_3), (68, .slice a42 ((v_6).length) c43), (69, .int .i64 ((v_6).length : Int)), (70, .int .i64 s_7), (86, .bool s_9)] (St w0 m m []) ?_ (fun hk59 => ?_)
                · refine WK_cond (b := s_9) rfl (fun hb60 => ?_) (fun hb60 => ?_)
                  · have hm49 := ifT hb60 hm49
                    refine WK_seq ?_
                    refine WK_region ?_
                    refine WO_pure tbok 1 [(0, .slice a_p0 p0.length c_p0), (1, .int .i64 p1), (2, .int .i64 p2), (3, .slice a_p3 p3.length c_p3), (4, .int .i64 p4), (10, .int .i64 12), (17, .int .i64 s_3), (18, .slice a42 ((v_6).length) c43), (19, .int .i64 s_7), (20, .int .i64 v_8), (61, .slice a_p3 p3.length c_p3), (62, .int .i64 (p3.length : Int)), (63, .int .i64 s_3), (68, .slice a42 ((v_6).length) c43), (69, .int .i64 ((v_6).length : Int)), (70, .int .i64 s_7)] rfl ⟨rfl, rfl, rfl, rfl, rfl, rfl, rfl, rfl, rfl, rfl, rfl, rfl, rfl, rfl, rfl, rfl, trivial⟩ ?_
                    refine WO_end ?_
                    cases hm49
                    have hq := hd53 _ rfl
                    subst hq
                    have hm25 : some _ = some _ := hm25
                    cases hm25
                    have hq := hd29 _ rfl
                    subst hq
                    have hm : some _ = some _ := hm
                    cases hm
                    exact WK_ret (ret_out (L := []) (RLc_tmp rfl RLc_nil) (List.nil_sublist _) rfl)
                  · have hm49 := ifF hb60 hm49
                    refine WK_skip ?_
                    refine WK_seq ?_
                    refine WK_region ?_
                    refine WO_pure tbok 3 [(0, .slice a_p0 p0.length c_p0), (1, .int .i64 p1), (2, .int .i64 p2), (3, .slice a_p3 p3.length c_p3), (4, .int .i64 p4), (10, .int .i64 0), (17, .int .i64 s_3), (18, .slice a42 ((v_6).length) c43), (19, .int .i64 s_7), (20, .int .i64 v_8), (61, .slice a_p3 p3.length c_p3), (62, .int .i64 (p3.length : Int)), (63, .int .i64 s_3), (68, .slice a42 ((v_6).length) c43), (69, .int .i64 ((v_6).length : Int)), (70, .int .i64 s_7), (88, .int .i64 ((v_6).length : Int)), (89, .int .i64 0)] rfl ⟨rfl, rfl, rfl, rfl, rfl, rfl, rfl, rfl, rfl, rfl, rfl, rfl, rfl, rfl, rfl, rfl, rfl, rfl, trivial⟩ ?_
                    refine WO_end ?_
                    obtain ⟨x61, hx62, hm49⟩ := bind_some hm49
                    refine WK_join (β := Unit × Unit) (fun p => Sum.inr p.1 = x61) (fun p => [(0, .slice a_p0 p0.length c_p0), (1, .int .i64 p1), (2, .int .i64 p2), (3, .slice a_p3 p3.length c_p3), (4, .int .i64 p4), (10, .int .i64 0), (17, .int .i64 s_3), (18, .slice a42 ((v_6).length) c43), (61, .slice a_p3 p3.length c_p3), (62, .int .i64 (p3.length : Int)), (63, .int .i64 s_3), (68, .slice a42 ((v_6).length) c43), (69, .int .i64 ((v_6).length : Int)), (70, .int .i64 s_7)]) (fun p => St w0 m m []) ?_ (fun hk63 => ?_)
                    · rintro ⟨⟨⟩, ⟨⟩⟩ hq69
                      subst hq69
                      refine WK.sub (e' := [(0, .slice a_p0 p0.length c_p0), (1, .int .i64 p1), (2, .int .i64 p2), (3, .slice a_p3 p3.length c_p3), (4, .int .i64 p4), (10, .int .i64 0), (17, .int .i64 s_3), (18, .slice a42 ((v_6).length) c43), (61, .slice a_p3 p3.length c_p3), (62, .int .i64 (p3.length : Int)), (63, .int .i64 s_3), (68, .slice a42 ((v_6).length) c43), (69, .int .i64 ((v_6).length : Int)), (70, .int .i64 s_7)]) ⟨rfl, rfl, rfl, rfl, rfl, rfl, rfl, rfl, rfl, rfl, rfl, rfl, rfl, rfl, trivial⟩ (WK.cls (C' := St w0 m m []) (fun _ h => h) ?_)
                      refine WK_blk ?_
                      refine WK_region ?_
                      refine WO_pure tbok 2 [(0, .slice a_p0 p0.length c_p0), (1, .int .i64 p1), (2, .int .i64 p2), (3, .slice a_p3 p3.length c_p3), (4, .int .i64 p4), (10, .int .i64 0), (17, .int .i64 s_3), (18, .slice a42 ((v_6).length) c43), (61, .slice a_p3 p3.length c_p3), (62, .int .i64 (p3.length : Int)), (63, .int .i64 s_3), (68, .slice a42 ((v_6).length) c43), (69, .int .i64 ((v_6).length : Int)), (70, .int .i64 (w64 (s_7 + 1)))] rfl ⟨rfl, rfl, rfl, rfl, rfl, rfl, rfl, rfl, rfl, rfl, rfl, rfl, rfl, rfl, trivial⟩ ?_
                      refine WO_end ?_
                      cases hm49
                      refine WK.sub ?_ (WK.cls (fun _ h => h) (hn52 _ () rfl trivial))
                      exact ⟨rfl, rfl, rfl, rfl, rfl, rfl, rfl, rfl, rfl, rfl, rfl, rfl, rfl, rfl, trivial⟩
                    · refine WK_block ?_
                      refine WK_loop (S := Int) (G := Unit) (fun s => fiduciallaw45_proves_s5 p0 p1 p2 p3 s_3 v_6 s_7 v_8 s) (fun s g => [(0, .slice a_p0 p0.length c_p0), (1, .int .i64 p1), (2, .int .i64 p2), (3, .slice a_p3 p3.length c_p3), (4, .int .i64 p4), (10, .int .i64 0), (17, .int .i64 s_3), (18, .slice a42 ((v_6).length) c43), (19, .int .i64 s_7), (20, .int .i64 v_8), (61, .slice a_p3 p3.length c_p3), (62, .int .i64 (p3.length : Int)), (63, .int .i64 s_3), (68, .slice a42 ((v_6).length) c43), (69, .int .i64 ((v_6).length : Int)), (70, .int .i64 s_7), (88, .int .i64 ((v_6).length : Int)), (89, .int .i64 s)]) (fun s g => St w0 m m []) (fun s g => True) FUEL 0 () x61 hx62 trivial ⟨rfl, rfl, rfl, rfl, rfl, rfl, rfl, rfl, rfl, rfl, rfl, rfl, rfl, rfl, rfl, rfl, rfl, rfl, trivial⟩ (fun _ h => h) ?_
                      rintro s_10 ⟨⟩ o65 fl66 hm64 - hn67 hd68
                      have hm64 : fiduciallaw45_proves_s5 p0 p1 p2 p3 s_3 v_6 s_7 v_8 s_10 = some o65 := hm64
                      unfold fiduciallaw45_proves_s5 at hm64
                      refine WK.sub (e' := [(0, .slice a_p0 p0.length c_p0), (1, .int .i64 p1), (2, .int .i64 p2), (3, .slice a_p3 p3.length c_p3), (4, .int .i64 p4), (10, .int .i64 0), (17, .int .i64 s_3), (18, .slice a42 ((v_6).length) c43), (19, .int .i64 s_7), (20, .int .i64 v_8), (61, .slice a_p3 p3.length c_p3), (62, .int .i64 (p3.length : Int)), (63, .int .i64 s_3), (68, .slice a42 ((v_6).length) c43), (69, .int .i64 ((v_6).length : Int)), (70, .int .i64 s_7), (88, .int .i64 ((v_6).length : Int)), (89, .int .i64 s_10)]) ⟨rfl, rfl, rfl, rfl, rfl, rfl, rfl, rfl, rfl, rfl, rfl, rfl, rfl, rfl, rfl, rfl, rfl, rfl, trivial⟩ (WK.cls (C' := St w0 m m []) (fun _ h => h) ?_)
                      refine WK_seq ?_
                      refine WK_region ?_
                      refine WO_pure tbok 1 [(0, .slice a_p0 p0.length c_p0), (1, .int .i64 p1), (2, .int .i64 p2), (3, .slice a_p3 p3.length c_p3), (4, .int .i64 p4), (10, .int .i64 0), (17, .int .i64 s_3), (18, .slice a42 ((v_6).length) c43), (19, .int .i64 s_7), (20, .int .i64 v_8), (61, .slice a_p3 p3.length c_p3), (62, .int .i64 (p3.length : Int)), (63, .int .i64 s_3), (68, .slice a42 ((v_6).length) c43), (69, .int .i64 ((v_6).length : Int)), (70, .int .i64 s_7), (88, .int .i64 ((v_6).length : Int)), (89, .int .i64 s_10), (90, .bool (decide (s_10 < ((v_6).length : Int))))] rfl ⟨rfl, rfl, rfl, rfl, rfl, rfl, rfl, rfl, rfl, rfl, rfl, rfl, rfl, rfl, rfl, rfl, rfl, rfl, rfl, trivial⟩ ?_
                      refine WO_end ?_
                      refine WK_seq ?_
                      refine WK_cond (b := decide (s_10 < ((v_6).length : Int))) rfl (fun hb70 => ?_) (fun hb70 => ?_)
                      · have hm64 := ifT hb70 hm64
                        refine WK_skip ?_
                        refine WK_seq ?_
                        refine WK_block ?_
                        refine WK_seq ?_
                        refine WK_region ?_
                        refine WO_pure tbok 2 [(0, .slice a_p0 p0.length c_p0), (1, .int .i64 p1), (2, .int .i64 p2), (3, .slice a_p3 p3.length c_p3), (4, .int .i64 p4), (10, .int .i64 0), (17, .int .i64 s_3), (18, .slice a42 ((v_6).length) c43), (19, .int .i64 s_7), (20, .int .i64 v_8), (21, .int .i64 s_10), (61, .slice a_p3 p3.length c_p3), (62, .int .i64 (p3.length : Int)), (63, .int .i64 s_3), (68, .slice a42 ((v_6).length) c43), (69, .int .i64 ((v_6).length : Int)), (70, .int .i64 s_7), (88, .int .i64 ((v_6).length : Int)), (89, .int .i64 s_10)] rfl ⟨rfl, rfl, rfl, rfl, rfl, rfl, rfl, rfl, rfl, rfl, rfl, rfl, rfl, rfl, rfl, rfl, rfl, rfl, rfl, trivial⟩ ?_
                        refine WO_end ?_
                        refine WK_seq ?_
                        obtain ⟨s_11, hx71, hm64⟩ := bind_some hm64
                        refine WK_meet [(0, .slice a_p0 p0.length c_p0), (1, .int .i64 p1), (2, .int .i64 p2), (3, .slice a_p3 p3.length c_p3), (4, .int .i64 p4), (10, .int .i64 0), (17, .int .i64 s_3), (18, .slice a42 ((v_6).length) c43), (19, .int .i64 s_7), (20, .int .i64 v_8), (61, .slice a_p3 p3.length c_p3), (62, .int .i64 (p3.length : Int)), (63, .int .i64 s_3), (68, .slice a42 ((v_6).length) c43), (69, .int .i64 ((v_6).length : Int)), (70, .int .i64 s_7), (88, .int .i64 ((v_6).length : Int)), (89, .int .i64 s_10), (120, .bool s_11)] (St w0 m m []) ?_ (fun hk72 => ?_)
                        · refine WK_cond (b := s_11) rfl (fun hb73 => ?_) (fun hb73 => ?_)
                          · have hm64 := ifT hb73 hm64
                            refine WK_seq ?_
                            refine WK_region ?_
                            refine WO_pure tbok 1 [(0, .slice a_p0 p0.length c_p0), (1, .int .i64 p1), (2, .int .i64 p2), (3, .slice a_p3 p3.length c_p3), (4, .int .i64 p4), (10, .int .i64 12), (17, .int .i64 s_3), (18, .slice a42 ((v_6).length) c43), (19, .int .i64 s_7), (20, .int .i64 v_8), (61, .slice a_p3 p3.length c_p3), (62, .int .i64 (p3.length : Int)), (63, .int .i64 s_3), (68, .slice a42 ((v_6).length) c43), (69, .int .i64 ((v_6).length : Int)), (70, .int .i64 s_7), (88, .int .i64 ((v_6).length : Int)), (89, .int .i64 s_10)] rfl ⟨rfl, rfl, rfl, rfl, rfl, rfl, rfl, rfl, rfl, rfl, rfl, rfl, rfl, rfl, rfl, rfl, rfl, rfl, trivial⟩ ?_
                            refine WO_end ?_
                            cases hm64
                            have hq := hd68 _ rfl
                            subst hq
                            have hm49 : some _ = some _ := hm49
                            cases hm49
                            have hq := hd53 _ rfl
                            subst hq
                            have hm25 : some _ = some _ := hm25
                            cases hm25
                            have hq := hd29 _ rfl
                            subst hq
                            have hm : some _ = some _ := hm
                            cases hm
                            exact WK_ret (ret_out (L := []) (RLc_tmp rfl RLc_nil) (List.nil_sublist _) rfl)
                          · have hm64 := ifF hb73 hm64
                            refine WK_skip ?_
                            refine WK_blk ?_
                            refine WK_region ?_
                            refine WO_pure tbok 2 [(0, .slice a_p0 p0.length c_p0), (1, .int .i64 p1), (2, .int .i64 p2), (3, .slice a_p3 p3.length c_p3), (4, .int .i64 p4), (10, .int .i64 0), (17, .int .i64 s_3), (18, .slice a42 ((v_6).length) c43), (19, .int .i64 s_7), (20, .int .i64 v_8), (61, .slice a_p3 p3.length c_p3), (62, .int .i64 (p3.length : Int)), (63, .int .i64 s_3), (68, .slice a42 ((v_6).length) c43), (69, .int .i64 ((v_6).length : Int)), (70, .int .i64 s_7), (88, .int .i64 ((v_6).length : Int)), (89, .int .i64 (w64 (s_10 + 1)))] rfl ⟨rfl, rfl, rfl, rfl, rfl, rfl, rfl, rfl, rfl, rfl, rfl, rfl, rfl, rfl, rfl, rfl, rfl, rfl, trivial⟩ ?_
                            refine WO_end ?_
                            cases hm64
                            refine WK.sub ?_ (WK.cls (fun _ h => h) (hn67 _ () rfl trivial))
                            exact ⟨rfl, rfl, rfl, rfl, rfl, rfl, rfl, rfl, rfl, rfl, rfl, rfl, rfl, rfl, rfl, rfl, rfl, rfl, trivial⟩
                        · refine WK_draw 29 [0, 1, 2, 3, 4, 5, 6, 7, 8, 9, 10, 11, 12, 13, 14, 15, 16, 17, 18, 19, 20, 21, 22, 23, 24, 25, 26, 27, 28] follows_ok (by kernel_rfl) St_closed ?_
                          refine WO_pure tbok 3 [(0, .slice a_p0 p0.length c_p0), (1, .int .i64 p1), (2, .int .i64 p2), (3, .slice a_p3 p3.length c_p3), (4, .int .i64 p4), (10, .int .i64 0), (17, .int .i64 s_3), (18, .slice a42 ((v_6).length) c43), (19, .int .i64 s_7), (20, .int .i64 v_8), (21, .int .i64 s_10), (61, .slice a_p3 p3.length c_p3), (62, .int .i64 (p3.length : Int)), (63, .int .i64 s_3), (68, .slice a42 ((v_6).length) c43), (69, .int .i64 ((v_6).length : Int)), (70, .int .i64 s_7), (88, .int .i64 ((v_6).length : Int)), (89, .int .i64 s_10), (94, .bool (decide (0 < s_3)))] rfl ⟨rfl, rfl, rfl, rfl, rfl, rfl, rfl, rfl, rfl, rfl, rfl, rfl, rfl, rfl, rfl, rfl, rfl, rfl, rfl, rfl, trivial⟩ ?_
                          refine WO_split (d := 94) (b := decide (0 < s_3)) rfl (fun hb74 => ?_) (fun hb74 => ?_)
                          · have hx71 := ifT hb74 hx71
                            refine WO_pure tbok 3 [(0, .slice a_p0 p0.length c_p0), (1, .int .i64 p1), (2, .int .i64 p2), (3, .slice a_p3 p3.length c_p3), (4, .int .i64 p4), (10, .int .i64 0), (17, .int .i64 s_3), (18, .slice a42 ((v_6).length) c43), (19, .int .i64 s_7), (20, .int .i64 v_8), (21, .int .i64 s_10), (61, .slice a_p3 p3.length c_p3), (62, .int .i64 (p3.length : Int)), (63, .int .i64 s_3), (68, .slice a42 ((v_6).length) c43), (69, .int .i64 ((v_6).length : Int)), (70, .int .i64 s_7), (88, .int .i64 ((v_6).length : Int)), (89, .int .i64 s_10), (94, .bool true), (95, .int .i64 v_8), (96, .slice a_p0 p0.length c_p0), (97, .int .i64 s_3)] rfl ⟨rfl, rfl, rfl, rfl, rfl, rfl, rfl, rfl, rfl, rfl, rfl, rfl, rfl, rfl, rfl, rfl, rfl, rfl, rfl, rfl, rfl, rfl, rfl, trivial⟩ ?_
                            obtain ⟨v_12, hy75, hx71⟩ := bind_some hx71
                            obtain ⟨hc76, hy75⟩ := ix_some hy75
                            refine WO_index tbok rfl rfl rfl rfl rfl rfl rfl rfl (SlR.addr h_p0) hc76 ?_
                            refine WO_loadR tbok rfl rfl rfl rfl (fun _ h => St.sat h) h_p0 hy75 rfl rfl (fun a77 c78 h79 => ?_)
                            refine WO_pure tbok 1 [(0, .slice a_p0 p0.length c_p0), (1, .int .i64 p1), (2, .int .i64 p2), (3, .slice a_p3 p3.length c_p3), (4, .int .i64 p4), (10, .int .i64 0), (17, .int .i64 s_3), (18, .slice a42 ((v_6).length) c43), (19, .int .i64 s_7), (20, .int .i64 v_8), (21, .int .i64 s_10), (61, .slice a_p3 p3.length c_p3), (62, .int .i64 (p3.length : Int)), (63, .int .i64 s_3), (68, .slice a42 ((v_6).length) c43), (69, .int .i64 ((v_6).length : Int)), (70, .int .i64 s_7), (88, .int .i64 ((v_6).length : Int)), (89, .int .i64 s_10), (94, .bool true), (95, .int .i64 v_8), (99, .slice a77 ((v_12).length) c78), (100, .int .i64 s_7)] rfl ⟨rfl, rfl, rfl, rfl, rfl, rfl, rfl, rfl, rfl, rfl, rfl, rfl, rfl, rfl, rfl, rfl, rfl, rfl, rfl, rfl, rfl, rfl, rfl, trivial⟩ ?_
                            obtain ⟨v_13, hy81, hx71⟩ := bind_some hx71
                            obtain ⟨hc82, hy81⟩ := ix_some hy81
                            refine WO_index tbok rfl rfl rfl rfl rfl rfl rfl rfl (SlR.addr h79) hc82 ?_
                            refine WO_loadE tbok rfl rfl rfl rfl (fun _ h => St.sat h) h79 hy81 rfl ?_
                            refine WO_pure tbok 3 [(0, .slice a_p0 p0.length c_p0), (1, .int .i64 p1), (2, .int .i64 p2), (3, .slice a_p3 p3.length c_p3), (4, .int .i64 p4), (10, .int .i64 0), (17, .int .i64 s_3), (18, .slice a42 ((v_6).length) c43), (19, .int .i64 s_7), (20, .int .i64 v_8), (21, .int .i64 s_10), (61, .slice a_p3 p3.length c_p3), (62, .int .i64 (p3.length : Int)), (63, .int .i64 s_3), (68, .slice a42 ((v_6).length) c43), (69, .int .i64 ((v_6).length : Int)), (70, .int .i64 s_7), (88, .int .i64 ((v_6).length : Int)), (89, .int .i64 s_10), (94, .bool true), (95, .int .i64 v_8), (102, .int .i64 v_13), (103, .slice a_p3 p3.length c_p3), (105, .int .i64 (w64 (s_3 - 1)))] rfl ⟨rfl, rfl, rfl, rfl, rfl, rfl, rfl, rfl, rfl, rfl, rfl, rfl, rfl, rfl, rfl, rfl, rfl, rfl, rfl, rfl, rfl, rfl, rfl, rfl, trivial⟩ ?_
                            obtain ⟨v_14, hy83, hx71⟩ := bind_some hx71
                            obtain ⟨hc84, hy83⟩ := ix_some hy83
                            refine WO_index tbok rfl rfl rfl rfl rfl rfl rfl rfl (SlR.addr h_p3) hc84 ?_
                            refine WO_loadR tbok rfl rfl rfl rfl (fun _ h => St.sat h) h_p3 hy83 rfl rfl (fun a85 c86 h87 => ?_)
                            refine WO_pure tbok 1 [(0, .slice a_p0 p0.length c_p0), (1, .int .i64 p1), (2, .int .i64 p2), (3, .slice a_p3 p3.length c_p3), (4, .int .i64 p4), (10, .int .i64 0), (17, .int .i64 s_3), (18, .slice a42 ((v_6).length) c43), (19, .int .i64 s_7), (20, .int .i64 v_8), (21, .int .i64 s_10), (61, .slice a_p3 p3.length c_p3), (62, .int .i64 (p3.length : Int)), (63, .int .i64 s_3), (68, .slice a42 ((v_6).length) c43), (69, .int .i64 ((v_6).length : Int)), (70, .int .i64 s_7), (88, .int .i64 ((v_6).length : Int)), (89, .int .i64 s_10), (94, .bool true), (95, .int .i64 v_8), (102, .int .i64 v_13), (107, .slice a85 ((v_14).length) c86), (108, .int .i64 s_10)] rfl ⟨rfl, rfl, rfl, rfl, rfl, rfl, rfl, rfl, rfl, rfl, rfl, rfl, rfl, rfl, rfl, rfl, rfl, rfl, rfl, rfl, rfl, rfl, rfl, rfl, trivial⟩ ?_
                            obtain ⟨v_15, hy89, hx71⟩ := bind_some hx71
                            obtain ⟨hc90, hy89⟩ := ix_some hy89
                            refine WO_index tbok rfl rfl rfl rfl rfl rfl rfl rfl (SlR.addr h87) hc90 ?_
                            refine WO_loadE tbok rfl rfl rfl rfl (fun _ h => St.sat h) h87 hy89 rfl ?_
                            refine WO_pure tbok 6 [(0, .slice a_p0 p0.length c_p0), (1, .int .i64 p1), (2, .int .i64 p2), (3, .slice a_p3 p3.length c_p3), (4, .int .i64 p4), (10, .int .i64 0), (17, .int .i64 s_3), (18, .slice a42 ((v_6).length) c43), (19, .int .i64 s_7), (20, .int .i64 v_8), (61, .slice a_p3 p3.length c_p3), (62, .int .i64 (p3.length : Int)), (63, .int .i64 s_3), (68, .slice a42 ((v_6).length) c43), (69, .int .i64 ((v_6).length : Int)), (70, .int .i64 s_7), (88, .int .i64 ((v_6).length : Int)), (89, .int .i64 s_10), (94, .bool true), (95, .int .i64 v_8), (111, .int .i64 (w64 (v_13 + v_15))), (114, .int .i64 (w64 (s_7 - s_10))), (115, .int .i64 p1), (116, .int .i64 p2)] rfl ⟨rfl, rfl, rfl, rfl, rfl, rfl, rfl, rfl, rfl, rfl, rfl, rfl, rfl, rfl, rfl, rfl, rfl, rfl, rfl, rfl, rfl, rfl, rfl, rfl, trivial⟩ ?_
                            obtain ⟨y_16, hc91, hx71⟩ := bind_some hx71
                            refine WO_call0 (.int .i64 y_16) rfl rfl St_closed rfl rfl rfl rfl St_closed ⟨39, #[], #[], rfl, callable_39, fun w hw => ⟨_, hw.sat, fiduciallaw45_jump_walk hc91⟩⟩ ?_
                            refine WO_pure tbok 3 [(0, .slice a_p0 p0.length c_p0), (1, .int .i64 p1), (2, .int .i64 p2), (3, .slice a_p3 p3.length c_p3), (4, .int .i64 p4), (10, .int .i64 0), (17, .int .i64 s_3), (18, .slice a42 ((v_6).length) c43), (19, .int .i64 s_7), (20, .int .i64 v_8), (61, .slice a_p3 p3.length c_p3), (62, .int .i64 (p3.length : Int)), (63, .int .i64 s_3), (68, .slice a42 ((v_6).length) c43), (69, .int .i64 ((v_6).length : Int)), (70, .int .i64 s_7), (88, .int .i64 ((v_6).length : Int)), (89, .int .i64 s_10), (120, .bool (decide ((w64 ((w64 (v_13 + v_15)) + y_16)) < v_8)))] rfl ⟨rfl, rfl, rfl, rfl, rfl, rfl, rfl, rfl, rfl, rfl, rfl, rfl, rfl, rfl, rfl, rfl, rfl, rfl, rfl, trivial⟩ ?_
                            refine WO_tail ?_
                            refine WO_end ?_
                            cases hx71
                            refine WK.sub ?_ (WK.cls (fun _ h => h) hk72)
                            exact ⟨rfl, rfl, rfl, rfl, rfl, rfl, rfl, rfl, rfl, rfl, rfl, rfl, rfl, rfl, rfl, rfl, rfl, rfl, rfl, trivial⟩
                          · have hx71 := ifF hb74 hx71
                            refine WO_pure tbok 22 [(0, .slice a_p0 p0.length c_p0), (1, .int .i64 p1), (2, .int .i64 p2), (3, .slice a_p3 p3.length c_p3), (4, .int .i64 p4), (10, .int .i64 0), (17, .int .i64 s_3), (18, .slice a42 ((v_6).length) c43), (19, .int .i64 s_7), (20, .int .i64 v_8), (61, .slice a_p3 p3.length c_p3), (62, .int .i64 (p3.length : Int)), (63, .int .i64 s_3), (68, .slice a42 ((v_6).length) c43), (69, .int .i64 ((v_6).length : Int)), (70, .int .i64 s_7), (88, .int .i64 ((v_6).length : Int)), (89, .int .i64 s_10), (94, .bool false)] rfl ⟨rfl, rfl, rfl, rfl, rfl, rfl, rfl, rfl, rfl, rfl, rfl, rfl, rfl, rfl, rfl, rfl, rfl, rfl, rfl, trivial⟩ ?_
                            refine WO_skip rfl rfl ?_
                            refine WO_pure tbok 3 [(0, .slice a_p0 p0.length c_p0), (1, .int .i64 p1), (2, .int .i64 p2), (3, .slice a_p3 p3.length c_p3), (4, .int .i64 p4), (10, .int .i64 0), (17, .int .i64 s_3), (18, .slice a42 ((v_6).length) c43), (19, .int .i64 s_7), (20, .int .i64 v_8), (61, .slice a_p3 p3.length c_p3), (62, .int .i64 (p3.length : Int)), (63, .int .i64 s_3), (68, .slice a42 ((v_6).length) c43), (69, .int .i64 ((v_6).length : Int)), (70, .int .i64 s_7), (88, .int .i64 ((v_6).length : Int)), (89, .int .i64 s_10), (120, .bool false)] rfl ⟨rfl, rfl, rfl, rfl, rfl, rfl, rfl, rfl, rfl, rfl, rfl, rfl, rfl, rfl, rfl, rfl, rfl, rfl, rfl, trivial⟩ ?_
                            refine WO_tail ?_
                            refine WO_end ?_
                            cases hx71
                            refine WK.sub ?_ (WK.cls (fun _ h => h) hk72)
                            exact ⟨rfl, rfl, rfl, rfl, rfl, rfl, rfl, rfl, rfl, rfl, rfl, rfl, rfl, rfl, rfl, rfl, rfl, rfl, rfl, trivial⟩
                      · have hm64 := ifF hb70 hm64
                        refine WK_exit rfl ?_
                        cases hm64
                        refine WK.sub ?_ (WK.cls (fun _ h => h) (hk63 ((), ()) (hd68 _ rfl)))
                        exact ⟨rfl, rfl, rfl, rfl, rfl, rfl, rfl, rfl, rfl, rfl, rfl, rfl, rfl, rfl, trivial⟩
                · refine WK_region ?_
                  refine WO_pure tbok 3 [(0, .slice a_p0 p0.length c_p0), (1, .int .i64 p1), (2, .int .i64 p2), (3, .slice a_p3 p3.length c_p3), (4, .int .i64 p4), (10, .int .i64 0), (17, .int .i64 s_3), (18, .slice a42 ((v_6).length) c43), (19, .int .i64 s_7), (20, .int .i64 v_8), (61, .slice a_p3 p3.length c_p3), (62, .int .i64 (p3.length : Int)), (63, .int .i64 s_3), (68, .slice a42 ((v_6).length) c43), (69, .int .i64 ((v_6).length : Int)), (70, .int .i64 s_7), (77, .bool (s_3 == 0))] rfl ⟨rfl, rfl, rfl, rfl, rfl, rfl, rfl, rfl, rfl, rfl, rfl, rfl, rfl, rfl, rfl, rfl, rfl, trivial⟩ ?_
                  refine WO_split (d := 77) (b := s_3 == 0) rfl (fun hb92 => ?_) (fun hb92 => ?_)
                  · have hx58 := ifT hb92 hx58
                    refine WO_pure tbok 2 [(0, .slice a_p0 p0.length c_p0), (1, .int .i64 p1), (2, .int .i64 p2), (3, .slice a_p3 p3.length c_p3), (4, .int .i64 p4), (10, .int .i64 0), (17, .int .i64 s_3), (18, .slice a42 ((v_6).length) c43), (19, .int .i64 s_7), (20, .int .i64 v_8), (61, .slice a_p3 p3.length c_p3), (62, .int .i64 (p3.length : Int)), (63, .int .i64 s_3), (68, .slice a42 ((v_6).length) c43), (69, .int .i64 ((v_6).length : Int)), (70, .int .i64 s_7), (77, .bool true), (78, .int .i64 v_8), (79, .slice a_p0 p0.length c_p0)] rfl ⟨rfl, rfl, rfl, rfl, rfl, rfl, rfl, rfl, rfl, rfl, rfl, rfl, rfl, rfl, rfl, rfl, rfl, rfl, rfl, trivial⟩ ?_
                    obtain ⟨v_17, hy93, hx58⟩ := bind_some hx58
                    obtain ⟨hc94, hy93⟩ := ix_some hy93
                    refine WO_index tbok rfl rfl rfl rfl rfl rfl rfl rfl (SlR.addr h_p0) hc94 ?_
                    refine WO_loadR tbok rfl rfl rfl rfl (fun _ h => St.sat h) h_p0 hy93 rfl rfl (fun a95 c96 h97 => ?_)
                    refine WO_pure tbok 1 [(0, .slice a_p0 p0.length c_p0), (1, .int .i64 p1), (2, .int .i64 p2), (3, .slice a_p3 p3.length c_p3), (4, .int .i64 p4), (10, .int .i64 0), (17, .int .i64 s_3), (18, .slice a42 ((v_6).length) c43), (19, .int .i64 s_7), (20, .int .i64 v_8), (61, .slice a_p3 p3.length c_p3), (62, .int .i64 (p3.length : Int)), (63, .int .i64 s_3), (68, .slice a42 ((v_6).length) c43), (69, .int .i64 ((v_6).length : Int)), (70, .int .i64 s_7), (77, .bool true), (78, .int .i64 v_8), (81, .slice a95 ((v_17).length) c96), (82, .int .i64 s_7)] rfl ⟨rfl, rfl, rfl, rfl, rfl, rfl, rfl, rfl, rfl, rfl, rfl, rfl, rfl, rfl, rfl, rfl, rfl, rfl, rfl, rfl, trivial⟩ ?_
                    obtain ⟨v_18, hy99, hx58⟩ := bind_some hx58
                    obtain ⟨hc100, hy99⟩ := ix_some hy99
                    refine WO_index tbok rfl rfl rfl rfl rfl rfl rfl rfl (SlR.addr h97) hc100 ?_
                    refine WO_loadE tbok rfl rfl rfl rfl (fun _ h => St.sat h) h97 hy99 rfl ?_
                    refine WO_pure tbok 2 [(0, .slice a_p0 p0.length c_p0), (1, .int .i64 p1), (2, .int .i64 p2), (3, .slice a_p3 p3.length c_p3), (4, .int .i64 p4), (10, .int .i64 0), (17, .int .i64 s_3), (18, .slice a42 ((v_6).length) c43), (19, .int .i64 s_7), (20, .int .i64 v_8), (61, .slice a_p3 p3.length c_p3), (62, .int .i64 (p3.length : Int)), (63, .int .i64 s_3), (68, .slice a42 ((v_6).length) c43), (69, .int .i64 ((v_6).length : Int)), (70, .int .i64 s_7), (86, .bool (decide (v_18 < v_8)))] rfl ⟨rfl, rfl, rfl, rfl, rfl, rfl, rfl, rfl, rfl, rfl, rfl, rfl, rfl, rfl, rfl, rfl, rfl, trivial⟩ ?_
                    refine WO_end ?_
                    cases hx58
                    refine WK.sub ?_ (WK.cls (fun _ h => h) hk59)
                    exact ⟨rfl, rfl, rfl, rfl, rfl, rfl, rfl, rfl, rfl, rfl, rfl, rfl, rfl, rfl, rfl, rfl, rfl, trivial⟩
                  · have hx58 := ifF hb92 hx58
                    refine WO_pure tbok 9 [(0, .slice a_p0 p0.length c_p0), (1, .int .i64 p1), (2, .int .i64 p2), (3, .slice a_p3 p3.length c_p3), (4, .int .i64 p4), (10, .int .i64 0), (17, .int .i64 s_3), (18, .slice a42 ((v_6).length) c43), (19, .int .i64 s_7), (20, .int .i64 v_8), (61, .slice a_p3 p3.length c_p3), (62, .int .i64 (p3.length : Int)), (63, .int .i64 s_3), (68, .slice a42 ((v_6).length) c43), (69, .int .i64 ((v_6).length : Int)), (70, .int .i64 s_7), (86, .bool false)] rfl ⟨rfl, rfl, rfl, rfl, rfl, rfl, rfl, rfl, rfl, rfl, rfl, rfl, rfl, rfl, rfl, rfl, rfl, trivial⟩ ?_
                    refine WO_end ?_
                    cases hx58
                    refine WK.sub ?_ (WK.cls (fun _ h => h) hk59)
                    exact ⟨rfl, rfl, rfl, rfl, rfl, rfl, rfl, rfl, rfl, rfl, rfl, rfl, rfl, rfl, rfl, rfl, rfl, trivial⟩
              · have hm49 := ifF hb55 hm49
                refine WK_exit rfl ?_
                cases hm49
                refine WK.sub ?_ (WK.cls (fun _ h => h) (hk48 ((), ()) (hd53 _ rfl)))
                exact ⟨rfl, rfl, rfl, rfl, rfl, rfl, rfl, rfl, rfl, trivial⟩
          · have hm25 := ifF hb39 hm25
            refine WK_exit rfl ?_
            cases hm25
            refine WK.sub ?_ (WK.cls (fun _ h => h) (hk24 ((), ()) (hd29 _ rfl)))
            exact ⟨rfl, rfl, rfl, trivial⟩
      · refine WK_block ?_
        refine WK_loop (S := Int) (G := Unit) (fun s => fiduciallaw45_proves_s2 p3 s) (fun s g => [(0, .slice a_p0 p0.length c_p0), (1, .int .i64 p1), (2, .int .i64 p2), (3, .slice a_p3 p3.length c_p3), (4, .int .i64 p4), (10, .int .i64 0), (41, .slice a_p3 p3.length c_p3), (42, .int .i64 (p3.length : Int)), (43, .int .i64 s)]) (fun s g => St w0 m m []) (fun s g => True) FUEL 0 () x13 hx14 trivial ⟨rfl, rfl, rfl, rfl, rfl, rfl, rfl, rfl, rfl, trivial⟩ (fun _ h => h) ?_
        rintro s_2 ⟨⟩ o17 fl18 hm16 - hn19 hd20
        have hm16 : fiduciallaw45_proves_s2 p3 s_2 = some o17 := hm16
        unfold fiduciallaw45_proves_s2 at hm16
        refine WK.sub (e' := [(0, .slice a_p0 p0.length c_p0), (1, .int .i64 p1), (2, .int .i64 p2), (3, .slice a_p3 p3.length c_p3), (4, .int .i64 p4), (10, .int .i64 0), (41, .slice a_p3 p3.length c_p3), (42, .int .i64 (p3.length : Int)), (43, .int .i64 s_2)]) ⟨rfl, rfl, rfl, rfl, rfl, rfl, rfl, rfl, rfl, trivial⟩ (WK.cls (C' := St w0 m m []) (fun _ h => h) ?_)
        refine WK_seq ?_
        refine WK_region ?_
        refine WO_pure tbok 1 [(0, .slice a_p0 p0.length c_p0), (1, .int .i64 p1), (2, .int .i64 p2), (3, .slice a_p3 p3.length c_p3), (4, .int .i64 p4), (10, .int .i64 0), (41, .slice a_p3 p3.length c_p3), (42, .int .i64 (p3.length : Int)), (43, .int .i64 s_2), (44, .bool (decide (s_2 < (p3.length : Int))))] rfl ⟨rfl, rfl, rfl, rfl, rfl, rfl, rfl, rfl, rfl, rfl, trivial⟩ ?_
        refine WO_end ?_
        refine WK_seq ?_
        refine WK_cond (b := decide (s_2 < (p3.length : Int))) rfl (fun hb101 => ?_) (fun hb101 => ?_)
        · have hm16 := ifT hb101 hm16
          refine WK_skip ?_
          refine WK_seq ?_
          refine WK_block ?_
          refine WK_seq ?_
          refine WK_region ?_
          obtain ⟨v_19, hy102, hm16⟩ := bind_some hm16
          obtain ⟨hc103, hy102⟩ := ix_some hy102
          refine WO_index tbok rfl rfl rfl rfl rfl rfl rfl rfl (SlR.addr h_p3) hc103 ?_
          refine WO_loadR tbok rfl rfl rfl rfl (fun _ h => St.sat h) h_p3 hy102 rfl rfl (fun a104 c105 h106 => ?_)
          refine WO_pure tbok 1 [(0, .slice a_p0 p0.length c_p0), (1, .int .i64 p1), (2, .int .i64 p2), (3, .slice a_p3 p3.length c_p3), (4, .int .i64 p4), (10, .int .i64 0), (14, .slice a104 ((v_19).length) c105), (41, .slice a_p3 p3.length c_p3), (42, .int .i64 (p3.length : Int)), (43, .int .i64 s_2)] rfl ⟨rfl, rfl, rfl, rfl, rfl, rfl, rfl, rfl, rfl, rfl, trivial⟩ ?_
          refine WO_end ?_
          refine WK_seq ?_
          refine WK_region ?_
          refine WO_pure tbok 3 [(0, .slice a_p0 p0.length c_p0), (1, .int .i64 p1), (2, .int .i64 p2), (3, .slice a_p3 p3.length c_p3), (4, .int .i64 p4), (10, .int .i64 0), (41, .slice a_p3 p3.length c_p3), (42, .int .i64 (p3.length : Int)), (43, .int .i64 s_2), (47, .slice a104 ((v_19).length) c105), (48, .int .i64 ((v_19).length : Int)), (49, .int .i64 0)] rfl ⟨rfl, rfl, rfl, rfl, rfl, rfl, rfl, rfl, rfl, rfl, rfl, rfl, trivial⟩ ?_
          refine WO_end ?_
          obtain ⟨x108, hx109, hm16⟩ := bind_some hm16
          refine WK_join (β := Unit × Unit) (fun p => Sum.inr p.1 = x108) (fun p => [(0, .slice a_p0 p0.length c_p0), (1, .int .i64 p1), (2, .int .i64 p2), (3, .slice a_p3 p3.length c_p3), (4, .int .i64 p4), (10, .int .i64 0), (41, .slice a_p3 p3.length c_p3), (42, .int .i64 (p3.length : Int)), (43, .int .i64 s_2)]) (fun p => St w0 m m []) ?_ (fun hk110 => ?_)
          · rintro ⟨⟨⟩, ⟨⟩⟩ hq116
            subst hq116
            refine WK.sub (e' := [(0, .slice a_p0 p0.length c_p0), (1, .int .i64 p1), (2, .int .i64 p2), (3, .slice a_p3 p3.length c_p3), (4, .int .i64 p4), (10, .int .i64 0), (41, .slice a_p3 p3.length c_p3), (42, .int .i64 (p3.length : Int)), (43, .int .i64 s_2)]) ⟨rfl, rfl, rfl, rfl, rfl, rfl, rfl, rfl, rfl, trivial⟩ (WK.cls (C' := St w0 m m []) (fun _ h => h) ?_)
            refine WK_blk ?_
            refine WK_region ?_
            refine WO_pure tbok 2 [(0, .slice a_p0 p0.length c_p0), (1, .int .i64 p1), (2, .int .i64 p2), (3, .slice a_p3 p3.length c_p3), (4, .int .i64 p4), (10, .int .i64 0), (41, .slice a_p3 p3.length c_p3), (42, .int .i64 (p3.length : Int)), (43, .int .i64 (w64 (s_2 + 1)))] rfl ⟨rfl, rfl, rfl, rfl, rfl, rfl, rfl, rfl, rfl, trivial⟩ ?_
            refine WO_end ?_
            cases hm16
            refine WK.sub ?_ (WK.cls (fun _ h => h) (hn19 _ () rfl trivial))
            exact ⟨rfl, rfl, rfl, rfl, rfl, rfl, rfl, rfl, rfl, trivial⟩
          · refine WK_block ?_
            refine WK_loop (S := Int) (G := Unit) (fun s => fiduciallaw45_proves_s6 v_19 s) (fun s g => [(0, .slice a_p0 p0.length c_p0), (1, .int .i64 p1), (2, .int .i64 p2), (3, .slice a_p3 p3.length c_p3), (4, .int .i64 p4), (10, .int .i64 0), (41, .slice a_p3 p3.length c_p3), (42, .int .i64 (p3.length : Int)), (43, .int .i64 s_2), (47, .slice a104 ((v_19).length) c105), (48, .int .i64 ((v_19).length : Int)), (49, .int .i64 s)]) (fun s g => St w0 m m []) (fun s g => True) FUEL 0 () x108 hx109 trivial ⟨rfl, rfl, rfl, rfl, rfl, rfl, rfl, rfl, rfl, rfl, rfl, rfl, trivial⟩ (fun _ h => h) ?_
            rintro s_20 ⟨⟩ o112 fl113 hm111 - hn114 hd115
            have hm111 : fiduciallaw45_proves_s6 v_19 s_20 = some o112 := hm111
            unfold fiduciallaw45_proves_s6 at hm111
            refine WK.sub (e' := [(0, .slice a_p0 p0.length c_p0), (1, .int .i64 p1), (2, .int .i64 p2), (3, .slice a_p3 p3.length c_p3), (4, .int .i64 p4), (10, .int .i64 0), (41, .slice a_p3 p3.length c_p3), (42, .int .i64 (p3.length : Int)), (43, .int .i64 s_2), (47, .slice a104 ((v_19).length) c105), (48, .int .i64 ((v_19).length : Int)), (49, .int .i64 s_20)]) ⟨rfl, rfl, rfl, rfl, rfl, rfl, rfl, rfl, rfl, rfl, rfl, rfl, trivial⟩ (WK.cls (C' := St w0 m m []) (fun _ h => h) ?_)
            refine WK_seq ?_
            refine WK_region ?_
            refine WO_pure tbok 1 [(0, .slice a_p0 p0.length c_p0), (1, .int .i64 p1), (2, .int .i64 p2), (3, .slice a_p3 p3.length c_p3), (4, .int .i64 p4), (10, .int .i64 0), (41, .slice a_p3 p3.length c_p3), (42, .int .i64 (p3.length : Int)), (43, .int .i64 s_2), (47, .slice a104 ((v_19).length) c105), (48, .int .i64 ((v_19).length : Int)), (49, .int .i64 s_20), (50, .bool (decide (s_20 < ((v_19).length : Int))))] rfl ⟨rfl, rfl, rfl, rfl, rfl, rfl, rfl, rfl, rfl, rfl, rfl, rfl, rfl, trivial⟩ ?_
            refine WO_end ?_
            refine WK_seq ?_
            refine WK_cond (b := decide (s_20 < ((v_19).length : Int))) rfl (fun hb117 => ?_) (fun hb117 => ?_)
            · have hm111 := ifT hb117 hm111
              refine WK_skip ?_
              refine WK_seq ?_
              refine WK_block ?_
              refine WK_seq ?_
              refine WK_region ?_
              obtain ⟨v_21, hy118, hm111⟩ := bind_some hm111
              obtain ⟨hc119, hy118⟩ := ix_some hy118
              refine WO_index tbok rfl rfl rfl rfl rfl rfl rfl rfl (SlR.addr h106) hc119 ?_
              refine WO_loadE tbok rfl rfl rfl rfl (fun _ h => St.sat h) h106 hy118 rfl ?_
              refine WO_pure tbok 1 [(0, .slice a_p0 p0.length c_p0), (1, .int .i64 p1), (2, .int .i64 p2), (3, .slice a_p3 p3.length c_p3), (4, .int .i64 p4), (10, .int .i64 0), (16, .int .i64 v_21), (41, .slice a_p3 p3.length c_p3), (42, .int .i64 (p3.length : Int)), (43, .int .i64 s_2), (47, .slice a104 ((v_19).length) c105), (48, .int .i64 ((v_19).length : Int)), (49, .int .i64 s_20)] rfl ⟨rfl, rfl, rfl, rfl, rfl, rfl, rfl, rfl, rfl, rfl, rfl, rfl, rfl, trivial⟩ ?_
              refine WO_end ?_
              refine WK_seq ?_
              obtain ⟨s_22, hx120, hm111⟩ := bind_some hm111
              refine WK_meet [(0, .slice a_p0 p0.length c_p0), (1, .int .i64 p1), (2, .int .i64 p2), (3, .slice a_p3 p3.length c_p3), (4, .int .i64 p4), (10, .int .i64 0), (41, .slice a_p3 p3.length c_p3), (42, .int .i64 (p3.length : Int)), (43, .int .i64 s_2), (47, .slice a104 ((v_19).length) c105), (48, .int .i64 ((v_19).length : Int)), (49, .int .i64 s_20), (58, .bool s_22)] (St w0 m m []) ?_ (fun hk121 => ?_)
              · refine WK_cond (b := s_22) rfl (fun hb122 => ?_) (fun hb122 => ?_)
                · have hm111 := ifT hb122 hm111
                  refine WK_seq ?_
                  refine WK_region ?_
                  refine WO_pure tbok 1 [(0, .slice a_p0 p0.length c_p0), (1, .int .i64 p1), (2, .int .i64 p2), (3, .slice a_p3 p3.length c_p3), (4, .int .i64 p4), (10, .int .i64 2), (41, .slice a_p3 p3.length c_p3), (42, .int .i64 (p3.length : Int)), (43, .int .i64 s_2), (47, .slice a104 ((v_19).length) c105), (48, .int .i64 ((v_19).length : Int)), (49, .int .i64 s_20)] rfl ⟨rfl, rfl, rfl, rfl, rfl, rfl, rfl, rfl, rfl, rfl, rfl, rfl, trivial⟩ ?_
                  refine WO_end ?_
                  cases hm111
                  have hq := hd115 _ rfl
                  subst hq
                  have hm16 : some _ = some _ := hm16
                  cases hm16
                  have hq := hd20 _ rfl
                  subst hq
                  have hm : some _ = some _ := hm
                  cases hm
                  exact WK_ret (ret_out (L := []) (RLc_tmp rfl RLc_nil) (List.nil_sublist _) rfl)
                · have hm111 := ifF hb122 hm111
                  refine WK_skip ?_
                  refine WK_blk ?_
                  refine WK_region ?_
                  refine WO_pure tbok 2 [(0, .slice a_p0 p0.length c_p0), (1, .int .i64 p1), (2, .int .i64 p2), (3, .slice a_p3 p3.length c_p3), (4, .int .i64 p4), (10, .int .i64 0), (41, .slice a_p3 p3.length c_p3), (42, .int .i64 (p3.length : Int)), (43, .int .i64 s_2), (47, .slice a104 ((v_19).length) c105), (48, .int .i64 ((v_19).length : Int)), (49, .int .i64 (w64 (s_20 + 1)))] rfl ⟨rfl, rfl, rfl, rfl, rfl, rfl, rfl, rfl, rfl, rfl, rfl, rfl, trivial⟩ ?_
                  refine WO_end ?_
                  cases hm111
                  refine WK.sub ?_ (WK.cls (fun _ h => h) (hn114 _ () rfl trivial))
                  exact ⟨rfl, rfl, rfl, rfl, rfl, rfl, rfl, rfl, rfl, rfl, rfl, rfl, trivial⟩
              · refine WK_region ?_
                refine WO_pure tbok 3 [(0, .slice a_p0 p0.length c_p0), (1, .int .i64 p1), (2, .int .i64 p2), (3, .slice a_p3 p3.length c_p3), (4, .int .i64 p4), (10, .int .i64 0), (16, .int .i64 v_21), (41, .slice a_p3 p3.length c_p3), (42, .int .i64 (p3.length : Int)), (43, .int .i64 s_2), (47, .slice a104 ((v_19).length) c105), (48, .int .i64 ((v_19).length : Int)), (49, .int .i64 s_20), (55, .bool (decide (v_21 < (-1099511627776))))] rfl ⟨rfl, rfl, rfl, rfl, rfl, rfl, rfl, rfl, rfl, rfl, rfl, rfl, rfl, rfl, trivial⟩ ?_
                refine WO_split (d := 55) (b := decide (v_21 < (-1099511627776))) rfl (fun hb123 => ?_) (fun hb123 => ?_)
                · have hx120 := ifT hb123 hx120
                  refine WO_pure tbok 3 [(0, .slice a_p0 p0.length c_p0), (1, .int .i64 p1), (2, .int .i64 p2), (3, .slice a_p3 p3.length c_p3), (4, .int .i64 p4), (10, .int .i64 0), (41, .slice a_p3 p3.length c_p3), (42, .int .i64 (p3.length : Int)), (43, .int .i64 s_2), (47, .slice a104 ((v_19).length) c105), (48, .int .i64 ((v_19).length : Int)), (49, .int .i64 s_20), (58, .bool true)] rfl ⟨rfl, rfl, rfl, rfl, rfl, rfl, rfl, rfl, rfl, rfl, rfl, rfl, rfl, trivial⟩ ?_
                  refine WO_end ?_
                  cases hx120
                  refine WK.sub ?_ (WK.cls (fun _ h => h) hk121)
                  exact ⟨rfl, rfl, rfl, rfl, rfl, rfl, rfl, rfl, rfl, rfl, rfl, rfl, rfl, trivial⟩
                · have hx120 := ifF hb123 hx120
                  refine WO_pure tbok 3 [(0, .slice a_p0 p0.length c_p0), (1, .int .i64 p1), (2, .int .i64 p2), (3, .slice a_p3 p3.length c_p3), (4, .int .i64 p4), (10, .int .i64 0), (41, .slice a_p3 p3.length c_p3), (42, .int .i64 (p3.length : Int)), (43, .int .i64 s_2), (47, .slice a104 ((v_19).length) c105), (48, .int .i64 ((v_19).length : Int)), (49, .int .i64 s_20), (58, .bool (decide (1099511627776 < v_21)))] rfl ⟨rfl, rfl, rfl, rfl, rfl, rfl, rfl, rfl, rfl, rfl, rfl, rfl, rfl, trivial⟩ ?_
                  refine WO_end ?_
                  cases hx120
                  refine WK.sub ?_ (WK.cls (fun _ h => h) hk121)
                  exact ⟨rfl, rfl, rfl, rfl, rfl, rfl, rfl, rfl, rfl, rfl, rfl, rfl, rfl, trivial⟩
            · have hm111 := ifF hb117 hm111
              refine WK_exit rfl ?_
              cases hm111
              refine WK.sub ?_ (WK.cls (fun _ h => h) (hk110 ((), ()) (hd115 _ rfl)))
              exact ⟨rfl, rfl, rfl, rfl, rfl, rfl, rfl, rfl, rfl, trivial⟩
        · have hm16 := ifF hb101 hm16
          refine WK_exit rfl ?_
          cases hm16
          refine WK.sub ?_ (WK.cls (fun _ h => h) (hk15 ((), ()) (hd20 _ rfl)))
          exact ⟨rfl, rfl, rfl, rfl, rfl, rfl, trivial⟩
    · refine WK_block ?_
      refine WK_loop (S := Int) (G := Unit) (fun s => fiduciallaw45_proves_s1 p0 p3 s) (fun s g => [(0, .slice a_p0 p0.length c_p0), (1, .int .i64 p1), (2, .int .i64 p2), (3, .slice a_p3 p3.length c_p3), (4, .int .i64 p4), (10, .int .i64 0), (27, .slice a_p3 p3.length c_p3), (28, .int .i64 (p3.length : Int)), (29, .int .i64 s)]) (fun s g => St w0 m m []) (fun s g => True) FUEL 0 () x4 hx5 trivial ⟨rfl, rfl, rfl, rfl, rfl, rfl, rfl, rfl, rfl, trivial⟩ (fun _ h => h) ?_
      rintro s_1 ⟨⟩ o8 fl9 hm7 - hn10 hd11
      have hm7 : fiduciallaw45_proves_s1 p0 p3 s_1 = some o8 := hm7
      unfold fiduciallaw45_proves_s1 at hm7
      refine WK.sub (e' := [(0, .slice a_p0 p0.length c_p0), (1, .int .i64 p1), (2, .int .i64 p2), (3, .slice a_p3 p3.length c_p3), (4, .int .i64 p4), (10, .int .i64 0), (27, .slice a_p3 p3.length c_p3), (28, .int .i64 (p3.length : Int)), (29, .int .i64 s_1)]) ⟨rfl, rfl, rfl, rfl, rfl, rfl, rfl, rfl, rfl, trivial⟩ (WK.cls (C' := St w0 m m []) (fun _ h => h) ?_)
      refine WK_seq ?_
      refine WK_region ?_
      refine WO_pure tbok 1 [(0, .slice a_p0 p0.length c_p0), (1, .int .i64 p1), (2, .int .i64 p2), (3, .slice a_p3 p3.length c_p3), (4, .int .i64 p4), (10, .int .i64 0), (27, .slice a_p3 p3.length c_p3), (28, .int .i64 (p3.length : Int)), (29, .int .i64 s_1), (30, .bool (decide (s_1 < (p3.length : Int))))] rfl ⟨rfl, rfl, rfl, rfl, rfl, rfl, rfl, rfl, rfl, rfl, trivial⟩ ?_
      refine WO_end ?_
      refine WK_seq ?_
      refine WK_cond (b := decide (s_1 < (p3.length : Int))) rfl (fun hb124 => ?_) (fun hb124 => ?_)
      · have hm7 := ifT hb124 hm7
        refine WK_skip ?_
        refine WK_seq ?_
        refine WK_block ?_
        refine WK_seq ?_
        refine WK_region ?_
        obtain ⟨v_23, hy125, hm7⟩ := bind_some hm7
        obtain ⟨hc126, hy125⟩ := ix_some hy125
        refine WO_index tbok rfl rfl rfl rfl rfl rfl rfl rfl (SlR.addr h_p3) hc126 ?_
        refine WO_loadR tbok rfl rfl rfl rfl (fun _ h => St.sat h) h_p3 hy125 rfl rfl (fun a127 c128 h129 => ?_)
        refine WO_pure tbok 1 [(0, .slice a_p0 p0.length c_p0), (1, .int .i64 p1), (2, .int .i64 p2), (3, .slice a_p3 p3.length c_p3), (4, .int .i64 p4), (10, .int .i64 0), (12, .slice a127 ((v_23).length) c128), (27, .slice a_p3 p3.length c_p3), (28, .int .i64 (p3.length : Int)), (29, .int .i64 s_1)] rfl ⟨rfl, rfl, rfl, rfl, rfl, rfl, rfl, rfl, rfl, rfl, trivial⟩ ?_
        refine WO_end ?_
        refine WK_seq ?_
        refine WK_region ?_
        refine WO_pure tbok 3 [(0, .slice a_p0 p0.length c_p0), (1, .int .i64 p1), (2, .int .i64 p2), (3, .slice a_p3 p3.length c_p3), (4, .int .i64 p4), (10, .int .i64 0), (27, .slice a_p3 p3.length c_p3), (28, .int .i64 (p3.length : Int)), (29, .int .i64 s_1), (34, .int .i64 ((v_23).length : Int)), (35, .slice a_p0 p0.length c_p0)] rfl ⟨rfl, rfl, rfl, rfl, rfl, rfl, rfl, rfl, rfl, rfl, rfl, trivial⟩ ?_
        obtain ⟨v_24, hy131, hm7⟩ := bind_some hm7
        obtain ⟨hc132, hy131⟩ := ix_some hy131
        refine WO_index tbok rfl rfl rfl rfl rfl rfl rfl rfl (SlR.addr h_p0) hc132 ?_
        refine WO_loadR tbok rfl rfl rfl rfl (fun _ h => St.sat h) h_p0 hy131 rfl rfl (fun a133 c134 h135 => ?_)
        refine WO_pure tbok 2 [(0, .slice a_p0 p0.length c_p0), (1, .int .i64 p1), (2, .int .i64 p2), (3, .slice a_p3 p3.length c_p3), (4, .int .i64 p4), (10, .int .i64 0), (27, .slice a_p3 p3.length c_p3), (28, .int .i64 (p3.length : Int)), (29, .int .i64 s_1), (39, .bool (((v_23).length : Int) != ((v_24).length : Int)))] rfl ⟨rfl, rfl, rfl, rfl, rfl, rfl, rfl, rfl, rfl, rfl, trivial⟩ ?_
        refine WO_end ?_
        refine WK_cond (b := ((v_23).length : Int) != ((v_24).length : Int)) rfl (fun hb137 => ?_) (fun hb137 => ?_)
        · have hm7 := ifT hb137 hm7
          refine WK_seq ?_
          refine WK_region ?_
          refine WO_pure tbok 1 [(0, .slice a_p0 p0.length c_p0), (1, .int .i64 p1), (2, .int .i64 p2), (3, .slice a_p3 p3.length c_p3), (4, .int .i64 p4), (10, .int .i64 4), (27, .slice a_p3 p3.length c_p3), (28, .int .i64 (p3.length : Int)), (29, .int .i64 s_1)] rfl ⟨rfl, rfl, rfl, rfl, rfl, rfl, rfl, rfl, rfl, trivial⟩ ?_
          refine WO_end ?_
          cases hm7
          have hq := hd11 _ rfl
          subst hq
          have hm : some _ = some _ := hm
          cases hm
          exact WK_ret (ret_out (L := []) (RLc_tmp rfl RLc_nil) (List.nil_sublist _) rfl)
        · have hm7 := ifF hb137 hm7
          refine WK_skip ?_
          refine WK_blk ?_
          refine WK_region ?_
          refine WO_pure tbok 2 [(0, .slice a_p0 p0.length c_p0), (1, .int .i64 p1), (2, .int .i64 p2), (3, .slice a_p3 p3.length c_p3), (4, .int .i64 p4), (10, .int .i64 0), (27, .slice a_p3 p3.length c_p3), (28, .int .i64 (p3.length : Int)), (29, .int .i64 (w64 (s_1 + 1)))] rfl ⟨rfl, rfl, rfl, rfl, rfl, rfl, rfl, rfl, rfl, trivial⟩ ?_
          refine WO_end ?_
          cases hm7
          refine WK.sub ?_ (WK.cls (fun _ h => h) (hn10 _ () rfl trivial))
          exact ⟨rfl, rfl, rfl, rfl, rfl, rfl, rfl, rfl, rfl, trivial⟩
      · have hm7 := ifF hb124 hm7
        refine WK_exit rfl ?_
        cases hm7
        refine WK.sub ?_ (WK.cls (fun _ h => h) (hk6 ((), ()) (hd11 _ rfl)))
        exact ⟨rfl, rfl, rfl, rfl, rfl, rfl, trivial⟩
theorem fiduciallaw45_labelled_c1_walk {m : Mu} {p0 : Int} {q0_0 : Int} {b_q0 : Nat} (hb_q0 : m b_q0 = some (Ent.obj ⟨b_q0, 3, [.int .i64 q0_0]⟩)) {r : Bool} (hm : fiduciallaw45_labelled_c1 p0 q0_0 = some r) :
    Go.E.Spec Try.prog 44 [.int .i64 p0, .pointer (some ⟨b_q0, 0, none⟩)] m (fun v _ _ => v = .bool r) := by
  refine Spec_enter Try.func44 rfl rfl rfl (fun w0 => ?_)
  refine WK.sub (e' := [(0, .int .i64 p0), (1, .pointer (some ⟨b_q0, 0, none⟩))]) ⟨rfl, rfl, trivial⟩ ?_
  refine WK.sub (e' := [(0, .int .i64 p0), (1, .pointer (some ⟨b_q0, 0, none⟩))]) ⟨rfl, rfl, trivial⟩ ?_
  unfold fiduciallaw45_labelled_c1 at hm
  refine WK_seq ?_
  refine WK_region ?_
  refine WO_pure tbok 1 [(0, .int .i64 p0), (1, .pointer (some ⟨b_q0, 0, none⟩)), (3, .bool false)] rfl ⟨rfl, rfl, rfl, trivial⟩ ?_
  refine WO_end ?_
  refine WK_seq ?_
  refine WK_region ?_
  refine WO_pure tbok 3 [(0, .int .i64 p0), (1, .pointer (some ⟨b_q0, 0, none⟩)), (3, .bool false), (6, .bool (decide (p0 < 0)))] rfl ⟨rfl, rfl, rfl, rfl, trivial⟩ ?_
  refine WO_split (d := 6) (b := decide (p0 < 0)) rfl (fun hb1 => ?_) (fun hb1 => ?_)
  · have hm := ifT hb1 hm
    refine WO_pure tbok 5 [(3, .bool true)] rfl ⟨rfl, trivial⟩ ?_
    refine WO_end ?_
    cases hm
    exact WK_ret (ret_out (L := []) (RLc_tmp rfl RLc_nil) (List.nil_sublist _) rfl)
  · have hm := ifF hb1 hm
    refine WO_pure tbok 1 [(1, .pointer (some ⟨b_q0, 0, none⟩)), (3, .bool false), (6, .bool false), (7, .int .i64 p0)] rfl ⟨rfl, rfl, rfl, rfl, trivial⟩ ?_
    refine WO_loadM tbok rfl rfl rfl rfl (fun _ h => St.sat h) hb_q0 rfl ?_
    refine WO_pure tbok 3 [(3, .bool (decide (q0_0 ≤ p0)))] rfl ⟨rfl, trivial⟩ ?_
    refine WO_end ?_
    cases hm
    exact WK_ret (ret_out (L := []) (RLc_tmp rfl RLc_nil) (List.nil_sublist _) rfl)
theorem fiduciallaw45_labelled_walk {m : Mu} {p0 : List Int} {p1 : Int} {p2 : Int} {a_p0 : Option Addr} {q_p0 c_p0 : Nat} (h_p0 : SlR (FE (I1 .i64)) 1 m (.slice a_p0 q_p0 c_p0) p0) {r : Int} (hm : fiduciallaw45_labelled p0 p1 p2 = some r) :
    Go.E.Spec Try.prog 16 [.slice a_p0 q_p0 c_p0, .int .i64 p1, .int .i64 p2] m (fun v _ _ => v = .int .i64 r) := by
  refine Spec_enter Try.func16 rfl rfl rfl (fun w0 => ?_)
  refine WK.sub (e' := [(0, .slice a_p0 q_p0 c_p0), (1, .int .i64 p1), (2, .int .i64 p2)]) ⟨rfl, rfl, rfl, trivial⟩ ?_
  obtain rfl := SlR.qlen h_p0
  refine WK.sub (e' := [(0, .slice a_p0 p0.length c_p0), (1, .int .i64 p1), (2, .int .i64 p2)]) ⟨rfl, rfl, rfl, trivial⟩ ?_
  unfold fiduciallaw45_labelled at hm
  refine WK_seq ?_
  refine WK_region ?_
  refine WO_box [.int .i64 p2] rfl rfl trivial rfl rfl rfl (fun b2 => ?_)
  refine WO.cls (C' := St w0 m m [[⟨b2, 3, [.int .i64 p2]⟩]]) (fun _ h => h) ?_
  refine WO_pure tbok 1 [(0, .slice a_p0 p0.length c_p0), (1, .int .i64 p1), (5, .pointer (some ⟨b2, 0, none⟩)), (6, .int .i64 0)] rfl ⟨rfl, rfl, rfl, rfl, trivial⟩ ?_
  refine WO_end ?_
  refine WK_seq ?_
  refine WK_seq ?_
  refine WK_region ?_
  refine WO_pure tbok 4 [(0, .slice a_p0 p0.length c_p0), (5, .pointer (some ⟨b2, 0, none⟩)), (6, .int .i64 0), (10, .bool ((p0.length : Int) != p1))] rfl ⟨rfl, rfl, rfl, rfl, trivial⟩ ?_
  refine WO_end ?_
  refine WK_cond (b := (p0.length : Int) != p1) rfl (fun hb3 => ?_) (fun hb3 => ?_)
  · have hm := ifT hb3 hm
    refine WK_seq ?_
    refine WK_region ?_
    refine WO_pure tbok 1 [(0, .slice a_p0 p0.length c_p0), (5, .pointer (some ⟨b2, 0, none⟩)), (6, .int .i64 4)] rfl ⟨rfl, rfl, rfl, trivial⟩ ?_
    refine WO_end ?_
    cases hm
    exact WK_ret (ret_out (L := []) (RLc_tmp rfl RLc_nil) (List.nil_sublist _) rfl)
  · have hm := ifF hb3 hm
    refine WK_skip ?_
    refine WK_seq ?_
    refine WK_seq ?_
    refine WK_region ?_
    refine WO_pure tbok 2 [(6, .int .i64 0), (11, .slice a_p0 p0.length c_p0), (12, .func (.func 44) #[] #[.pointer (some ⟨b2, 0, none⟩)])] rfl ⟨rfl, rfl, rfl, trivial⟩ ?_
    obtain ⟨y_2, hc4, hm⟩ := bind_some hm
    refine WO_call0 (.bool y_2) rfl rfl trivial rfl rfl rfl rfl St_closed ⟨43, #[], #[], rfl, callable_43, fun w hw => ⟨_, hw.satV, slices_ContainsFunc_sint_walk (h_p0.mono (mono_FE _) hw.leV) (fun m1 hm1 z_1 _ h => specV_cap callable_44 (fiduciallaw45_labelled_c1_walk (hm1 _ _ (hw.memV (i := 0) rfl (List.mem_singleton.2 rfl))) h)) hc4⟩⟩ ?_
    refine WO_end ?_
    refine WK_cond (b := y_2) rfl (fun hb5 => ?_) (fun hb5 => ?_)
    · have hm := ifT hb5 hm
      refine WK_seq ?_
      refine WK_region ?_
      refine WO_pure tbok 1 [(6, .int .i64 2)] rfl ⟨rfl, trivial⟩ ?_
      refine WO_end ?_
      cases hm
      exact WK_ret (ret_out (L := []) (RLc_tmp rfl RLc_nil) (List.nil_sublist _) rfl)
    · have hm := ifF hb5 hm
      refine WK_skip ?_
      refine WK_seq ?_
      refine WK_region ?_
      refine WO_pure tbok 1 [(6, .int .i64 0)] rfl ⟨rfl, trivial⟩ ?_
      refine WO_end ?_
      cases hm
      exact WK_ret (ret_out (L := []) (RLc_tmp rfl RLc_nil) (List.nil_sublist _) rfl)
theorem fiduciallaw45_energy_walk {m : Mu} {p0 : List (List Int)} {p1 : Int} {p2 : Int} {p3 : List Int} {a_p0 : Option Addr} {q_p0 c_p0 : Nat} {a_p3 : Option Addr} {q_p3 c_p3 : Nat} (h_p0 : SlR (RowE (FE (I1 .i64)) 1) 1 m (.slice a_p0 q_p0 c_p0) p0) (h_p3 : SlR (FE (I1 .i64)) 1 m (.slice a_p3 q_p3 c_p3) p3) {r : Int} (hm : fiduciallaw45_energy p0 p1 p2 p3 = some r) :
    Go.E.Spec Try.prog 17 [.slice a_p0 q_p0 c_p0, .int .i64 p1, .int .i64 p2, .slice a_p3 q_p3 c_p3] m (fun v _ _ => v = .int .i64 r) := by
  refine Spec_enter Try.func17 rfl rfl rfl (fun w0 => ?_)
  refine WK.sub (e' := [(0, .slice a_p0 q_p0 c_p0), (1, .int .i64 p1), (2, .int .i64 p2), (3, .slice a_p3 q_p3 c_p3)]) ⟨rfl, rfl, rfl, rfl, trivial⟩ ?_
  obtain rfl := SlR.qlen h_p0
  obtain rfl := SlR.qlen h_p3
  refine WK.sub (e' := [(0, .slice a_p0 p0.length c_p0), (1, .int .i64 p1), (2, .int .i64 p2), (3, .slice a_p3 p3.length c_p3)]) ⟨rfl, rfl, rfl, rfl, trivial⟩ ?_
  unfold fiduciallaw45_energy at hm
  refine WK_seq ?_
  refine WK_region ?_
  refine WO_pure tbok 1 [(0, .slice a_p0 p0.length c_p0), (1, .int .i64 p1), (2, .int .i64 p2), (3, .slice a_p3 p3.length c_p3), (8, .int .i64 0)] rfl ⟨rfl, rfl, rfl, rfl, rfl, trivial⟩ ?_
  refine WO_end ?_
  refine WK_seq ?_
  refine WK_region ?_
  refine WO_pure tbok 1 [(0, .slice a_p0 p0.length c_p0), (1, .int .i64 p1), (2, .int .i64 p2), (3, .slice a_p3 p3.length c_p3), (8, .int .i64 0), (9, .int .i64 0)] rfl ⟨rfl, rfl, rfl, rfl, rfl, rfl, trivial⟩ ?_
  refine WO_end ?_
  refine WK_seq ?_
  refine WK_seq ?_
  refine WK_region ?_
  refine WO_pure tbok 3 [(0, .slice a_p0 p0.length c_p0), (1, .int .i64 p1), (2, .int .i64 p2), (3, .slice a_p3 p3.length c_p3), (8, .int .i64 0), (9, .int .i64 0), (12, .slice a_p3 p3.length c_p3), (13, .int .i64 (p3.length : Int)), (14, .int .i64 0)] rfl ⟨rfl, rfl, rfl, rfl, rfl, rfl, rfl, rfl, rfl, trivial⟩ ?_
  refine WO_end ?_
  obtain ⟨x3, hx4, hm⟩ := bind_some hm
  refine WK_join (β := Int × Unit) (fun p => p.1 = x3) (fun p => [(8, .int .i64 0), (9, .int .i64 p.1)]) (fun p => St w0 m m []) ?_ (fun hk5 => ?_)
  · rintro ⟨s_3, ⟨⟩⟩ hq11
    subst hq11
    refine WK.sub (e' := [(8, .int .i64 0), (9, .int .i64 s_3)]) ⟨rfl, rfl, trivial⟩ (WK.cls (C' := St w0 m m []) (fun _ h => h) ?_)
    refine WK_seq ?_
    refine WK_region ?_
    refine WO_pure tbok 2 [(8, .int .i64 s_3)] rfl ⟨rfl, trivial⟩ ?_
    refine WO_end ?_
    cases hm
    exact WK_ret (ret_out (L := []) (RLc_tmp rfl RLc_nil) (List.nil_sublist _) rfl)
  · refine WK_block ?_
    refine WK_loop (S := Int × Int) (G := Unit) (fun s => fiduciallaw45_energy_s1 p0 p1 p2 p3 s.1 s.2) (fun s g => [(0, .slice a_p0 p0.length c_p0), (1, .int .i64 p1), (2, .int .i64 p2), (3, .slice a_p3 p3.length c_p3), (8, .int .i64 0), (9, .int .i64 s.1), (12, .slice a_p3 p3.length c_p3), (13, .int .i64 (p3.length : Int)), (14, .int .i64 s.2)]) (fun s g => St w0 m m []) (fun s g => True) FUEL (0, 0) () x3 hx4 trivial ⟨rfl, rfl, rfl, rfl, rfl, rfl, rfl, rfl, rfl, trivial⟩ (fun _ h => h) ?_
    rintro ⟨s_1, s_2⟩ ⟨⟩ o7 fl8 hm6 - hn9 hd10
    have hm6 : fiduciallaw45_energy_s1 p0 p1 p2 p3 s_1 s_2 = some o7 := hm6
    unfold fiduciallaw45_energy_s1 at hm6
    refine WK.sub (e' := [(0, .slice a_p0 p0.length c_p0), (1, .int .i64 p1), (2, .int .i64 p2), (3, .slice a_p3 p3.length c_p3), (8, .int .i64 0), (9, .int .i64 s_1), (12, .slice a_p3 p3.length c_p3), (13, .int .i64 (p3.length : Int)), (14, .int .i64 s_2)]) ⟨rfl, rfl, rfl, rfl, rfl, rfl, rfl, rfl, rfl, trivial⟩ (WK.cls (C' := St w0 m m []) (fun _ h => h) ?_)
    refine WK_seq ?_
    refine WK_region ?_
    refine WO_pure tbok 1 [(0, .slice a_p0 p0.length c_p0), (1, .int .i64 p1), (2, .int .i64 p2), (3, .slice a_p3 p3.length c_p3), (8, .int .i64 0), (9, .int .i64 s_1), (12, .slice a_p3 p3.length c_p3), (13, .int .i64 (p3.length : Int)), (14, .int .i64 s_2), (15, .bool (decide (s_2 < (p3.length : Int))))] rfl ⟨rfl, rfl, rfl, rfl, rfl, rfl, rfl, rfl, rfl, rfl, trivial⟩ ?_
    refine WO_end ?_
    refine WK_seq ?_
    refine WK_cond (b := decide (s_2 < (p3.length : Int))) rfl (fun hb12 => ?_) (fun hb12 => ?_)
    · have hm6 := ifT hb12 hm6
      refine WK_skip ?_
      refine WK_seq ?_
      refine WK_block ?_
      refine WK_seq ?_
      refine WK_region ?_
      refine WO_pure tbok 1 [(0, .slice a_p0 p0.length c_p0), (1, .int .i64 p1), (2, .int .i64 p2), (3, .slice a_p3 p3.length c_p3), (8, .int .i64 0), (9, .int .i64 s_1), (12, .slice a_p3 p3.length c_p3), (13, .int .i64 (p3.length : Int)), (14, .int .i64 s_2), (16, .int .i64 s_2)] rfl ⟨rfl, rfl, rfl, rfl, rfl, rfl, rfl, rfl, rfl, rfl, trivial⟩ ?_
      obtain ⟨v_4, hy13, hm6⟩ := bind_some hm6
      obtain ⟨hc14, hy13⟩ := ix_some hy13
      refine WO_index tbok rfl rfl rfl rfl rfl rfl rfl rfl (SlR.addr h_p3) hc14 ?_
      refine WO_loadE tbok rfl rfl rfl rfl (fun _ h => St.sat h) h_p3 hy13 rfl ?_
      refine WO_pure tbok 2 [(0, .slice a_p0 p0.length c_p0), (1, .int .i64 p1), (2, .int .i64 p2), (3, .slice a_p3 p3.length c_p3), (8, .int .i64 0), (9, .int .i64 s_1), (10, .int .i64 s_2), (11, .int .i64 v_4), (12, .slice a_p3 p3.length c_p3), (13, .int .i64 (p3.length : Int)), (14, .int .i64 s_2)] rfl ⟨rfl, rfl, rfl, rfl, rfl, rfl, rfl, rfl, rfl, rfl, rfl, trivial⟩ ?_
      refine WO_end ?_
      refine WK_seq ?_
      refine WK_region ?_
      refine WO_pure tbok 3 [(0, .slice a_p0 p0.length c_p0), (1, .int .i64 p1), (2, .int .i64 p2), (3, .slice a_p3 p3.length c_p3), (8, .int .i64 0), (9, .int .i64 s_1), (10, .int .i64 s_2), (11, .int .i64 v_4), (12, .slice a_p3 p3.length c_p3), (13, .int .i64 (p3.length : Int)), (14, .int .i64 s_2), (19, .int .i64 s_1), (20, .slice a_p0 p0.length c_p0), (21, .int .i64 s_2)] rfl ⟨rfl, rfl, rfl, rfl, rfl, rfl, rfl, rfl, rfl, rfl, rfl, rfl, rfl, rfl, trivial⟩ ?_
      obtain ⟨v_5, hy15, hm6⟩ := bind_some hm6
      obtain ⟨hc16, hy15⟩ := ix_some hy15
      refine WO_index tbok rfl rfl rfl rfl rfl rfl rfl rfl (SlR.addr h_p0) hc16 ?_
      refine WO_loadR tbok rfl rfl rfl rfl (fun _ h => St.sat h) h_p0 hy15 rfl rfl (fun a17 c18 h19 => ?_)
      refine WO_pure tbok 1 [(0, .slice a_p0 p0.length c_p0), (1, .int .i64 p1), (2, .int .i64 p2), (3, .slice a_p3 p3.length c_p3), (8, .int .i64 0), (9, .int .i64 s_1), (10, .int .i64 s_2), (11, .int .i64 v_4), (12, .slice a_p3 p3.length c_p3), (13, .int .i64 (p3.length : Int)), (14, .int .i64 s_2), (19, .int .i64 s_1), (23, .slice a17 ((v_5).length) c18), (24, .int .i64 v_4)] rfl ⟨rfl, rfl, rfl, rfl, rfl, rfl, rfl, rfl, rfl, rfl, rfl, rfl, rfl, rfl, trivial⟩ ?_
      obtain ⟨v_6, hy21, hm6⟩ := bind_some hm6
      obtain ⟨hc22, hy21⟩ := ix_some hy21
      refine WO_index tbok rfl rfl rfl rfl rfl rfl rfl rfl (SlR.addr h19) hc22 ?_
      refine WO_loadE tbok rfl rfl rfl rfl (fun _ h => St.sat h) h19 hy21 rfl ?_
      refine WO_pure tbok 2 [(0, .slice a_p0 p0.length c_p0), (1, .int .i64 p1), (2, .int .i64 p2), (3, .slice a_p3 p3.length c_p3), (8, .int .i64 0), (9, .int .i64 (w64 (s_1 + v_6))), (10, .int .i64 s_2), (11, .int .i64 v_4), (12, .slice a_p3 p3.length c_p3), (13, .int .i64 (p3.length : Int)), (14, .int .i64 s_2)] rfl ⟨rfl, rfl, rfl, rfl, rfl, rfl, rfl, rfl, rfl, rfl, rfl, trivial⟩ ?_
      refine WO_end ?_
      refine WK_seq ?_
      refine WK_region ?_
      refine WO_pure tbok 2 [(0, .slice a_p0 p0.length c_p0), (1, .int .i64 p1), (2, .int .i64 p2), (3, .slice a_p3 p3.length c_p3), (8, .int .i64 0), (9, .int .i64 (w64 (s_1 + v_6))), (10, .int .i64 s_2), (11, .int .i64 v_4), (12, .slice a_p3 p3.length c_p3), (13, .int .i64 (p3.length : Int)), (14, .int .i64 s_2), (29, .bool (decide (0 < s_2)))] rfl ⟨rfl, rfl, rfl, rfl, rfl, rfl, rfl, rfl, rfl, rfl, rfl, rfl, trivial⟩ ?_
      refine WO_end ?_
      obtain ⟨s_7, hx23, hm6⟩ := bind_some hm6
      refine WK_meet [(0, .slice a_p0 p0.length c_p0), (1, .int .i64 p1), (2, .int .i64 p2), (3, .slice a_p3 p3.length c_p3), (8, .int .i64 0), (9, .int .i64 s_7), (12, .slice a_p3 p3.length c_p3), (13, .int .i64 (p3.length : Int)), (14, .int .i64 s_2)] (St w0 m m []) ?_ (fun hk24 => ?_)
      · refine WK_blk ?_
        refine WK_region ?_
        refine WO_pure tbok 2 [(0, .slice a_p0 p0.length c_p0), (1, .int .i64 p1), (2, .int .i64 p2), (3, .slice a_p3 p3.length c_p3), (8, .int .i64 0), (9, .int .i64 s_7), (12, .slice a_p3 p3.length c_p3), (13, .int .i64 (p3.length : Int)), (14, .int .i64 (w64 (s_2 + 1)))] rfl ⟨rfl, rfl, rfl, rfl, rfl, rfl, rfl, rfl, rfl, trivial⟩ ?_
        refine WO_end ?_
        cases hm6
        refine WK.sub ?_ (WK.cls (fun _ h => h) (hn9 _ () rfl trivial))
        exact ⟨rfl, rfl, rfl, rfl, rfl, rfl, rfl, rfl, rfl, trivial⟩
      · refine WK_cond (b := decide (0 < s_2)) rfl (fun hb25 => ?_) (fun hb25 => ?_)
        · have hx23 := ifT hb25 hx23
          refine WK_region ?_
          refine WO_pure tbok 5 [(0, .slice a_p0 p0.length c_p0), (1, .int .i64 p1), (2, .int .i64 p2), (3, .slice a_p3 p3.length c_p3), (8, .int .i64 0), (9, .int .i64 (w64 (s_1 + v_6))), (12, .slice a_p3 p3.length c_p3), (13, .int .i64 (p3.length : Int)), (14, .int .i64 s_2), (30, .int .i64 (w64 (s_1 + v_6))), (31, .int .i64 v_4), (32, .slice a_p3 p3.length c_p3), (34, .int .i64 (w64 (s_2 - 1)))] rfl ⟨rfl, rfl, rfl, rfl, rfl, rfl, rfl, rfl, rfl, rfl, rfl, rfl, rfl, trivial⟩ ?_
          obtain ⟨v_8, hy26, hx23⟩ := bind_some hx23
          obtain ⟨hc27, hy26⟩ := ix_some hy26
          refine WO_index tbok rfl rfl rfl rfl rfl rfl rfl rfl (SlR.addr h_p3) hc27 ?_
          refine WO_loadE tbok rfl rfl rfl rfl (fun _ h => St.sat h) h_p3 hy26 rfl ?_
          refine WO_pure tbok 3 [(0, .slice a_p0 p0.length c_p0), (1, .int .i64 p1), (2, .int .i64 p2), (3, .slice a_p3 p3.length c_p3), (8, .int .i64 0), (9, .int .i64 (w64 (s_1 + v_6))), (12, .slice a_p3 p3.length c_p3), (13, .int .i64 (p3.length : Int)), (14, .int .i64 s_2), (30, .int .i64 (w64 (s_1 + v_6))), (37, .int .i64 (w64 (v_4 - v_8))), (38, .int .i64 p1), (39, .int .i64 p2)] rfl ⟨rfl, rfl, rfl, rfl, rfl, rfl, rfl, rfl, rfl, rfl, rfl, rfl, rfl, trivial⟩ ?_
          obtain ⟨y_9, hc28, hx23⟩ := bind_some hx23
          refine WO_call0 (.int .i64 y_9) rfl rfl trivial rfl rfl rfl rfl St_closed ⟨39, #[], #[], rfl, callable_39, fun w hw => ⟨_, hw.sat, fiduciallaw45_jump_walk hc28⟩⟩ ?_
          refine WO_pure tbok 2 [(0, .slice a_p0 p0.length c_p0), (1, .int .i64 p1), (2, .int .i64 p2), (3, .slice a_p3 p3.length c_p3), (8, .int .i64 0), (9, .int .i64 (w64 ((w64 (s_1 + v_6)) + y_9))), (12, .slice a_p3 p3.length c_p3), (13, .int .i64 (p3.length : Int)), (14, .int .i64 s_2)] rfl ⟨rfl, rfl, rfl, rfl, rfl, rfl, rfl, rfl, rfl, trivial⟩ ?_
          refine WO_end ?_
          cases hx23
          refine WK.sub ?_ (WK.cls (fun _ h => h) hk24)
          exact ⟨rfl, rfl, rfl, rfl, rfl, rfl, rfl, rfl, rfl, trivial⟩
        · have hx23 := ifF hb25 hx23
          refine WK_skip ?_
          cases hx23
          refine WK.sub ?_ (WK.cls (fun _ h => h) hk24)
          exact ⟨rfl, rfl, rfl, rfl, rfl, rfl, rfl, rfl, rfl, trivial⟩
    · have hm6 := ifF hb12 hm6
      refine WK_exit rfl ?_
      cases hm6
      refine WK.sub ?_ (WK.cls (fun _ h => h) (hk5 (s_1, ()) (hd10 _ rfl)))
      exact ⟨rfl, rfl, trivial⟩
theorem fiduciallaw45_AggregateLines_walk {m : Mu} {p0 : List (List Int)} {p1_0 : Int} {p1_1 : Int} {p2 : List Int} {a_p0 : Option Addr} {q_p0 c_p0 : Nat} {a_p2 : Option Addr} {q_p2 c_p2 : Nat} (h_p0 : SlR (RowE (FE (I1 .i64)) 1) 1 m (.slice a_p0 q_p0 c_p0) p0) (h_p2 : SlR (FE (I1 .i64)) 1 m (.slice a_p2 q_p2 c_p2) p2) {r : Bool} (hm : fiduciallaw45_AggregateLines p0 p1_0 p1_1 p2 = some r) :
    Go.E.Spec Try.prog 3 [.slice a_p0 q_p0 c_p0, .agg #[.int .i64 p1_0, .int .i64 p1_1], .slice a_p2 q_p2 c_p2] m (fun v _ _ => v = .bool r) := by
  refine Spec_enter Try.func3 rfl rfl rfl (fun w0 => ?_)
  refine WK.sub (e' := [(0, .slice a_p0 q_p0 c_p0), (1, .agg #[.int .i64 p1_0, .int .i64 p1_1]), (2, .slice a_p2 q_p2 c_p2)]) ⟨rfl, rfl, rfl, trivial⟩ ?_
  obtain rfl := SlR.qlen h_p0
  obtain rfl := SlR.qlen h_p2
  refine WK.sub (e' := [(0, .slice a_p0 p0.length c_p0), (1, .agg #[.int .i64 p1_0, .int .i64 p1_1]), (2, .slice a_p2 p2.length c_p2)]) ⟨rfl, rfl, rfl, trivial⟩ ?_
  unfold fiduciallaw45_AggregateLines at hm
  refine WK_seq ?_
  refine WK_region ?_
  refine WO_box [.int .i64 p1_0, .int .i64 p1_1] rfl rfl trivial rfl rfl rfl (fun b3 => ?_)
  refine WO.cls (C' := St w0 m m [[⟨b3, 23, [.int .i64 p1_0, .int .i64 p1_1]⟩]]) (fun _ h => h) ?_
  refine WO_pure tbok 1 [(0, .slice a_p0 p0.length c_p0), (2, .slice a_p2 p2.length c_p2), (4, .pointer (some ⟨b3, 0, none⟩)), (6, .bool false)] rfl ⟨rfl, rfl, rfl, rfl, trivial⟩ ?_
  refine WO_end ?_
  refine WK_seq ?_
  refine WK_seq ?_
  refine WK_region ?_
  obtain ⟨y_1, hc4, hm⟩ := bind_some hm
  refine WO_call0 (.bool y_1) rfl rfl trivial rfl rfl rfl rfl St_closed ⟨8, #[], #[], rfl, callable_8, fun w hw => ⟨_, hw.sat, fiduciallaw45_known_walk hc4⟩⟩ ?_
  refine WO_pure tbok 1 [(0, .slice a_p0 p0.length c_p0), (2, .slice a_p2 p2.length c_p2), (4, .pointer (some ⟨b3, 0, none⟩)), (6, .bool false), (15, .bool (!y_1))] rfl ⟨rfl, rfl, rfl, rfl, rfl, trivial⟩ ?_
  refine WO_end ?_
  refine WK_cond (b := !y_1) rfl (fun hb5 => ?_) (fun hb5 => ?_)
  · have hm := ifT hb5 hm
    refine WK_seq ?_
    refine WK_region ?_
    refine WO_pure tbok 1 [(0, .slice a_p0 p0.length c_p0), (2, .slice a_p2 p2.length c_p2), (4, .pointer (some ⟨b3, 0, none⟩)), (6, .bool false)] rfl ⟨rfl, rfl, rfl, rfl, trivial⟩ ?_
    refine WO_end ?_
    cases hm
    exact WK_ret (ret_out (L := []) (RLc_tmp rfl RLc_nil) (List.nil_sublist _) rfl)
  · have hm := ifF hb5 hm
    refine WK_skip ?_
    refine WK_seq ?_
    refine WK_seq ?_
    obtain ⟨s_2, hx6, hm⟩ := bind_some hm
    refine WK_meet [(0, .slice a_p0 p0.length c_p0), (2, .slice a_p2 p2.length c_p2), (4, .pointer (some ⟨b3, 0, none⟩)), (6, .bool false), (23, .bool s_2)] (St w0 m m [[⟨b3, 23, [.int .i64 p1_0, .int .i64 p1_1]⟩]]) ?_ (fun hk7 => ?_)
    · refine WK_cond (b := s_2) rfl (fun hb8 => ?_) (fun hb8 => ?_)
      · have hm := ifT hb8 hm
        refine WK_seq ?_
        refine WK_region ?_
        refine WO_pure tbok 1 [(0, .slice a_p0 p0.length c_p0), (2, .slice a_p2 p2.length c_p2), (4, .pointer (some ⟨b3, 0, none⟩)), (6, .bool true)] rfl ⟨rfl, rfl, rfl, rfl, trivial⟩ ?_
        refine WO_end ?_
        cases hm
        exact WK_ret (ret_out (L := []) (RLc_tmp rfl RLc_nil) (List.nil_sublist _) rfl)
      · have hm := ifF hb8 hm
        refine WK_skip ?_
        refine WK_seq ?_
        refine WK_region ?_
        refine WO_pure tbok 2 [(0, .slice a_p0 p0.length c_p0), (2, .slice a_p2 p2.length c_p2), (4, .pointer (some ⟨b3, 0, none⟩)), (6, .bool false), (25, .slice a_p0 p0.length c_p0), (26, .pointer (some ⟨b3, 0, none⟩))] rfl ⟨rfl, rfl, rfl, rfl, rfl, rfl, trivial⟩ ?_
        refine WO_loadB tbok 0 rfl rfl rfl rfl (fun _ h => h) rfl rfl ?_
        refine WO_pure tbok 1 [(0, .slice a_p0 p0.length c_p0), (2, .slice a_p2 p2.length c_p2), (4, .pointer (some ⟨b3, 0, none⟩)), (6, .bool false), (25, .slice a_p0 p0.length c_p0), (27, .int .i64 p1_0), (28, .pointer (some ⟨b3, 1, none⟩))] rfl ⟨rfl, rfl, rfl, rfl, rfl, rfl, rfl, trivial⟩ ?_
        refine WO_loadB tbok 0 rfl rfl rfl rfl (fun _ h => h) rfl rfl ?_
        obtain ⟨⟨y_3, y_4, y_5, y_6⟩, hc9, hm⟩ := bind_some hm
        refine WO_call2 (aggregate_Line_Q (y_3, y_4, y_5, y_6)) rfl rfl trivial rfl rfl rfl rfl ⟨10, #[], #[], rfl, callable_10, aggregate_Line_walk h_p0 hc9⟩ (fun v17 m18 L16 hle19 hq => ?_)
        obtain ⟨a10, qa10, c11, a13, qa13, c14, rfl, h20, h21⟩ := hq
        obtain rfl := SlR.qlen h20
        obtain rfl := SlR.qlen h21
        refine WO.cls (C' := St w0 m m18 [[⟨b3, 23, [.int .i64 p1_0, .int .i64 p1_1]⟩], L16]) (fun _ h => h.sub (by simp)) ?_
        refine WO_pure tbok 9 [(0, .slice a_p0 p0.length c_p0), (2, .slice a_p2 p2.length c_p2), (4, .pointer (some ⟨b3, 0, none⟩)), (6, .bool false), (7, .slice a10 ((y_3).length) c11), (8, .int .i64 y_4), (9, .slice a13 ((y_5).length) c14), (10, .int .i64 y_6)] rfl ⟨rfl, rfl, rfl, rfl, rfl, rfl, rfl, rfl, trivial⟩ ?_
        refine WO_end ?_
        refine WK_seq ?_
        refine WK_seq ?_
        refine WK_region ?_
        refine WO_pure tbok 1 [(0, .slice a_p0 p0.length c_p0), (2, .slice a_p2 p2.length c_p2), (4, .pointer (some ⟨b3, 0, none⟩)), (6, .bool false), (7, .slice a10 ((y_3).length) c11), (8, .int .i64 y_4), (9, .slice a13 ((y_5).length) c14), (10, .int .i64 y_6), (35, .slice a_p0 p0.length c_p0)] rfl ⟨rfl, rfl, rfl, rfl, rfl, rfl, rfl, rfl, rfl, trivial⟩ ?_
        refine WO_loadB tbok 0 rfl rfl rfl rfl (fun _ h => h) rfl rfl ?_
        obtain ⟨y_7, hc22, hm⟩ := bind_some hm
        refine WO_call0 (.int .i64 y_7) rfl rfl trivial rfl rfl rfl rfl St_closed ⟨11, #[], #[], rfl, callable_11, fun w hw => ⟨_, hw.sat, fiduciallaw45_lined_walk (h_p0.mono (mono_RowE (mono_FE _) _) hle19) hc22⟩⟩ ?_
        refine WO_pure tbok 1 [(0, .slice a_p0 p0.length c_p0), (2, .slice a_p2 p2.length c_p2), (4, .pointer (some ⟨b3, 0, none⟩)), (6, .bool false), (7, .slice a10 ((y_3).length) c11), (8, .int .i64 y_4), (9, .slice a13 ((y_5).length) c14), (10, .int .i64 y_6), (11, .int .i64 y_7)] rfl ⟨rfl, rfl, rfl, rfl, rfl, rfl, rfl, rfl, rfl, trivial⟩ ?_
        refine WO_end ?_
        refine WK_seq ?_
        refine WK_region ?_
        refine WO_pure tbok 2 [(0, .slice a_p0 p0.length c_p0), (2, .slice a_p2 p2.length c_p2), (4, .pointer (some ⟨b3, 0, none⟩)), (6, .bool false), (7, .slice a10 ((y_3).length) c11), (8, .int .i64 y_4), (9, .slice a13 ((y_5).length) c14), (10, .int .i64 y_6), (11, .int .i64 y_7), (39, .bool (y_7 != 0))] rfl ⟨rfl, rfl, rfl, rfl, rfl, rfl, rfl, rfl, rfl, rfl, trivial⟩ ?_
        refine WO_end ?_
        refine WK_cond (b := y_7 != 0) rfl (fun hb23 => ?_) (fun hb23 => ?_)
        · have hm := ifT hb23 hm
          refine WK_seq ?_
          refine WK_region ?_
          refine WO_pure tbok 4 [(0, .slice a_p0 p0.length c_p0), (2, .slice a_p2 p2.length c_p2), (4, .pointer (some ⟨b3, 0, none⟩)), (6, .bool false), (7, .slice a10 ((y_3).length) c11), (8, .int .i64 y_4), (9, .slice a13 ((y_5).length) c14), (10, .int .i64 y_6), (43, .bool (y_6 == y_7))] rfl ⟨rfl, rfl, rfl, rfl, rfl, rfl, rfl, rfl, rfl, trivial⟩ ?_
          refine WO_split (d := 43) (b := y_6 == y_7) rfl (fun hb24 => ?_) (fun hb24 => ?_)
          · have hm := ifT hb24 hm
            refine WO_pure tbok 4 [(0, .slice a_p0 p0.length c_p0), (2, .slice a_p2 p2.length c_p2), (4, .pointer (some ⟨b3, 0, none⟩)), (6, .bool false), (7, .slice a10 ((y_3).length) c11), (8, .int .i64 y_4), (9, .slice a13 ((y_5).length) c14), (10, .int .i64 y_6), (47, .bool (y_4 == 0))] rfl ⟨rfl, rfl, rfl, rfl, rfl, rfl, rfl, rfl, rfl, trivial⟩ ?_
            refine WO_split (d := 47) (b := y_4 == 0) rfl (fun hb25 => ?_) (fun hb25 => ?_)
            · have hm := ifT hb25 hm
              refine WO_pure tbok 8 [(0, .slice a_p0 p0.length c_p0), (2, .slice a_p2 p2.length c_p2), (4, .pointer (some ⟨b3, 0, none⟩)), (6, .bool ((w64 (((y_3).length : Int) + ((y_5).length : Int))) == 0)), (7, .slice a10 ((y_3).length) c11), (8, .int .i64 y_4), (9, .slice a13 ((y_5).length) c14), (10, .int .i64 y_6)] rfl ⟨rfl, rfl, rfl, rfl, rfl, rfl, rfl, rfl, trivial⟩ ?_
              refine WO_end ?_
              cases hm
              exact WK_ret (ret_out (L := []) (RLc_tmp rfl RLc_nil) (List.nil_sublist _) rfl)
            · have hm := ifF hb25 hm
              refine WO_pure tbok 8 [(0, .slice a_p0 p0.length c_p0), (2, .slice a_p2 p2.length c_p2), (4, .pointer (some ⟨b3, 0, none⟩)), (6, .bool false), (7, .slice a10 ((y_3).length) c11), (8, .int .i64 y_4), (9, .slice a13 ((y_5).length) c14), (10, .int .i64 y_6)] rfl ⟨rfl, rfl, rfl, rfl, rfl, rfl, rfl, rfl, trivial⟩ ?_
              refine WO_end ?_
              cases hm
              exact WK_ret (ret_out (L := []) (RLc_tmp rfl RLc_nil) (List.nil_sublist _) rfl)
          · have hm := ifF hb24 hm
            refine WO_pure tbok 12 [(0, .slice a_p0 p0.length c_p0), (2, .slice a_p2 p2.length c_p2), (4, .pointer (some ⟨b3, 0, none⟩)), (6, .bool false), (7, .slice a10 ((y_3).length) c11), (8, .int .i64 y_4), (9, .slice a13 ((y_5).length) c14), (10, .int .i64 y_6)] rfl ⟨rfl, rfl, rfl, rfl, rfl, rfl, rfl, rfl, trivial⟩ ?_
            refine WO_end ?_
            cases hm
            exact WK_ret (ret_out (L := []) (RLc_tmp rfl RLc_nil) (List.nil_sublist _) rfl)
        · have hm := ifF hb23 hm
          refine WK_skip ?_
          refine WK_seq ?_
          refine WK_region ?_
          refine WO_pure tbok 2 [(0, .slice a_p0 p0.length c_p0), (2, .slice a_p2 p2.length c_p2), (4, .pointer (some ⟨b3, 0, none⟩)), (6, .bool false), (7, .slice a10 ((y_3).length) c11), (8, .int .i64 y_4), (9, .slice a13 ((y_5).length) c14), (10, .int .i64 y_6), (56, .slice a_p0 p0.length c_p0), (57, .pointer (some ⟨b3, 0, none⟩))] rfl ⟨rfl, rfl, rfl, rfl, rfl, rfl, rfl, rfl, rfl, rfl, trivial⟩ ?_
          refine WO_loadB tbok 0 rfl rfl rfl rfl (fun _ h => h) rfl rfl ?_
          refine WO_pure tbok 1 [(0, .slice a_p0 p0.length c_p0), (2, .slice a_p2 p2.length c_p2), (4, .pointer (some ⟨b3, 0, none⟩)), (6, .bool false), (7, .slice a10 ((y_3).length) c11), (8, .int .i64 y_4), (9, .slice a13 ((y_5).length) c14), (10, .int .i64 y_6), (56, .slice a_p0 p0.length c_p0), (58, .int .i64 p1_0), (59, .pointer (some ⟨b3, 1, none⟩))] rfl ⟨rfl, rfl, rfl, rfl, rfl, rfl, rfl, rfl, rfl, rfl, rfl, trivial⟩ ?_
          refine WO_loadB tbok 0 rfl rfl rfl rfl (fun _ h => h) rfl rfl ?_
          obtain ⟨⟨y_8, y_9⟩, hc26, hm⟩ := bind_some hm
          refine WO_call1 (fiduciallaw45_first_Q (y_8, y_9)) rfl rfl trivial rfl rfl rfl rfl ⟨12, #[], #[], rfl, callable_12, fun w hw => ⟨_, hw.sat, fiduciallaw45_first_walk (h_p0.mono (mono_RowE (mono_FE _) _) hle19) hc26⟩⟩ (fun v31 L30 hq => ?_)
          obtain ⟨a27, qa27, c28, rfl, hL30⟩ := hq
          obtain rfl := OwnE.qlen hL30
          refine WO.cls (C' := St w0 m m18 [[⟨b3, 23, [.int .i64 p1_0, .int .i64 p1_1]⟩], L16, L30]) (fun _ h => h) ?_
          refine WO_pure tbok 5 [(0, .slice a_p0 p0.length c_p0), (2, .slice a_p2 p2.length c_p2), (4, .pointer (some ⟨b3, 0, none⟩)), (6, .bool false), (7, .slice a10 ((y_3).length) c11), (8, .int .i64 y_4), (9, .slice a13 ((y_5).length) c14), (10, .int .i64 y_6), (12, .slice a27 ((y_8).length) c28), (13, .int .i64 y_9)] rfl ⟨rfl, rfl, rfl, rfl, rfl, rfl, rfl, rfl, rfl, rfl, trivial⟩ ?_
          refine WO_end ?_
          refine WK_seq ?_
          refine WK_seq ?_
          obtain ⟨s_10, hx32, hm⟩ := bind_some hm
          refine WK_meet [(0, .slice a_p0 p0.length c_p0), (2, .slice a_p2 p2.length c_p2), (4, .pointer (some ⟨b3, 0, none⟩)), (6, .bool false), (8, .int .i64 y_4), (98, .bool s_10)] (St w0 m m18 [[⟨b3, 23, [.int .i64 p1_0, .int .i64 p1_1]⟩], L16, L30]) ?_ (fun hk33 => ?_)
          · refine WK_cond (b := s_10) rfl (fun hb34 => ?_) (fun hb34 => ?_)
            · have hm := ifT hb34 hm
              refine WK_seq ?_
              refine WK_region ?_
              refine WO_pure tbok 1 [(0, .slice a_p0 p0.length c_p0), (2, .slice a_p2 p2.length c_p2), (4, .pointer (some ⟨b3, 0, none⟩)), (6, .bool false), (8, .int .i64 y_4)] rfl ⟨rfl, rfl, rfl, rfl, rfl, trivial⟩ ?_
              refine WO_end ?_
              cases hm
              exact WK_ret (ret_out (L := []) (RLc_tmp rfl RLc_nil) (List.nil_sublist _) rfl)
            · have hm := ifF hb34 hm
              refine WK_skip ?_
              refine WK_seq ?_
              refine WK_region ?_
              refine WO_pure tbok 4 [(0, .slice a_p0 p0.length c_p0), (2, .slice a_p2 p2.length c_p2), (4, .pointer (some ⟨b3, 0, none⟩)), (6, .bool false), (8, .int .i64 y_4), (99, .slice a_p2 p2.length c_p2), (101, .int .i64 (p0.length : Int)), (102, .slice a_p0 p0.length c_p0)] rfl ⟨rfl, rfl, rfl, rfl, rfl, rfl, rfl, rfl, trivial⟩ ?_
              obtain ⟨v_11, hy35, hm⟩ := bind_some hm
              obtain ⟨hc36, hy35⟩ := ix_some hy35
              refine WO_index tbok rfl rfl rfl rfl rfl rfl rfl rfl (SlR.addr (h_p0.mono (mono_RowE (mono_FE _) _) hle19)) hc36 ?_
              refine WO_loadR tbok rfl rfl rfl rfl (fun _ h => St.sat h) (h_p0.mono (mono_RowE (mono_FE _) _) hle19) hy35 rfl rfl (fun a37 c38 h39 => ?_)
              refine WO_pure tbok 1 [(0, .slice a_p0 p0.length c_p0), (2, .slice a_p2 p2.length c_p2), (4, .pointer (some ⟨b3, 0, none⟩)), (6, .bool false), (8, .int .i64 y_4), (99, .slice a_p2 p2.length c_p2), (101, .int .i64 (p0.length : Int)), (105, .int .i64 ((v_11).length : Int))] rfl ⟨rfl, rfl, rfl, rfl, rfl, rfl, rfl, rfl, trivial⟩ ?_
              obtain ⟨y_12, hc41, hm⟩ := bind_some hm
              refine WO_call0 (.int .i64 y_12) rfl rfl trivial rfl rfl rfl rfl St_closed ⟨16, #[], #[], rfl, callable_16, fun w hw => ⟨_, hw.sat, fiduciallaw45_labelled_walk (h_p2.mono (mono_FE _) hle19) hc41⟩⟩ ?_
              refine WO_pure tbok 2 [(0, .slice a_p0 p0.length c_p0), (2, .slice a_p2 p2.length c_p2), (4, .pointer (some ⟨b3, 0, none⟩)), (6, .bool false), (8, .int .i64 y_4), (108, .bool (y_12 != 0))] rfl ⟨rfl, rfl, rfl, rfl, rfl, rfl, trivial⟩ ?_
              refine WO_split (d := 108) (b := y_12 != 0) rfl (fun hb42 => ?_) (fun hb42 => ?_)
              · have hm := ifT hb42 hm
                refine WO_pure tbok 6 [(6, .bool false), (8, .int .i64 y_4), (108, .bool true)] rfl ⟨rfl, rfl, rfl, trivial⟩ ?_
                refine WO_skip rfl rfl ?_
                refine WO_pure tbok 4 [(6, .bool true)] rfl ⟨rfl, trivial⟩ ?_
                refine WO_end ?_
                cases hm
                exact WK_ret (ret_out (L := []) (RLc_tmp rfl RLc_nil) (List.nil_sublist _) rfl)
              · have hm := ifF hb42 hm
                refine WO_pure tbok 2 [(2, .slice a_p2 p2.length c_p2), (4, .pointer (some ⟨b3, 0, none⟩)), (6, .bool false), (8, .int .i64 y_4), (108, .bool false), (109, .slice a_p0 p0.length c_p0), (110, .pointer (some ⟨b3, 0, none⟩))] rfl ⟨rfl, rfl, rfl, rfl, rfl, rfl, rfl, trivial⟩ ?_
                refine WO_loadB tbok 0 rfl rfl rfl rfl (fun _ h => h) rfl rfl ?_
                refine WO_pure tbok 1 [(2, .slice a_p2 p2.length c_p2), (6, .bool false), (8, .int .i64 y_4), (108, .bool false), (109, .slice a_p0 p0.length c_p0), (111, .int .i64 p1_0), (112, .pointer (some ⟨b3, 1, none⟩))] rfl ⟨rfl, rfl, rfl, rfl, rfl, rfl, rfl, trivial⟩ ?_
                refine WO_loadB tbok 0 rfl rfl rfl rfl (fun _ h => h) rfl rfl ?_
                refine WO_pure tbok 1 [(6, .bool false), (8, .int .i64 y_4), (108, .bool false), (109, .slice a_p0 p0.length c_p0), (111, .int .i64 p1_0), (113, .int .i64 p1_1), (114, .slice a_p2 p2.length c_p2)] rfl ⟨rfl, rfl, rfl, rfl, rfl, rfl, rfl, trivial⟩ ?_
                obtain ⟨y_13, hc43, hm⟩ := bind_some hm
                refine WO_call0 (.int .i64 y_13) rfl rfl trivial rfl rfl rfl rfl St_closed ⟨17, #[], #[], rfl, callable_17, fun w hw => ⟨_, hw.sat, fiduciallaw45_energy_walk (h_p0.mono (mono_RowE (mono_FE _) _) hle19) (h_p2.mono (mono_FE _) hle19) hc43⟩⟩ ?_
                refine WO_pure tbok 4 [(6, .bool (decide (y_4 ≤ y_13)))] rfl ⟨rfl, trivial⟩ ?_
                refine WO_end ?_
                cases hm
                exact WK_ret (ret_out (L := []) (RLc_tmp rfl RLc_nil) (List.nil_sublist _) rfl)
          · refine WK_region ?_
            refine WO_pure tbok 3 [(0, .slice a_p0 p0.length c_p0), (2, .slice a_p2 p2.length c_p2), (4, .pointer (some ⟨b3, 0, none⟩)), (6, .bool false), (7, .slice a10 ((y_3).length) c11), (8, .int .i64 y_4), (9, .slice a13 ((y_5).length) c14), (12, .slice a27 ((y_8).length) c28), (13, .int .i64 y_9), (66, .bool (y_6 != 0))] rfl ⟨rfl, rfl, rfl, rfl, rfl, rfl, rfl, rfl, rfl, rfl, trivial⟩ ?_
            refine WO_split (d := 66) (b := y_6 != 0) rfl (fun hb44 => ?_) (fun hb44 => ?_)
            · have hx32 := ifT hb44 hx32
              refine WO_pure tbok 7 [(0, .slice a_p0 p0.length c_p0), (2, .slice a_p2 p2.length c_p2), (4, .pointer (some ⟨b3, 0, none⟩)), (6, .bool false), (8, .int .i64 y_4), (9, .slice a13 ((y_5).length) c14), (71, .bool true)] rfl ⟨rfl, rfl, rfl, rfl, rfl, rfl, rfl, trivial⟩ ?_
              refine WO_skip rfl rfl ?_
              refine WO_pure tbok 10 [(0, .slice a_p0 p0.length c_p0), (2, .slice a_p2 p2.length c_p2), (4, .pointer (some ⟨b3, 0, none⟩)), (6, .bool false), (8, .int .i64 y_4), (9, .slice a13 ((y_5).length) c14), (77, .bool true)] rfl ⟨rfl, rfl, rfl, rfl, rfl, rfl, rfl, trivial⟩ ?_
              refine WO_skip rfl rfl ?_
              refine WO_pure tbok 10 [(0, .slice a_p0 p0.length c_p0), (2, .slice a_p2 p2.length c_p2), (4, .pointer (some ⟨b3, 0, none⟩)), (6, .bool false), (8, .int .i64 y_4), (88, .bool true)] rfl ⟨rfl, rfl, rfl, rfl, rfl, rfl, trivial⟩ ?_
              refine WO_skip rfl rfl ?_
              refine WO_pure tbok 2 [(0, .slice a_p0 p0.length c_p0), (2, .slice a_p2 p2.length c_p2), (4, .pointer (some ⟨b3, 0, none⟩)), (6, .bool false), (8, .int .i64 y_4), (98, .bool true)] rfl ⟨rfl, rfl, rfl, rfl, rfl, rfl, trivial⟩ ?_
              refine WO_end ?_
              cases hx32
              refine WK.sub ?_ (WK.cls (fun _ h => h) hk33)
              exact ⟨rfl, rfl, rfl, rfl, rfl, rfl, trivial⟩
            · have hx32 := ifF hb44 hx32
              refine WO_pure tbok 5 [(0, .slice a_p0 p0.length c_p0), (2, .slice a_p2 p2.length c_p2), (4, .pointer (some ⟨b3, 0, none⟩)), (6, .bool false), (7, .slice a10 ((y_3).length) c11), (8, .int .i64 y_4), (9, .slice a13 ((y_5).length) c14), (12, .slice a27 ((y_8).length) c28), (71, .bool (y_4 != y_9))] rfl ⟨rfl, rfl, rfl, rfl, rfl, rfl, rfl, rfl, rfl, trivial⟩ ?_
              refine WO_split (d := 71) (b := y_4 != y_9) rfl (fun hb45 => ?_) (fun hb45 => ?_)
              · have hx32 := ifT hb45 hx32
                refine WO_pure tbok 2 [(0, .slice a_p0 p0.length c_p0), (2, .slice a_p2 p2.length c_p2), (4, .pointer (some ⟨b3, 0, none⟩)), (6, .bool false), (8, .int .i64 y_4), (9, .slice a13 ((y_5).length) c14), (71, .bool true)] rfl ⟨rfl, rfl, rfl, rfl, rfl, rfl, rfl, trivial⟩ ?_
                refine WO_skip rfl rfl ?_
                refine WO_pure tbok 10 [(0, .slice a_p0 p0.length c_p0), (2, .slice a_p2 p2.length c_p2), (4, .pointer (some ⟨b3, 0, none⟩)), (6, .bool false), (8, .int .i64 y_4), (9, .slice a13 ((y_5).length) c14), (77, .bool true)] rfl ⟨rfl, rfl, rfl, rfl, rfl, rfl, rfl, trivial⟩ ?_
                refine WO_skip rfl rfl ?_
                refine WO_pure tbok 10 [(0, .slice a_p0 p0.length c_p0), (2, .slice a_p2 p2.length c_p2), (4, .pointer (some ⟨b3, 0, none⟩)), (6, .bool false), (8, .int .i64 y_4), (88, .bool true)] rfl ⟨rfl, rfl, rfl, rfl, rfl, rfl, trivial⟩ ?_
                refine WO_skip rfl rfl ?_
                refine WO_pure tbok 2 [(0, .slice a_p0 p0.length c_p0), (2, .slice a_p2 p2.length c_p2), (4, .pointer (some ⟨b3, 0, none⟩)), (6, .bool false), (8, .int .i64 y_4), (98, .bool true)] rfl ⟨rfl, rfl, rfl, rfl, rfl, rfl, trivial⟩ ?_
                refine WO_end ?_
                cases hx32
                refine WK.sub ?_ (WK.cls (fun _ h => h) hk33)
                exact ⟨rfl, rfl, rfl, rfl, rfl, rfl, trivial⟩
              · have hx32 := ifF hb45 hx32
                refine WO_pure tbok 2 [(0, .slice a_p0 p0.length c_p0), (2, .slice a_p2 p2.length c_p2), (4, .pointer (some ⟨b3, 0, none⟩)), (6, .bool false), (8, .int .i64 y_4), (9, .slice a13 ((y_5).length) c14), (71, .bool false), (72, .slice a10 ((y_3).length) c11), (73, .slice a27 ((y_8).length) c28)] rfl ⟨rfl, rfl, rfl, rfl, rfl, rfl, rfl, rfl, rfl, trivial⟩ ?_
                obtain ⟨y_14, hc46, hx32⟩ := bind_some hx32
                refine WO_call0 (.bool y_14) rfl rfl trivial rfl rfl rfl rfl St_closed ⟨13, #[], #[], rfl, callable_13, fun w hw => ⟨_, hw.satV, slices_Equal_sint_walk (h20.mono (mono_FE _) hw.leV) (OwnE.rd (E := (I1 .i64)) (k := 1) (fun _ => rfl) hL30 (fun _ hx => hw.memV (i := 2) rfl hx)) hc46⟩⟩ ?_
                refine WO_pure tbok 3 [(0, .slice a_p0 p0.length c_p0), (2, .slice a_p2 p2.length c_p2), (4, .pointer (some ⟨b3, 0, none⟩)), (6, .bool false), (8, .int .i64 y_4), (9, .slice a13 ((y_5).length) c14), (77, .bool (!y_14))] rfl ⟨rfl, rfl, rfl, rfl, rfl, rfl, rfl, trivial⟩ ?_
                refine WO_split (d := 77) (b := !y_14) rfl (fun hb47 => ?_) (fun hb47 => ?_)
                · have hx32 := ifT hb47 hx32
                  refine WO_pure tbok 7 [(0, .slice a_p0 p0.length c_p0), (2, .slice a_p2 p2.length c_p2), (4, .pointer (some ⟨b3, 0, none⟩)), (6, .bool false), (8, .int .i64 y_4), (9, .slice a13 ((y_5).length) c14), (77, .bool true)] rfl ⟨rfl, rfl, rfl, rfl, rfl, rfl, rfl, trivial⟩ ?_
                  refine WO_skip rfl rfl ?_
                  refine WO_pure tbok 10 [(0, .slice a_p0 p0.length c_p0), (2, .slice a_p2 p2.length c_p2), (4, .pointer (some ⟨b3, 0, none⟩)), (6, .bool false), (8, .int .i64 y_4), (88, .bool true)] rfl ⟨rfl, rfl, rfl, rfl, rfl, rfl, trivial⟩ ?_
                  refine WO_skip rfl rfl ?_
                  refine WO_pure tbok 2 [(0, .slice a_p0 p0.length c_p0), (2, .slice a_p2 p2.length c_p2), (4, .pointer (some ⟨b3, 0, none⟩)), (6, .bool false), (8, .int .i64 y_4), (98, .bool true)] rfl ⟨rfl, rfl, rfl, rfl, rfl, rfl, trivial⟩ ?_
                  refine WO_end ?_
                  cases hx32
                  refine WK.sub ?_ (WK.cls (fun _ h => h) hk33)
                  exact ⟨rfl, rfl, rfl, rfl, rfl, rfl, trivial⟩
                · have hx32 := ifF hb47 hx32
                  refine WO_pure tbok 2 [(0, .slice a_p0 p0.length c_p0), (2, .slice a_p2 p2.length c_p2), (4, .pointer (some ⟨b3, 0, none⟩)), (6, .bool false), (8, .int .i64 y_4), (9, .slice a13 ((y_5).length) c14), (77, .bool false), (78, .slice a_p0 p0.length c_p0), (79, .pointer (some ⟨b3, 0, none⟩))] rfl ⟨rfl, rfl, rfl, rfl, rfl, rfl, rfl, rfl, rfl, trivial⟩ ?_
                  refine WO_loadB tbok 0 rfl rfl rfl rfl (fun _ h => h) rfl rfl ?_
                  refine WO_pure tbok 1 [(0, .slice a_p0 p0.length c_p0), (2, .slice a_p2 p2.length c_p2), (4, .pointer (some ⟨b3, 0, none⟩)), (6, .bool false), (8, .int .i64 y_4), (9, .slice a13 ((y_5).length) c14), (77, .bool false), (78, .slice a_p0 p0.length c_p0), (80, .int .i64 p1_0), (81, .pointer (some ⟨b3, 1, none⟩))] rfl ⟨rfl, rfl, rfl, rfl, rfl, rfl, rfl, rfl, rfl, rfl, trivial⟩ ?_
                  refine WO_loadB tbok 0 rfl rfl rfl rfl (fun _ h => h) rfl rfl ?_
                  refine WO_pure tbok 2 [(0, .slice a_p0 p0.length c_p0), (2, .slice a_p2 p2.length c_p2), (4, .pointer (some ⟨b3, 0, none⟩)), (6, .bool false), (8, .int .i64 y_4), (9, .slice a13 ((y_5).length) c14), (77, .bool false), (78, .slice a_p0 p0.length c_p0), (80, .int .i64 p1_0), (82, .int .i64 p1_1), (83, .slice a13 ((y_5).length) c14), (84, .int .i64 y_4)] rfl ⟨rfl, rfl, rfl, rfl, rfl, rfl, rfl, rfl, rfl, rfl, rfl, rfl, trivial⟩ ?_
                  obtain ⟨y_15, hc48, hx32⟩ := bind_some hx32
                  refine WO_call0 (.int .i64 y_15) rfl rfl trivial rfl rfl rfl rfl St_closed ⟨14, #[], #[], rfl, callable_14, fun w hw => ⟨_, hw.sat, fiduciallaw45_proves_walk (h_p0.mono (mono_RowE (mono_FE _) _) hle19) h21 hc48⟩⟩ ?_
                  refine WO_pure tbok 3 [(0, .slice a_p0 p0.length c_p0), (2, .slice a_p2 p2.length c_p2), (4, .pointer (some ⟨b3, 0, none⟩)), (6, .bool false), (8, .int .i64 y_4), (9, .slice a13 ((y_5).length) c14), (88, .bool (y_15 != 0))] rfl ⟨rfl, rfl, rfl, rfl, rfl, rfl, rfl, trivial⟩ ?_
                  refine WO_split (d := 88) (b := y_15 != 0) rfl (fun hb49 => ?_) (fun hb49 => ?_)
                  · have hx32 := ifT hb49 hx32
                    refine WO_pure tbok 7 [(0, .slice a_p0 p0.length c_p0), (2, .slice a_p2 p2.length c_p2), (4, .pointer (some ⟨b3, 0, none⟩)), (6, .bool false), (8, .int .i64 y_4), (88, .bool true)] rfl ⟨rfl, rfl, rfl, rfl, rfl, rfl, trivial⟩ ?_
                    refine WO_skip rfl rfl ?_
                    refine WO_pure tbok 2 [(0, .slice a_p0 p0.length c_p0), (2, .slice a_p2 p2.length c_p2), (4, .pointer (some ⟨b3, 0, none⟩)), (6, .bool false), (8, .int .i64 y_4), (98, .bool true)] rfl ⟨rfl, rfl, rfl, rfl, rfl, rfl, trivial⟩ ?_
                    refine WO_end ?_
                    cases hx32
                    refine WK.sub ?_ (WK.cls (fun _ h => h) hk33)
                    exact ⟨rfl, rfl, rfl, rfl, rfl, rfl, trivial⟩
                  · have hx32 := ifF hb49 hx32
                    refine WO_pure tbok 2 [(0, .slice a_p0 p0.length c_p0), (2, .slice a_p2 p2.length c_p2), (4, .pointer (some ⟨b3, 0, none⟩)), (6, .bool false), (8, .int .i64 y_4), (9, .slice a13 ((y_5).length) c14), (88, .bool false), (89, .slice a_p0 p0.length c_p0), (90, .pointer (some ⟨b3, 0, none⟩))] rfl ⟨rfl, rfl, rfl, rfl, rfl, rfl, rfl, rfl, rfl, trivial⟩ ?_
                    refine WO_loadB tbok 0 rfl rfl rfl rfl (fun _ h => h) rfl rfl ?_
                    refine WO_pure tbok 1 [(0, .slice a_p0 p0.length c_p0), (2, .slice a_p2 p2.length c_p2), (4, .pointer (some ⟨b3, 0, none⟩)), (6, .bool false), (8, .int .i64 y_4), (9, .slice a13 ((y_5).length) c14), (88, .bool false), (89, .slice a_p0 p0.length c_p0), (91, .int .i64 p1_0), (92, .pointer (some ⟨b3, 1, none⟩))] rfl ⟨rfl, rfl, rfl, rfl, rfl, rfl, rfl, rfl, rfl, rfl, trivial⟩ ?_
                    refine WO_loadB tbok 0 rfl rfl rfl rfl (fun _ h => h) rfl rfl ?_
                    refine WO_pure tbok 2 [(0, .slice a_p0 p0.length c_p0), (2, .slice a_p2 p2.length c_p2), (4, .pointer (some ⟨b3, 0, none⟩)), (6, .bool false), (8, .int .i64 y_4), (88, .bool false), (89, .slice a_p0 p0.length c_p0), (91, .int .i64 p1_0), (93, .int .i64 p1_1), (94, .slice a13 ((y_5).length) c14), (95, .int .i64 y_4)] rfl ⟨rfl, rfl, rfl, rfl, rfl, rfl, rfl, rfl, rfl, rfl, rfl, trivial⟩ ?_
                    obtain ⟨y_16, hc50, hx32⟩ := bind_some hx32
                    refine WO_call0 (.int .i64 y_16) rfl rfl trivial rfl rfl rfl rfl St_closed ⟨15, #[], #[], rfl, callable_15, fun w hw => ⟨_, hw.sat, aggregate_Prove_walk (h_p0.mono (mono_RowE (mono_FE _) _) hle19) h21 hc50⟩⟩ ?_
                    refine WO_pure tbok 2 [(0, .slice a_p0 p0.length c_p0), (2, .slice a_p2 p2.length c_p2), (4, .pointer (some ⟨b3, 0, none⟩)), (6, .bool false), (8, .int .i64 y_4), (98, .bool (y_16 != 0))] rfl ⟨rfl, rfl, rfl, rfl, rfl, rfl, trivial⟩ ?_
                    refine WO_end ?_
                    cases hx32
                    refine WK.sub ?_ (WK.cls (fun _ h => h) hk33)
                    exact ⟨rfl, rfl, rfl, rfl, rfl, rfl, trivial⟩
    · refine WK_region ?_
      refine WO_pure tbok 1 [(0, .slice a_p0 p0.length c_p0), (2, .slice a_p2 p2.length c_p2), (4, .pointer (some ⟨b3, 0, none⟩)), (6, .bool false), (16, .slice a_p0 p0.length c_p0)] rfl ⟨rfl, rfl, rfl, rfl, rfl, trivial⟩ ?_
      obtain ⟨y_17, hc51, hx6⟩ := bind_some hx6
      refine WO_call0 (.bool y_17) rfl rfl trivial rfl rfl rfl rfl St_closed ⟨9, #[], #[], rfl, callable_9, fun w hw => ⟨_, hw.sat, fiduciallaw45_few_walk h_p0 hc51⟩⟩ ?_
      refine WO_pure tbok 2 [(0, .slice a_p0 p0.length c_p0), (2, .slice a_p2 p2.length c_p2), (4, .pointer (some ⟨b3, 0, none⟩)), (6, .bool false), (19, .bool (!y_17))] rfl ⟨rfl, rfl, rfl, rfl, rfl, trivial⟩ ?_
      refine WO_split (d := 19) (b := !y_17) rfl (fun hb52 => ?_) (fun hb52 => ?_)
      · have hx6 := ifT hb52 hx6
        refine WO_pure tbok 4 [(0, .slice a_p0 p0.length c_p0), (2, .slice a_p2 p2.length c_p2), (4, .pointer (some ⟨b3, 0, none⟩)), (6, .bool false), (23, .bool true)] rfl ⟨rfl, rfl, rfl, rfl, rfl, trivial⟩ ?_
        refine WO_end ?_
        cases hx6
        refine WK.sub ?_ (WK.cls (fun _ h => h) hk7)
        exact ⟨rfl, rfl, rfl, rfl, rfl, trivial⟩
      · have hx6 := ifF hb52 hx6
        refine WO_pure tbok 4 [(0, .slice a_p0 p0.length c_p0), (2, .slice a_p2 p2.length c_p2), (4, .pointer (some ⟨b3, 0, none⟩)), (6, .bool false), (23, .bool (decide (30 < (p2.length : Int))))] rfl ⟨rfl, rfl, rfl, rfl, rfl, trivial⟩ ?_
        refine WO_end ?_
        cases hx6
        refine WK.sub ?_ (WK.cls (fun _ h => h) hk7)
        exact ⟨rfl, rfl, rfl, rfl, rfl, trivial⟩
theorem fiduciallaw45_AggregateProofs_walk {m : Mu} {p0 : List (List Int)} {p1 : List (List Int)} {p2_0 : Int} {p2_1 : Int} {p2_2 : Int} {p2_3 : List Int} {a_p0 : Option Addr} {q_p0 c_p0 : Nat} {a_p1 : Option Addr} {q_p1 c_p1 : Nat} {a_p2_3 : Option Addr} {q_p2_3 c_p2_3 : Nat} (h_p0 : SlR (RowE (FE (I1 .i64)) 1) 1 m (.slice a_p0 q_p0 c_p0) p0) (h_p1 : SlR (RowE (FE (I1 .i64)) 1) 1 m (.slice a_p1 q_p1 c_p1) p1) (h_p2_3 : SlR (FE (I1 .i64)) 1 m (.slice a_p2_3 q_p2_3 c_p2_3) p2_3) {r : Bool} (hm : fiduciallaw45_AggregateProofs p0 p1 p2_0 p2_1 p2_2 p2_3 = some r) :
    Go.E.Spec Try.prog 4 [.slice a_p0 q_p0 c_p0, .slice a_p1 q_p1 c_p1, .agg #[.int .i64 p2_0, .int .i64 p2_1, .int .i64 p2_2, .slice a_p2_3 q_p2_3 c_p2_3]] m (fun v _ _ => v = .bool r) := by
  refine Spec_enter Try.func4 rfl rfl rfl (fun w0 => ?_)
  refine WK.sub (e' := [(0, .slice a_p0 q_p0 c_p0), (1, .slice a_p1 q_p1 c_p1), (2, .agg #[.int .i64 p2_0, .int .i64 p2_1, .int .i64 p2_2, .slice a_p2_3 q_p2_3 c_p2_3])]) ⟨rfl, rfl, rfl, trivial⟩ ?_
  obtain rfl := SlR.qlen h_p0
  obtain rfl := SlR.qlen h_p1
  obtain rfl := SlR.qlen h_p2_3
  refine WK.sub (e' := [(0, .slice a_p0 p0.length c_p0), (1, .slice a_p1 p1.length c_p1), (2, .agg #[.int .i64 p2_0, .int .i64 p2_1, .int .i64 p2_2, .slice a_p2_3 p2_3.length c_p2_3])]) ⟨rfl, rfl, rfl, trivial⟩ ?_
  unfold fiduciallaw45_AggregateProofs at hm
  refine WK_seq ?_
  refine WK_region ?_
  refine WO_box [.int .i64 p2_0, .int .i64 p2_1, .int .i64 p2_2, .slice a_p2_3 p2_3.length c_p2_3] rfl rfl trivial rfl rfl rfl (fun b4 => ?_)
  refine WO.cls (C' := St w0 m m [[⟨b4, 39, [.int .i64 p2_0, .int .i64 p2_1, .int .i64 p2_2, .slice a_p2_3 p2_3.length c_p2_3]⟩]]) (fun _ h => h) ?_
  refine WO_pure tbok 1 [(0, .slice a_p0 p0.length c_p0), (1, .slice a_p1 p1.length c_p1), (5, .pointer (some ⟨b4, 0, none⟩)), (6, .bool false)] rfl ⟨rfl, rfl, rfl, rfl, trivial⟩ ?_
  refine WO_end ?_
  refine WK_seq ?_
  refine WK_seq ?_
  refine WK_region ?_
  obtain ⟨y_1, hc5, hm⟩ := bind_some hm
  refine WO_call0 (.bool y_1) rfl rfl trivial rfl rfl rfl rfl St_closed ⟨8, #[], #[], rfl, callable_8, fun w hw => ⟨_, hw.sat, fiduciallaw45_known_walk hc5⟩⟩ ?_
  refine WO_pure tbok 1 [(0, .slice a_p0 p0.length c_p0), (1, .slice a_p1 p1.length c_p1), (5, .pointer (some ⟨b4, 0, none⟩)), (6, .bool false), (10, .bool (!y_1))] rfl ⟨rfl, rfl, rfl, rfl, rfl, trivial⟩ ?_
  refine WO_end ?_
  refine WK_cond (b := !y_1) rfl (fun hb6 => ?_) (fun hb6 => ?_)
  · have hm := ifT hb6 hm
    refine WK_seq ?_
    refine WK_region ?_
    refine WO_pure tbok 1 [(0, .slice a_p0 p0.length c_p0), (1, .slice a_p1 p1.length c_p1), (5, .pointer (some ⟨b4, 0, none⟩)), (6, .bool false)] rfl ⟨rfl, rfl, rfl, rfl, trivial⟩ ?_
    refine WO_end ?_
    cases hm
    exact WK_ret (ret_out (L := []) (RLc_tmp rfl RLc_nil) (List.nil_sublist _) rfl)
  · have hm := ifF hb6 hm
    refine WK_skip ?_
    refine WK_seq ?_
    refine WK_seq ?_
    obtain ⟨s_2, hx7, hm⟩ := bind_some hm
    refine WK_meet [(0, .slice a_p0 p0.length c_p0), (1, .slice a_p1 p1.length c_p1), (5, .pointer (some ⟨b4, 0, none⟩)), (6, .bool false), (24, .bool s_2)] (St w0 m m [[⟨b4, 39, [.int .i64 p2_0, .int .i64 p2_1, .int .i64 p2_2, .slice a_p2_3 p2_3.length c_p2_3]⟩]]) ?_ (fun hk8 => ?_)
    · refine WK_cond (b := s_2) rfl (fun hb9 => ?_) (fun hb9 => ?_)
      · have hm := ifT hb9 hm
        refine WK_seq ?_
        refine WK_region ?_
        refine WO_pure tbok 1 [(0, .slice a_p0 p0.length c_p0), (1, .slice a_p1 p1.length c_p1), (5, .pointer (some ⟨b4, 0, none⟩)), (6, .bool true)] rfl ⟨rfl, rfl, rfl, rfl, trivial⟩ ?_
        refine WO_end ?_
        cases hm
        exact WK_ret (ret_out (L := []) (RLc_tmp rfl RLc_nil) (List.nil_sublist _) rfl)
      · have hm := ifF hb9 hm
        refine WK_skip ?_
        refine WK_seq ?_
        refine WK_region ?_
        refine WO_pure tbok 2 [(0, .slice a_p0 p0.length c_p0), (1, .slice a_p1 p1.length c_p1), (5, .pointer (some ⟨b4, 0, none⟩)), (6, .bool false), (25, .slice a_p0 p0.length c_p0), (26, .pointer (some ⟨b4, 0, none⟩))] rfl ⟨rfl, rfl, rfl, rfl, rfl, rfl, trivial⟩ ?_
        refine WO_loadB tbok 0 rfl rfl rfl rfl (fun _ h => h) rfl rfl ?_
        refine WO_pure tbok 1 [(0, .slice a_p0 p0.length c_p0), (1, .slice a_p1 p1.length c_p1), (5, .pointer (some ⟨b4, 0, none⟩)), (6, .bool false), (25, .slice a_p0 p0.length c_p0), (27, .int .i64 p2_0), (28, .pointer (some ⟨b4, 1, none⟩))] rfl ⟨rfl, rfl, rfl, rfl, rfl, rfl, rfl, trivial⟩ ?_
        refine WO_loadB tbok 0 rfl rfl rfl rfl (fun _ h => h) rfl rfl ?_
        refine WO_pure tbok 2 [(0, .slice a_p0 p0.length c_p0), (1, .slice a_p1 p1.length c_p1), (5, .pointer (some ⟨b4, 0, none⟩)), (6, .bool false), (25, .slice a_p0 p0.length c_p0), (27, .int .i64 p2_0), (29, .int .i64 p2_1), (30, .slice a_p1 p1.length c_p1), (31, .pointer (some ⟨b4, 2, none⟩))] rfl ⟨rfl, rfl, rfl, rfl, rfl, rfl, rfl, rfl, rfl, trivial⟩ ?_
        refine WO_loadB tbok 0 rfl rfl rfl rfl (fun _ h => h) rfl rfl ?_
        obtain ⟨y_3, hc10, hm⟩ := bind_some hm
        refine WO_call0 (.int .i64 y_3) rfl rfl trivial rfl rfl rfl rfl St_closed ⟨15, #[], #[], rfl, callable_15, fun w hw => ⟨_, hw.sat, aggregate_Prove_walk h_p0 h_p1 hc10⟩⟩ ?_
        refine WO_pure tbok 1 [(0, .slice a_p0 p0.length c_p0), (1, .slice a_p1 p1.length c_p1), (5, .pointer (some ⟨b4, 0, none⟩)), (6, .bool false), (7, .int .i64 y_3)] rfl ⟨rfl, rfl, rfl, rfl, rfl, trivial⟩ ?_
        refine WO_end ?_
        refine WK_seq ?_
        refine WK_region ?_
        refine WO_pure tbok 2 [(0, .slice a_p0 p0.length c_p0), (1, .slice a_p1 p1.length c_p1), (5, .pointer (some ⟨b4, 0, none⟩)), (6, .bool false), (7, .int .i64 y_3), (34, .slice a_p0 p0.length c_p0), (35, .pointer (some ⟨b4, 0, none⟩))] rfl ⟨rfl, rfl, rfl, rfl, rfl, rfl, rfl, trivial⟩ ?_
        refine WO_loadB tbok 0 rfl rfl rfl rfl (fun _ h => h) rfl rfl ?_
        refine WO_pure tbok 1 [(0, .slice a_p0 p0.length c_p0), (1, .slice a_p1 p1.length c_p1), (5, .pointer (some ⟨b4, 0, none⟩)), (6, .bool false), (7, .int .i64 y_3), (34, .slice a_p0 p0.length c_p0), (36, .int .i64 p2_0), (37, .pointer (some ⟨b4, 1, none⟩))] rfl ⟨rfl, rfl, rfl, rfl, rfl, rfl, rfl, rfl, trivial⟩ ?_
        refine WO_loadB tbok 0 rfl rfl rfl rfl (fun _ h => h) rfl rfl ?_
        refine WO_pure tbok 1 [(0, .slice a_p0 p0.length c_p0), (1, .slice a_p1 p1.length c_p1), (5, .pointer (some ⟨b4, 0, none⟩)), (6, .bool false), (7, .int .i64 y_3), (34, .slice a_p0 p0.length c_p0), (39, .agg #[.int .i64 p2_0, .int .i64 p2_1])] rfl ⟨rfl, rfl, rfl, rfl, rfl, rfl, rfl, trivial⟩ ?_
        obtain ⟨y_4, hc11, hm⟩ := bind_some hm
        refine WO_call0 (.int .i64 y_4) rfl rfl trivial rfl rfl rfl rfl St_closed ⟨11, #[], #[], rfl, callable_11, fun w hw => ⟨_, hw.sat, fiduciallaw45_lined_walk h_p0 hc11⟩⟩ ?_
        refine WO_pure tbok 1 [(0, .slice a_p0 p0.length c_p0), (1, .slice a_p1 p1.length c_p1), (5, .pointer (some ⟨b4, 0, none⟩)), (6, .bool false), (7, .int .i64 y_3), (8, .int .i64 y_4)] rfl ⟨rfl, rfl, rfl, rfl, rfl, rfl, trivial⟩ ?_
        refine WO_end ?_
        refine WK_seq ?_
        refine WK_seq ?_
        refine WK_region ?_
        refine WO_pure tbok 2 [(0, .slice a_p0 p0.length c_p0), (1, .slice a_p1 p1.length c_p1), (5, .pointer (some ⟨b4, 0, none⟩)), (6, .bool false), (7, .int .i64 y_3), (8, .int .i64 y_4), (42, .bool (y_4 == 0))] rfl ⟨rfl, rfl, rfl, rfl, rfl, rfl, rfl, trivial⟩ ?_
        refine WO_end ?_
        obtain ⟨s_5, hx12, hm⟩ := bind_some hm
        refine WK_meet [(0, .slice a_p0 p0.length c_p0), (5, .pointer (some ⟨b4, 0, none⟩)), (6, .bool false), (7, .int .i64 y_3), (8, .int .i64 s_5)] (St w0 m m [[⟨b4, 39, [.int .i64 p2_0, .int .i64 p2_1, .int .i64 p2_2, .slice a_p2_3 p2_3.length c_p2_3]⟩]]) ?_ (fun hk13 => ?_)
        · refine WK_seq ?_
          refine WK_seq ?_
          refine WK_region ?_
          refine WO_pure tbok 3 [(0, .slice a_p0 p0.length c_p0), (5, .pointer (some ⟨b4, 0, none⟩)), (6, .bool false), (7, .int .i64 y_3), (54, .bool (y_3 != s_5))] rfl ⟨rfl, rfl, rfl, rfl, rfl, trivial⟩ ?_
          refine WO_end ?_
          refine WK_cond (b := y_3 != s_5) rfl (fun hb14 => ?_) (fun hb14 => ?_)
          · have hm := ifT hb14 hm
            refine WK_seq ?_
            refine WK_region ?_
            refine WO_pure tbok 1 [(0, .slice a_p0 p0.length c_p0), (5, .pointer (some ⟨b4, 0, none⟩)), (6, .bool false), (7, .int .i64 y_3)] rfl ⟨rfl, rfl, rfl, rfl, trivial⟩ ?_
            refine WO_end ?_
            cases hm
            exact WK_ret (ret_out (L := []) (RLc_tmp rfl RLc_nil) (List.nil_sublist _) rfl)
          · have hm := ifF hb14 hm
            refine WK_skip ?_
            refine WK_seq ?_
            refine WK_draw 28 [0, 1, 2, 3, 4, 5, 6, 7, 8, 9, 10, 11, 12, 13, 14, 15, 16, 17, 18, 19, 20, 21, 23, 24, 22, 25, 26, 27] follows_ok (by kernel_rfl) St_closed ?_
            refine WO_pure tbok 3 [(0, .slice a_p0 p0.length c_p0), (5, .pointer (some ⟨b4, 0, none⟩)), (6, .bool false), (57, .bool (y_3 != 0))] rfl ⟨rfl, rfl, rfl, rfl, trivial⟩ ?_
            refine WO_split (d := 57) (b := y_3 != 0) rfl (fun hb15 => ?_) (fun hb15 => ?_)
            · have hm := ifT hb15 hm
              refine WO_pure tbok 8 [(0, .slice a_p0 p0.length c_p0), (5, .pointer (some ⟨b4, 0, none⟩)), (6, .bool false), (57, .bool true)] rfl ⟨rfl, rfl, rfl, rfl, trivial⟩ ?_
              refine WO_skip rfl rfl ?_
              refine WO_pure tbok 12 [(6, .bool false), (69, .bool true)] rfl ⟨rfl, rfl, trivial⟩ ?_
              refine WO_skip rfl rfl ?_
              refine WO_pure tbok 3 [(6, .bool true)] rfl ⟨rfl, trivial⟩ ?_
              refine WO_tail ?_
              refine WO_end ?_
              cases hm
              exact WK_ret (ret_out (L := []) (RLc_tmp rfl RLc_nil) (List.nil_sublist _) rfl)
            · have hm := ifF hb15 hm
              refine WO_pure tbok 1 [(0, .slice a_p0 p0.length c_p0), (5, .pointer (some ⟨b4, 0, none⟩)), (6, .bool false), (57, .bool false), (58, .pointer (some ⟨b4, 3, none⟩))] rfl ⟨rfl, rfl, rfl, rfl, rfl, trivial⟩ ?_
              refine WO_loadB tbok 0 rfl rfl rfl rfl (fun _ h => h) rfl rfl ?_
              refine WO_pure tbok 3 [(0, .slice a_p0 p0.length c_p0), (5, .pointer (some ⟨b4, 0, none⟩)), (6, .bool false), (57, .bool false), (59, .slice a_p2_3 p2_3.length c_p2_3), (61, .int .i64 (p0.length : Int)), (62, .slice a_p0 p0.length c_p0)] rfl ⟨rfl, rfl, rfl, rfl, rfl, rfl, rfl, trivial⟩ ?_
              obtain ⟨v_6, hy16, hm⟩ := bind_some hm
              obtain ⟨hc17, hy16⟩ := ix_some hy16
              refine WO_index tbok rfl rfl rfl rfl rfl rfl rfl rfl (SlR.addr h_p0) hc17 ?_
              refine WO_loadR tbok rfl rfl rfl rfl (fun _ h => St.sat h) h_p0 hy16 rfl rfl (fun a18 c19 h20 => ?_)
              refine WO_pure tbok 1 [(0, .slice a_p0 p0.length c_p0), (5, .pointer (some ⟨b4, 0, none⟩)), (6, .bool false), (57, .bool false), (59, .slice a_p2_3 p2_3.length c_p2_3), (61, .int .i64 (p0.length : Int)), (65, .int .i64 ((v_6).length : Int))] rfl ⟨rfl, rfl, rfl, rfl, rfl, rfl, rfl, trivial⟩ ?_
              obtain ⟨y_7, hc22, hm⟩ := bind_some hm
              refine WO_call0 (.int .i64 y_7) rfl rfl St_closed rfl rfl rfl rfl St_closed ⟨16, #[], #[], rfl, callable_16, fun w hw => ⟨_, hw.sat, fiduciallaw45_labelled_walk h_p2_3 hc22⟩⟩ ?_
              refine WO_pure tbok 3 [(0, .slice a_p0 p0.length c_p0), (5, .pointer (some ⟨b4, 0, none⟩)), (6, .bool false), (69, .bool (y_7 != 0))] rfl ⟨rfl, rfl, rfl, rfl, trivial⟩ ?_
              refine WO_split (d := 69) (b := y_7 != 0) rfl (fun hb23 => ?_) (fun hb23 => ?_)
              · have hm := ifT hb23 hm
                refine WO_pure tbok 9 [(6, .bool false), (69, .bool true)] rfl ⟨rfl, rfl, trivial⟩ ?_
                refine WO_skip rfl rfl ?_
                refine WO_pure tbok 3 [(6, .bool true)] rfl ⟨rfl, trivial⟩ ?_
                refine WO_tail ?_
                refine WO_end ?_
                cases hm
                exact WK_ret (ret_out (L := []) (RLc_tmp rfl RLc_nil) (List.nil_sublist _) rfl)
              · have hm := ifF hb23 hm
                refine WO_pure tbok 2 [(5, .pointer (some ⟨b4, 0, none⟩)), (6, .bool false), (69, .bool false), (70, .slice a_p0 p0.length c_p0), (71, .pointer (some ⟨b4, 0, none⟩))] rfl ⟨rfl, rfl, rfl, rfl, rfl, trivial⟩ ?_
                refine WO_loadB tbok 0 rfl rfl rfl rfl (fun _ h => h) rfl rfl ?_
                refine WO_pure tbok 1 [(5, .pointer (some ⟨b4, 0, none⟩)), (6, .bool false), (69, .bool false), (70, .slice a_p0 p0.length c_p0), (72, .int .i64 p2_0), (73, .pointer (some ⟨b4, 1, none⟩))] rfl ⟨rfl, rfl, rfl, rfl, rfl, rfl, trivial⟩ ?_
                refine WO_loadB tbok 0 rfl rfl rfl rfl (fun _ h => h) rfl rfl ?_
                refine WO_pure tbok 1 [(5, .pointer (some ⟨b4, 0, none⟩)), (6, .bool false), (69, .bool false), (70, .slice a_p0 p0.length c_p0), (72, .int .i64 p2_0), (74, .int .i64 p2_1), (75, .pointer (some ⟨b4, 3, none⟩))] rfl ⟨rfl, rfl, rfl, rfl, rfl, rfl, rfl, trivial⟩ ?_
                refine WO_loadB tbok 0 rfl rfl rfl rfl (fun _ h => h) rfl rfl ?_
                refine WO_pure tbok 1 [(6, .bool false), (69, .bool false), (70, .slice a_p0 p0.length c_p0), (72, .int .i64 p2_0), (74, .int .i64 p2_1), (76, .slice a_p2_3 p2_3.length c_p2_3), (78, .pointer (some ⟨b4, 2, none⟩))] rfl ⟨rfl, rfl, rfl, rfl, rfl, rfl, rfl, trivial⟩ ?_
                refine WO_loadB tbok 0 rfl rfl rfl rfl (fun _ h => h) rfl rfl ?_
                obtain ⟨y_8, hc24, hm⟩ := bind_some hm
                refine WO_call0 (.int .i64 y_8) rfl rfl St_closed rfl rfl rfl rfl St_closed ⟨17, #[], #[], rfl, callable_17, fun w hw => ⟨_, hw.sat, fiduciallaw45_energy_walk h_p0 h_p2_3 hc24⟩⟩ ?_
                refine WO_pure tbok 3 [(6, .bool (decide (p2_2 ≤ y_8)))] rfl ⟨rfl, trivial⟩ ?_
                refine WO_tail ?_
                refine WO_end ?_
                cases hm
                exact WK_ret (ret_out (L := []) (RLc_tmp rfl RLc_nil) (List.nil_sublist _) rfl)
        · refine WK_cond (b := y_4 == 0) rfl (fun hb25 => ?_) (fun hb25 => ?_)
          · have hx12 := ifT hb25 hx12
            refine WK_region ?_
            refine WO_pure tbok 2 [(0, .slice a_p0 p0.length c_p0), (1, .slice a_p1 p1.length c_p1), (5, .pointer (some ⟨b4, 0, none⟩)), (6, .bool false), (7, .int .i64 y_3), (8, .int .i64 y_4), (43, .slice a_p0 p0.length c_p0), (44, .pointer (some ⟨b4, 0, none⟩))] rfl ⟨rfl, rfl, rfl, rfl, rfl, rfl, rfl, rfl, trivial⟩ ?_
            refine WO_loadB tbok 0 rfl rfl rfl rfl (fun _ h => h) rfl rfl ?_
            refine WO_pure tbok 1 [(0, .slice a_p0 p0.length c_p0), (1, .slice a_p1 p1.length c_p1), (5, .pointer (some ⟨b4, 0, none⟩)), (6, .bool false), (7, .int .i64 y_3), (8, .int .i64 y_4), (43, .slice a_p0 p0.length c_p0), (45, .int .i64 p2_0), (46, .pointer (some ⟨b4, 1, none⟩))] rfl ⟨rfl, rfl, rfl, rfl, rfl, rfl, rfl, rfl, rfl, trivial⟩ ?_
            refine WO_loadB tbok 0 rfl rfl rfl rfl (fun _ h => h) rfl rfl ?_
            refine WO_pure tbok 2 [(0, .slice a_p0 p0.length c_p0), (5, .pointer (some ⟨b4, 0, none⟩)), (6, .bool false), (7, .int .i64 y_3), (8, .int .i64 y_4), (43, .slice a_p0 p0.length c_p0), (45, .int .i64 p2_0), (47, .int .i64 p2_1), (48, .slice a_p1 p1.length c_p1), (49, .pointer (some ⟨b4, 2, none⟩))] rfl ⟨rfl, rfl, rfl, rfl, rfl, rfl, rfl, rfl, rfl, rfl, trivial⟩ ?_
            refine WO_loadB tbok 0 rfl rfl rfl rfl (fun _ h => h) rfl rfl ?_
            obtain ⟨y_9, hc26, hx12⟩ := bind_some hx12
            refine WO_call0 (.int .i64 y_9) rfl rfl trivial rfl rfl rfl rfl St_closed ⟨14, #[], #[], rfl, callable_14, fun w hw => ⟨_, hw.sat, fiduciallaw45_proves_walk h_p0 h_p1 hc26⟩⟩ ?_
            refine WO_pure tbok 1 [(0, .slice a_p0 p0.length c_p0), (5, .pointer (some ⟨b4, 0, none⟩)), (6, .bool false), (7, .int .i64 y_3), (8, .int .i64 y_9)] rfl ⟨rfl, rfl, rfl, rfl, rfl, trivial⟩ ?_
            refine WO_end ?_
            cases hx12
            refine WK.sub ?_ (WK.cls (fun _ h => h) hk13)
            exact ⟨rfl, rfl, rfl, rfl, rfl, trivial⟩
          · have hx12 := ifF hb25 hx12
            refine WK_skip ?_
            cases hx12
            refine WK.sub ?_ (WK.cls (fun _ h => h) hk13)
            exact ⟨rfl, rfl, rfl, rfl, rfl, trivial⟩
    · refine WK_region ?_
      refine WO_pure tbok 1 [(0, .slice a_p0 p0.length c_p0), (1, .slice a_p1 p1.length c_p1), (5, .pointer (some ⟨b4, 0, none⟩)), (6, .bool false), (11, .slice a_p0 p0.length c_p0)] rfl ⟨rfl, rfl, rfl, rfl, rfl, trivial⟩ ?_
      obtain ⟨y_10, hc27, hx7⟩ := bind_some hx7
      refine WO_call0 (.bool y_10) rfl rfl trivial rfl rfl rfl rfl St_closed ⟨9, #[], #[], rfl, callable_9, fun w hw => ⟨_, hw.sat, fiduciallaw45_few_walk h_p0 hc27⟩⟩ ?_
      refine WO_pure tbok 2 [(0, .slice a_p0 p0.length c_p0), (1, .slice a_p1 p1.length c_p1), (5, .pointer (some ⟨b4, 0, none⟩)), (6, .bool false), (14, .bool (!y_10))] rfl ⟨rfl, rfl, rfl, rfl, rfl, trivial⟩ ?_
      refine WO_split (d := 14) (b := !y_10) rfl (fun hb28 => ?_) (fun hb28 => ?_)
      · have hx7 := ifT hb28 hx7
        refine WO_pure tbok 1 [(0, .slice a_p0 p0.length c_p0), (1, .slice a_p1 p1.length c_p1), (5, .pointer (some ⟨b4, 0, none⟩)), (6, .bool false), (14, .bool true)] rfl ⟨rfl, rfl, rfl, rfl, rfl, trivial⟩ ?_
        refine WO_skip rfl rfl ?_
        refine WO_pure tbok 8 [(0, .slice a_p0 p0.length c_p0), (1, .slice a_p1 p1.length c_p1), (5, .pointer (some ⟨b4, 0, none⟩)), (6, .bool false), (24, .bool true)] rfl ⟨rfl, rfl, rfl, rfl, rfl, trivial⟩ ?_
        refine WO_end ?_
        cases hx7
        refine WK.sub ?_ (WK.cls (fun _ h => h) hk8)
        exact ⟨rfl, rfl, rfl, rfl, rfl, trivial⟩
      · have hx7 := ifF hb28 hx7
        refine WO_pure tbok 1 [(0, .slice a_p0 p0.length c_p0), (1, .slice a_p1 p1.length c_p1), (5, .pointer (some ⟨b4, 0, none⟩)), (6, .bool false), (14, .bool false), (15, .slice a_p1 p1.length c_p1)] rfl ⟨rfl, rfl, rfl, rfl, rfl, rfl, trivial⟩ ?_
        obtain ⟨y_11, hc29, hx7⟩ := bind_some hx7
        refine WO_call0 (.bool y_11) rfl rfl trivial rfl rfl rfl rfl St_closed ⟨9, #[], #[], rfl, callable_9, fun w hw => ⟨_, hw.sat, fiduciallaw45_few_walk h_p1 hc29⟩⟩ ?_
        refine WO_pure tbok 3 [(0, .slice a_p0 p0.length c_p0), (1, .slice a_p1 p1.length c_p1), (5, .pointer (some ⟨b4, 0, none⟩)), (6, .bool false), (19, .bool (!y_11))] rfl ⟨rfl, rfl, rfl, rfl, rfl, trivial⟩ ?_
        refine WO_split (d := 19) (b := !y_11) rfl (fun hb30 => ?_) (fun hb30 => ?_)
        · have hx7 := ifT hb30 hx7
          refine WO_pure tbok 5 [(0, .slice a_p0 p0.length c_p0), (1, .slice a_p1 p1.length c_p1), (5, .pointer (some ⟨b4, 0, none⟩)), (6, .bool false), (24, .bool true)] rfl ⟨rfl, rfl, rfl, rfl, rfl, trivial⟩ ?_
          refine WO_end ?_
          cases hx7
          refine WK.sub ?_ (WK.cls (fun _ h => h) hk8)
          exact ⟨rfl, rfl, rfl, rfl, rfl, trivial⟩
        · have hx7 := ifF hb30 hx7
          refine WO_pure tbok 1 [(0, .slice a_p0 p0.length c_p0), (1, .slice a_p1 p1.length c_p1), (5, .pointer (some ⟨b4, 0, none⟩)), (6, .bool false), (19, .bool false), (20, .pointer (some ⟨b4, 3, none⟩))] rfl ⟨rfl, rfl, rfl, rfl, rfl, rfl, trivial⟩ ?_
          refine WO_loadB tbok 0 rfl rfl rfl rfl (fun _ h => h) rfl rfl ?_
          refine WO_pure tbok 3 [(0, .slice a_p0 p0.length c_p0), (1, .slice a_p1 p1.length c_p1), (5, .pointer (some ⟨b4, 0, none⟩)), (6, .bool false), (24, .bool (decide (30 < (p2_3.length : Int))))] rfl ⟨rfl, rfl, rfl, rfl, rfl, trivial⟩ ?_
          refine WO_end ?_
          cases hx7
          refine WK.sub ?_ (WK.cls (fun _ h => h) hk8)
          exact ⟨rfl, rfl, rfl, rfl, rfl, trivial⟩
theorem aggregate_labelled_c1_walk {m : Mu} {p0 : Int} {q0_0 : Int} {b_q0 : Nat} (hb_q0 : m b_q0 = some (Ent.obj ⟨b_q0, 3, [.int .i64 q0_0]⟩)) {r : Bool} (hm : aggregate_labelled_c1 p0 q0_0 = some r) :
    Go.E.Spec Try.prog 60 [.int .i64 p0, .pointer (some ⟨b_q0, 0, none⟩)] m (fun v _ _ => v = .bool r) := by
  refine Spec_enter Try.func60 rfl rfl rfl (fun w0 => ?_)
  refine WK.sub (e' := [(0, .int .i64 p0), (1, .pointer (some ⟨b_q0, 0, none⟩))]) ⟨rfl, rfl, trivial⟩ ?_
  refine WK.sub (e' := [(0, .int .i64 p0), (1, .pointer (some ⟨b_q0, 0, none⟩))]) ⟨rfl, rfl, trivial⟩ ?_
  unfold aggregate_labelled_c1 at hm
  refine WK_seq ?_
  refine WK_region ?_
  refine WO_pure tbok 1 [(0, .int .i64 p0), (1, .pointer (some ⟨b_q0, 0, none⟩)), (3, .bool false)] rfl ⟨rfl, rfl, rfl, trivial⟩ ?_
  refine WO_end ?_
  refine WK_seq ?_
  refine WK_region ?_
  refine WO_pure tbok 3 [(0, .int .i64 p0), (1, .pointer (some ⟨b_q0, 0, none⟩)), (3, .bool false), (6, .bool (decide (p0 < 0)))] rfl ⟨rfl, rfl, rfl, rfl, trivial⟩ ?_
  refine WO_split (d := 6) (b := decide (p0 < 0)) rfl (fun hb1 => ?_) (fun hb1 => ?_)
  · have hm := ifT hb1 hm
    refine WO_pure tbok 5 [(3, .bool true)] rfl ⟨rfl, trivial⟩ ?_
    refine WO_end ?_
    cases hm
    exact WK_ret (ret_out (L := []) (RLc_tmp rfl RLc_nil) (List.nil_sublist _) rfl)
  · have hm := ifF hb1 hm
    refine WO_pure tbok 1 [(1, .pointer (some ⟨b_q0, 0, none⟩)), (3, .bool false), (6, .bool false), (7, .int .i64 p0)] rfl ⟨rfl, rfl, rfl, rfl, trivial⟩ ?_
    refine WO_loadM tbok rfl rfl rfl rfl (fun _ h => St.sat h) hb_q0 rfl ?_
    refine WO_pure tbok 3 [(3, .bool (decide (q0_0 ≤ p0)))] rfl ⟨rfl, trivial⟩ ?_
    refine WO_end ?_
    cases hm
    exact WK_ret (ret_out (L := []) (RLc_tmp rfl RLc_nil) (List.nil_sublist _) rfl)
theorem aggregate_labelled_walk {m : Mu} {p0 : List Int} {p1 : Int} {p2 : Int} {a_p0 : Option Addr} {q_p0 c_p0 : Nat} (h_p0 : SlR (FE (I1 .i64)) 1 m (.slice a_p0 q_p0 c_p0) p0) {r : Int} (hm : aggregate_labelled p0 p1 p2 = some r) :
    Go.E.Spec Try.prog 46 [.slice a_p0 q_p0 c_p0, .int .i64 p1, .int .i64 p2] m (fun v _ _ => v = .int .i64 r) := by
  refine Spec_enter Try.func46 rfl rfl rfl (fun w0 => ?_)
  refine WK.sub (e' := [(0, .slice a_p0 q_p0 c_p0), (1, .int .i64 p1), (2, .int .i64 p2)]) ⟨rfl, rfl, rfl, trivial⟩ ?_
  obtain rfl := SlR.qlen h_p0
  refine WK.sub (e' := [(0, .slice a_p0 p0.length c_p0), (1, .int .i64 p1), (2, .int .i64 p2)]) ⟨rfl, rfl, rfl, trivial⟩ ?_
  unfold aggregate_labelled at hm
  refine WK_seq ?_
  refine WK_region ?_
  refine WO_box [.int .i64 p2] rfl rfl trivial rfl rfl rfl (fun b2 => ?_)
  refine WO.cls (C' := St w0 m m [[⟨b2, 3, [.int .i64 p2]⟩]]) (fun _ h => h) ?_
  refine WO_pure tbok 1 [(0, .slice a_p0 p0.length c_p0), (1, .int .i64 p1), (5, .pointer (some ⟨b2, 0, none⟩)), (6, .int .i64 0)] rfl ⟨rfl, rfl, rfl, rfl, trivial⟩ ?_
  refine WO_end ?_
  refine WK_seq ?_
  refine WK_block ?_
  refine WK_seq ?_
  refine WK_region ?_
  refine WO_pure tbok 5 [(0, .slice a_p0 p0.length c_p0), (5, .pointer (some ⟨b2, 0, none⟩)), (6, .int .i64 0), (7, .bool ((p0.length : Int) != p1))] rfl ⟨rfl, rfl, rfl, rfl, trivial⟩ ?_
  refine WO_end ?_
  refine WK_cond (b := (p0.length : Int) != p1) rfl (fun hb3 => ?_) (fun hb3 => ?_)
  · have hm := ifT hb3 hm
    refine WK_seq ?_
    refine WK_region ?_
    refine WO_pure tbok 1 [(6, .int .i64 4)] rfl ⟨rfl, trivial⟩ ?_
    refine WO_end ?_
    cases hm
    exact WK_ret (ret_out (L := []) (RLc_tmp rfl RLc_nil) (List.nil_sublist _) rfl)
  · have hm := ifF hb3 hm
    refine WK_seq ?_
    refine WK_region ?_
    refine WO_pure tbok 2 [(6, .int .i64 0), (13, .slice a_p0 p0.length c_p0), (14, .func (.func 60) #[] #[.pointer (some ⟨b2, 0, none⟩)])] rfl ⟨rfl, rfl, rfl, trivial⟩ ?_
    obtain ⟨y_2, hc4, hm⟩ := bind_some hm
    refine WO_call0 (.bool y_2) rfl rfl trivial rfl rfl rfl rfl St_closed ⟨43, #[], #[], rfl, callable_43, fun w hw => ⟨_, hw.satV, slices_ContainsFunc_sint_walk (h_p0.mono (mono_FE _) hw.leV) (fun m1 hm1 z_1 _ h => specV_cap callable_60 (aggregate_labelled_c1_walk (hm1 _ _ (hw.memV (i := 0) rfl (List.mem_singleton.2 rfl))) h)) hc4⟩⟩ ?_
    refine WO_pure tbok 1 [(6, .int .i64 0), (12, .bool y_2)] rfl ⟨rfl, rfl, trivial⟩ ?_
    refine WO_end ?_
    refine WK_cond (b := y_2) rfl (fun hb5 => ?_) (fun hb5 => ?_)
    · have hm := ifT hb5 hm
      refine WK_seq ?_
      refine WK_region ?_
      refine WO_pure tbok 1 [(6, .int .i64 2)] rfl ⟨rfl, trivial⟩ ?_
      refine WO_end ?_
      cases hm
      exact WK_ret (ret_out (L := []) (RLc_tmp rfl RLc_nil) (List.nil_sublist _) rfl)
    · have hm := ifF hb5 hm
      refine WK_skip ?_
      refine WK_blk ?_
      refine WK_seq ?_
      refine WK_region ?_
      refine WO_pure tbok 1 [(6, .int .i64 0)] rfl ⟨rfl, trivial⟩ ?_
      refine WO_end ?_
      cases hm
      exact WK_ret (ret_out (L := []) (RLc_tmp rfl RLc_nil) (List.nil_sublist _) rfl)
theorem aggregate_Energy_walk {m : Mu} {p0 : List (List Int)} {p1 : Int} {p2 : Int} {p3 : List Int} {a_p0 : Option Addr} {q_p0 c_p0 : Nat} {a_p3 : Option Addr} {q_p3 c_p3 : Nat} (h_p0 : SlR (RowE (FE (I1 .i64)) 1) 1 m (.slice a_p0 q_p0 c_p0) p0) (h_p3 : SlR (FE (I1 .i64)) 1 m (.slice a_p3 q_p3 c_p3) p3) {r : Int × Int} (hm : aggregate_Energy p0 p1 p2 p3 = some r) :
    Go.E.Spec Try.prog 22 [.slice a_p0 q_p0 c_p0, .int .i64 p1, .int .i64 p2, .slice a_p3 q_p3 c_p3] m (fun v _ _ => v = .tuple #[.int .i64 r.1, .int .i64 r.2]) := by
  refine Spec_enter Try.func22 rfl rfl rfl (fun w0 => ?_)
  refine WK.sub (e' := [(0, .slice a_p0 q_p0 c_p0), (1, .int .i64 p1), (2, .int .i64 p2), (3, .slice a_p3 q_p3 c_p3)]) ⟨rfl, rfl, rfl, rfl, trivial⟩ ?_
  obtain rfl := SlR.qlen h_p0
  obtain rfl := SlR.qlen h_p3
  refine WK.sub (e' := [(0, .slice a_p0 p0.length c_p0), (1, .int .i64 p1), (2, .int .i64 p2), (3, .slice a_p3 p3.length c_p3)]) ⟨rfl, rfl, rfl, rfl, trivial⟩ ?_
  unfold aggregate_Energy at hm
  refine WK_seq ?_
  refine WK_region ?_
  refine WO_pure tbok 2 [(0, .slice a_p0 p0.length c_p0), (1, .int .i64 p1), (2, .int .i64 p2), (3, .slice a_p3 p3.length c_p3), (8, .int .i64 0), (9, .int .i64 0)] rfl ⟨rfl, rfl, rfl, rfl, rfl, rfl, trivial⟩ ?_
  refine WO_end ?_
  refine WK_seq ?_
  refine WK_seq ?_
  refine WK_region ?_
  refine WO_pure tbok 3 [(0, .slice a_p0 p0.length c_p0), (1, .int .i64 p1), (2, .int .i64 p2), (3, .slice a_p3 p3.length c_p3), (8, .int .i64 0), (9, .int .i64 0), (15, .slice a_p0 p0.length c_p0), (16, .int .i64 p1), (17, .int .i64 p2)] rfl ⟨rfl, rfl, rfl, rfl, rfl, rfl, rfl, rfl, rfl, trivial⟩ ?_
  obtain ⟨y_1, hc3, hm⟩ := bind_some hm
  refine WO_call0 (.int .i64 y_1) rfl rfl trivial rfl rfl rfl rfl St_closed ⟨31, #[], #[], rfl, callable_31, fun w hw => ⟨_, hw.sat, aggregate_checked_walk h_p0 hc3⟩⟩ ?_
  refine WO_pure tbok 1 [(0, .slice a_p0 p0.length c_p0), (1, .int .i64 p1), (2, .int .i64 p2), (3, .slice a_p3 p3.length c_p3), (8, .int .i64 0), (9, .int .i64 0), (10, .int .i64 y_1)] rfl ⟨rfl, rfl, rfl, rfl, rfl, rfl, rfl, trivial⟩ ?_
  refine WO_end ?_
  refine WK_seq ?_
  refine WK_region ?_
  refine WO_pure tbok 2 [(0, .slice a_p0 p0.length c_p0), (1, .int .i64 p1), (2, .int .i64 p2), (3, .slice a_p3 p3.length c_p3), (8, .int .i64 0), (9, .int .i64 0), (10, .int .i64 y_1), (20, .bool (y_1 != 0))] rfl ⟨rfl, rfl, rfl, rfl, rfl, rfl, rfl, rfl, trivial⟩ ?_
  refine WO_end ?_
  refine WK_cond (b := y_1 != 0) rfl (fun hb4 => ?_) (fun hb4 => ?_)
  · have hm := ifT hb4 hm
    refine WK_seq ?_
    refine WK_region ?_
    refine WO_pure tbok 3 [(0, .slice a_p0 p0.length c_p0), (1, .int .i64 p1), (2, .int .i64 p2), (3, .slice a_p3 p3.length c_p3), (8, .int .i64 0), (9, .int .i64 y_1)] rfl ⟨rfl, rfl, rfl, rfl, rfl, rfl, trivial⟩ ?_
    refine WO_end ?_
    cases hm
    exact WK_ret (ret_out (L := []) (RLc_tmp rfl (RLc_tmp rfl RLc_nil)) (List.nil_sublist _) rfl)
  · have hm := ifF hb4 hm
    refine WK_skip ?_
    refine WK_seq ?_
    refine WK_seq ?_
    refine WK_region ?_
    refine WO_pure tbok 4 [(0, .slice a_p0 p0.length c_p0), (1, .int .i64 p1), (2, .int .i64 p2), (3, .slice a_p3 p3.length c_p3), (8, .int .i64 0), (9, .int .i64 0), (22, .slice a_p3 p3.length c_p3), (24, .int .i64 (p0.length : Int)), (25, .slice a_p0 p0.length c_p0)] rfl ⟨rfl, rfl, rfl, rfl, rfl, rfl, rfl, rfl, rfl, trivial⟩ ?_
    obtain ⟨v_2, hy5, hm⟩ := bind_some hm
    obtain ⟨hc6, hy5⟩ := ix_some hy5
    refine WO_index tbok rfl rfl rfl rfl rfl rfl rfl rfl (SlR.addr h_p0) hc6 ?_
    refine WO_loadR tbok rfl rfl rfl rfl (fun _ h => St.sat h) h_p0 hy5 rfl rfl (fun a7 c8 h9 => ?_)
    refine WO_pure tbok 1 [(0, .slice a_p0 p0.length c_p0), (1, .int .i64 p1), (2, .int .i64 p2), (3, .slice a_p3 p3.length c_p3), (8, .int .i64 0), (9, .int .i64 0), (22, .slice a_p3 p3.length c_p3), (24, .int .i64 (p0.length : Int)), (28, .int .i64 ((v_2).length : Int))] rfl ⟨rfl, rfl, rfl, rfl, rfl, rfl, rfl, rfl, rfl, trivial⟩ ?_
    obtain ⟨y_3, hc11, hm⟩ := bind_some hm
    refine WO_call0 (.int .i64 y_3) rfl rfl trivial rfl rfl rfl rfl St_closed ⟨46, #[], #[], rfl, callable_46, fun w hw => ⟨_, hw.sat, aggregate_labelled_walk h_p3 hc11⟩⟩ ?_
    refine WO_pure tbok 1 [(0, .slice a_p0 p0.length c_p0), (1, .int .i64 p1), (2, .int .i64 p2), (3, .slice a_p3 p3.length c_p3), (8, .int .i64 0), (9, .int .i64 0), (11, .int .i64 y_3)] rfl ⟨rfl, rfl, rfl, rfl, rfl, rfl, rfl, trivial⟩ ?_
    refine WO_end ?_
    refine WK_seq ?_
    refine WK_region ?_
    refine WO_pure tbok 2 [(0, .slice a_p0 p0.length c_p0), (1, .int .i64 p1), (2, .int .i64 p2), (3, .slice a_p3 p3.length c_p3), (8, .int .i64 0), (9, .int .i64 0), (11, .int .i64 y_3), (31, .bool (y_3 != 0))] rfl ⟨rfl, rfl, rfl, rfl, rfl, rfl, rfl, rfl, trivial⟩ ?_
    refine WO_end ?_
    refine WK_cond (b := y_3 != 0) rfl (fun hb12 => ?_) (fun hb12 => ?_)
    · have hm := ifT hb12 hm
      refine WK_seq ?_
      refine WK_region ?_
      refine WO_pure tbok 3 [(0, .slice a_p0 p0.length c_p0), (1, .int .i64 p1), (2, .int .i64 p2), (3, .slice a_p3 p3.length c_p3), (8, .int .i64 0), (9, .int .i64 y_3)] rfl ⟨rfl, rfl, rfl, rfl, rfl, rfl, trivial⟩ ?_
      refine WO_end ?_
      cases hm
      exact WK_ret (ret_out (L := []) (RLc_tmp rfl (RLc_tmp rfl RLc_nil)) (List.nil_sublist _) rfl)
    · have hm := ifF hb12 hm
      refine WK_skip ?_
      refine WK_seq ?_
      refine WK_region ?_
      refine WO_pure tbok 1 [(0, .slice a_p0 p0.length c_p0), (1, .int .i64 p1), (2, .int .i64 p2), (3, .slice a_p3 p3.length c_p3), (8, .int .i64 0), (9, .int .i64 0), (12, .int .i64 0)] rfl ⟨rfl, rfl, rfl, rfl, rfl, rfl, rfl, trivial⟩ ?_
      refine WO_end ?_
      refine WK_seq ?_
      refine WK_seq ?_
      refine WK_region ?_
      refine WO_pure tbok 3 [(0, .slice a_p0 p0.length c_p0), (1, .int .i64 p1), (2, .int .i64 p2), (3, .slice a_p3 p3.length c_p3), (8, .int .i64 0), (9, .int .i64 0), (12, .int .i64 0), (33, .slice a_p3 p3.length c_p3), (34, .int .i64 (p3.length : Int)), (35, .int .i64 0)] rfl ⟨rfl, rfl, rfl, rfl, rfl, rfl, rfl, rfl, rfl, rfl, trivial⟩ ?_
      refine WO_end ?_
      obtain ⟨x13, hx14, hm⟩ := bind_some hm
      refine WK_join (β := Int × Unit) (fun p => p.1 = x13) (fun p => [(8, .int .i64 0), (9, .int .i64 0), (12, .int .i64 p.1)]) (fun p => St w0 m m []) ?_ (fun hk15 => ?_)
      · rintro ⟨s_6, ⟨⟩⟩ hq21
        subst hq21
        refine WK.sub (e' := [(8, .int .i64 0), (9, .int .i64 0), (12, .int .i64 s_6)]) ⟨rfl, rfl, rfl, trivial⟩ (WK.cls (C' := St w0 m m []) (fun _ h => h) ?_)
        refine WK_seq ?_
        refine WK_region ?_
        refine WO_pure tbok 3 [(8, .int .i64 s_6), (9, .int .i64 0)] rfl ⟨rfl, rfl, trivial⟩ ?_
        refine WO_end ?_
        cases hm
        exact WK_ret (ret_out (L := []) (RLc_tmp rfl (RLc_tmp rfl RLc_nil)) (List.nil_sublist _) rfl)
      · refine WK_block ?_
        refine WK_loop (S := Int × Int) (G := Unit) (fun s => aggregate_Energy_s1 p0 p1 p2 p3 s.1 s.2) (fun s g => [(0, .slice a_p0 p0.length c_p0), (1, .int .i64 p1), (2, .int .i64 p2), (3, .slice a_p3 p3.length c_p3), (8, .int .i64 0), (9, .int .i64 0), (12, .int .i64 s.1), (33, .slice a_p3 p3.length c_p3), (34, .int .i64 (p3.length : Int)), (35, .int .i64 s.2)]) (fun s g => St w0 m m []) (fun s g => True) FUEL (0, 0) () x13 hx14 trivial ⟨rfl, rfl, rfl, rfl, rfl, rfl, rfl, rfl, rfl, rfl, trivial⟩ (fun _ h => h) ?_
        rintro ⟨s_4, s_5⟩ ⟨⟩ o17 fl18 hm16 - hn19 hd20
        have hm16 : aggregate_Energy_s1 p0 p1 p2 p3 s_4 s_5 = some o17 := hm16
        unfold aggregate_Energy_s1 at hm16
        refine WK.sub (e' := [(0, .slice a_p0 p0.length c_p0), (1, .int .i64 p1), (2, .int .i64 p2), (3, .slice a_p3 p3.length c_p3), (8, .int .i64 0), (9, .int .i64 0), (12, .int .i64 s_4), (33, .slice a_p3 p3.length c_p3), (34, .int .i64 (p3.length : Int)), (35, .int .i64 s_5)]) ⟨rfl, rfl, rfl, rfl, rfl, rfl, rfl, rfl, rfl, rfl, trivial⟩ (WK.cls (C' := St w0 m m []) (fun _ h => h) ?_)
        refine WK_seq ?_
        refine WK_region ?_
        refine WO_pure tbok 1 [(0, .slice a_p0 p0.length c_p0), (1, .int .i64 p1), (2, .int .i64 p2), (3, .slice a_p3 p3.length c_p3), (8, .int .i64 0), (9, .int .i64 0), (12, .int .i64 s_4), (33, .slice a_p3 p3.length c_p3), (34, .int .i64 (p3.length : Int)), (35, .int .i64 s_5), (36, .bool (decide (s_5 < (p3.length : Int))))] rfl ⟨rfl, rfl, rfl, rfl, rfl, rfl, rfl, rfl, rfl, rfl, rfl, trivial⟩ ?_
        refine WO_end ?_
        refine WK_seq ?_
        refine WK_cond (b := decide (s_5 < (p3.length : Int))) rfl (fun hb22 => ?_) (fun hb22 => ?_)
        · have hm16 := ifT hb22 hm16
          refine WK_skip ?_
          refine WK_seq ?_
          refine WK_block ?_
          refine WK_seq ?_
          refine WK_region ?_
          refine WO_pure tbok 1 [(0, .slice a_p0 p0.length c_p0), (1, .int .i64 p1), (2, .int .i64 p2), (3, .slice a_p3 p3.length c_p3), (8, .int .i64 0), (9, .int .i64 0), (12, .int .i64 s_4), (33, .slice a_p3 p3.length c_p3), (34, .int .i64 (p3.length : Int)), (35, .int .i64 s_5), (37, .int .i64 s_5)] rfl ⟨rfl, rfl, rfl, rfl, rfl, rfl, rfl, rfl, rfl, rfl, rfl, trivial⟩ ?_
          obtain ⟨v_7, hy23, hm16⟩ := bind_some hm16
          obtain ⟨hc24, hy23⟩ := ix_some hy23
          refine WO_index tbok rfl rfl rfl rfl rfl rfl rfl rfl (SlR.addr h_p3) hc24 ?_
          refine WO_loadE tbok rfl rfl rfl rfl (fun _ h => St.sat h) h_p3 hy23 rfl ?_
          refine WO_pure tbok 2 [(0, .slice a_p0 p0.length c_p0), (1, .int .i64 p1), (2, .int .i64 p2), (3, .slice a_p3 p3.length c_p3), (8, .int .i64 0), (9, .int .i64 0), (12, .int .i64 s_4), (13, .int .i64 s_5), (14, .int .i64 v_7), (33, .slice a_p3 p3.length c_p3), (34, .int .i64 (p3.length : Int)), (35, .int .i64 s_5)] rfl ⟨rfl, rfl, rfl, rfl, rfl, rfl, rfl, rfl, rfl, rfl, rfl, rfl, trivial⟩ ?_
          refine WO_end ?_
          refine WK_seq ?_
          refine WK_region ?_
          refine WO_pure tbok 3 [(0, .slice a_p0 p0.length c_p0), (1, .int .i64 p1), (2, .int .i64 p2), (3, .slice a_p3 p3.length c_p3), (8, .int .i64 0), (9, .int .i64 0), (12, .int .i64 s_4), (13, .int .i64 s_5), (14, .int .i64 v_7), (33, .slice a_p3 p3.length c_p3), (34, .int .i64 (p3.length : Int)), (35, .int .i64 s_5), (40, .int .i64 s_4), (41, .slice a_p0 p0.length c_p0), (42, .int .i64 s_5)] rfl ⟨rfl, rfl, rfl, rfl, rfl, rfl, rfl, rfl, rfl, rfl, rfl, rfl, rfl, rfl, rfl, trivial⟩ ?_
          obtain ⟨v_8, hy25, hm16⟩ := bind_some hm16
          obtain ⟨hc26, hy25⟩ := ix_some hy25
          refine WO_index tbok rfl rfl rfl rfl rfl rfl rfl rfl (SlR.addr h_p0) hc26 ?_
          refine WO_loadR tbok rfl rfl rfl rfl (fun _ h => St.sat h) h_p0 hy25 rfl rfl (fun a27 c28 h29 => ?_)
          refine WO_pure tbok 1 [(0, .slice a_p0 p0.length c_p0), (1, .int .i64 p1), (2, .int .i64 p2), (3, .slice a_p3 p3.length c_p3), (8, .int .i64 0), (9, .int .i64 0), (12, .int .i64 s_4), (13, .int .i64 s_5), (14, .int .i64 v_7), (33, .slice a_p3 p3.length c_p3), (34, .int .i64 (p3.length : Int)), (35, .int .i64 s_5), (40, .int .i64 s_4), (44, .slice a27 ((v_8).length) c28), (45, .int .i64 v_7)] rfl ⟨rfl, rfl, rfl, rfl, rfl, rfl, rfl, rfl, rfl, rfl, rfl, rfl, rfl, rfl, rfl, trivial⟩ ?_
          obtain ⟨v_9, hy31, hm16⟩ := bind_some hm16
          obtain ⟨hc32, hy31⟩ := ix_some hy31
          refine WO_index tbok rfl rfl rfl rfl rfl rfl rfl rfl (SlR.addr h29) hc32 ?_
          refine WO_loadE tbok rfl rfl rfl rfl (fun _ h => St.sat h) h29 hy31 rfl ?_
          refine WO_pure tbok 2 [(0, .slice a_p0 p0.length c_p0), (1, .int .i64 p1), (2, .int .i64 p2), (3, .slice a_p3 p3.length c_p3), (8, .int .i64 0), (9, .int .i64 0), (12, .int .i64 (w64 (s_4 + v_9))), (13, .int .i64 s_5), (14, .int .i64 v_7), (33, .slice a_p3 p3.length c_p3), (34, .int .i64 (p3.length : Int)), (35, .int .i64 s_5)] rfl ⟨rfl, rfl, rfl, rfl, rfl, rfl, rfl, rfl, rfl, rfl, rfl, rfl, trivial⟩ ?_
          refine WO_end ?_
          refine WK_seq ?_
          refine WK_region ?_
          refine WO_pure tbok 2 [(0, .slice a_p0 p0.length c_p0), (1, .int .i64 p1), (2, .int .i64 p2), (3, .slice a_p3 p3.length c_p3), (8, .int .i64 0), (9, .int .i64 0), (12, .int .i64 (w64 (s_4 + v_9))), (13, .int .i64 s_5), (14, .int .i64 v_7), (33, .slice a_p3 p3.length c_p3), (34, .int .i64 (p3.length : Int)), (35, .int .i64 s_5), (50, .bool (decide (0 < s_5)))] rfl ⟨rfl, rfl, rfl, rfl, rfl, rfl, rfl, rfl, rfl, rfl, rfl, rfl, rfl, trivial⟩ ?_
          refine WO_end ?_
          obtain ⟨s_10, hx33, hm16⟩ := bind_some hm16
          refine WK_meet [(0, .slice a_p0 p0.length c_p0), (1, .int .i64 p1), (2, .int .i64 p2), (3, .slice a_p3 p3.length c_p3), (8, .int .i64 0), (9, .int .i64 0), (12, .int .i64 s_10), (33, .slice a_p3 p3.length c_p3), (34, .int .i64 (p3.length : Int)), (35, .int .i64 s_5)] (St w0 m m []) ?_ (fun hk34 => ?_)
          · refine WK_blk ?_
            refine WK_region ?_
            refine WO_pure tbok 2 [(0, .slice a_p0 p0.length c_p0), (1, .int .i64 p1), (2, .int .i64 p2), (3, .slice a_p3 p3.length c_p3), (8, .int .i64 0), (9, .int .i64 0), (12, .int .i64 s_10), (33, .slice a_p3 p3.length c_p3), (34, .int .i64 (p3.length : Int)), (35, .int .i64 (w64 (s_5 + 1)))] rfl ⟨rfl, rfl, rfl, rfl, rfl, rfl, rfl, rfl, rfl, rfl, trivial⟩ ?_
            refine WO_end ?_
            cases hm16
            refine WK.sub ?_ (WK.cls (fun _ h => h) (hn19 _ () rfl trivial))
            exact ⟨rfl, rfl, rfl, rfl, rfl, rfl, rfl, rfl, rfl, rfl, trivial⟩
          · refine WK_cond (b := decide (0 < s_5)) rfl (fun hb35 => ?_) (fun hb35 => ?_)
            · have hx33 := ifT hb35 hx33
              refine WK_region ?_
              refine WO_pure tbok 5 [(0, .slice a_p0 p0.length c_p0), (1, .int .i64 p1), (2, .int .i64 p2), (3, .slice a_p3 p3.length c_p3), (8, .int .i64 0), (9, .int .i64 0), (12, .int .i64 (w64 (s_4 + v_9))), (33, .slice a_p3 p3.length c_p3), (34, .int .i64 (p3.length : Int)), (35, .int .i64 s_5), (51, .int .i64 (w64 (s_4 + v_9))), (52, .int .i64 v_7), (53, .slice a_p3 p3.length c_p3), (55, .int .i64 (w64 (s_5 - 1)))] rfl ⟨rfl, rfl, rfl, rfl, rfl, rfl, rfl, rfl, rfl, rfl, rfl, rfl, rfl, rfl, trivial⟩ ?_
              obtain ⟨v_11, hy36, hx33⟩ := bind_some hx33
              obtain ⟨hc37, hy36⟩ := ix_some hy36
              refine WO_index tbok rfl rfl rfl rfl rfl rfl rfl rfl (SlR.addr h_p3) hc37 ?_
              refine WO_loadE tbok rfl rfl rfl rfl (fun _ h => St.sat h) h_p3 hy36 rfl ?_
              refine WO_pure tbok 3 [(0, .slice a_p0 p0.length c_p0), (1, .int .i64 p1), (2, .int .i64 p2), (3, .slice a_p3 p3.length c_p3), (8, .int .i64 0), (9, .int .i64 0), (12, .int .i64 (w64 (s_4 + v_9))), (33, .slice a_p3 p3.length c_p3), (34, .int .i64 (p3.length : Int)), (35, .int .i64 s_5), (51, .int .i64 (w64 (s_4 + v_9))), (58, .int .i64 (w64 (v_7 - v_11))), (59, .int .i64 p1), (60, .int .i64 p2)] rfl ⟨rfl, rfl, rfl, rfl, rfl, rfl, rfl, rfl, rfl, rfl, rfl, rfl, rfl, rfl, trivial⟩ ?_
              obtain ⟨y_12, hc38, hx33⟩ := bind_some hx33
              refine WO_call0 (.int .i64 y_12) rfl rfl trivial rfl rfl rfl rfl St_closed ⟨36, #[], #[], rfl, callable_36, fun w hw => ⟨_, hw.sat, aggregate_between_walk hc38⟩⟩ ?_
              refine WO_pure tbok 2 [(0, .slice a_p0 p0.length c_p0), (1, .int .i64 p1), (2, .int .i64 p2), (3, .slice a_p3 p3.length c_p3), (8, .int .i64 0), (9, .int .i64 0), (12, .int .i64 (w64 ((w64 (s_4 + v_9)) + y_12))), (33, .slice a_p3 p3.length c_p3), (34, .int .i64 (p3.length : Int)), (35, .int .i64 s_5)] rfl ⟨rfl, rfl, rfl, rfl, rfl, rfl, rfl, rfl, rfl, rfl, trivial⟩ ?_
              refine WO_end ?_
              cases hx33
              refine WK.sub ?_ (WK.cls (fun _ h => h) hk34)
              exact ⟨rfl, rfl, rfl, rfl, rfl, rfl, rfl, rfl, rfl, rfl, trivial⟩
            · have hx33 := ifF hb35 hx33
              refine WK_skip ?_
              cases hx33
              refine WK.sub ?_ (WK.cls (fun _ h => h) hk34)
              exact ⟨rfl, rfl, rfl, rfl, rfl, rfl, rfl, rfl, rfl, rfl, trivial⟩
        · have hm16 := ifF hb22 hm16
          refine WK_exit rfl ?_
          cases hm16
          refine WK.sub ?_ (WK.cls (fun _ h => h) (hk15 (s_4, ()) (hd20 _ rfl)))
          exact ⟨rfl, rfl, rfl, trivial⟩
theorem fiduciallaw45_AggregateEnergies_walk {m : Mu} {p0 : List (List Int)} {p1_0 : Int} {p1_1 : Int} {p2 : List Int} {a_p0 : Option Addr} {q_p0 c_p0 : Nat} {a_p2 : Option Addr} {q_p2 c_p2 : Nat} (h_p0 : SlR (RowE (FE (I1 .i64)) 1) 1 m (.slice a_p0 q_p0 c_p0) p0) (h_p2 : SlR (FE (I1 .i64)) 1 m (.slice a_p2 q_p2 c_p2) p2) {r : Bool} (hm : fiduciallaw45_AggregateEnergies p0 p1_0 p1_1 p2 = some r) :
    Go.E.Spec Try.prog 6 [.slice a_p0 q_p0 c_p0, .agg #[.int .i64 p1_0, .int .i64 p1_1], .slice a_p2 q_p2 c_p2] m (fun v _ _ => v = .bool r) := by
  refine Spec_enter Try.func6 rfl rfl rfl (fun w0 => ?_)
  refine WK.sub (e' := [(0, .slice a_p0 q_p0 c_p0), (1, .agg #[.int .i64 p1_0, .int .i64 p1_1]), (2, .slice a_p2 q_p2 c_p2)]) ⟨rfl, rfl, rfl, trivial⟩ ?_
  obtain rfl := SlR.qlen h_p0
  obtain rfl := SlR.qlen h_p2
  refine WK.sub (e' := [(0, .slice a_p0 p0.length c_p0), (1, .agg #[.int .i64 p1_0, .int .i64 p1_1]), (2, .slice a_p2 p2.length c_p2)]) ⟨rfl, rfl, rfl, trivial⟩ ?_
  unfold fiduciallaw45_AggregateEnergies at hm
  refine WK_seq ?_
  refine WK_region ?_
  refine WO_box [.int .i64 p1_0, .int .i64 p1_1] rfl rfl trivial rfl rfl rfl (fun b3 => ?_)
  refine WO.cls (C' := St w0 m m [[⟨b3, 23, [.int .i64 p1_0, .int .i64 p1_1]⟩]]) (fun _ h => h) ?_
  refine WO_pure tbok 1 [(0, .slice a_p0 p0.length c_p0), (2, .slice a_p2 p2.length c_p2), (4, .pointer (some ⟨b3, 0, none⟩)), (6, .bool false)] rfl ⟨rfl, rfl, rfl, rfl, trivial⟩ ?_
  refine WO_end ?_
  refine WK_seq ?_
  refine WK_seq ?_
  refine WK_region ?_
  obtain ⟨y_1, hc4, hm⟩ := bind_some hm
  refine WO_call0 (.bool y_1) rfl rfl trivial rfl rfl rfl rfl St_closed ⟨8, #[], #[], rfl, callable_8, fun w hw => ⟨_, hw.sat, fiduciallaw45_known_walk hc4⟩⟩ ?_
  refine WO_pure tbok 1 [(0, .slice a_p0 p0.length c_p0), (2, .slice a_p2 p2.length c_p2), (4, .pointer (some ⟨b3, 0, none⟩)), (6, .bool false), (11, .bool (!y_1))] rfl ⟨rfl, rfl, rfl, rfl, rfl, trivial⟩ ?_
  refine WO_end ?_
  refine WK_cond (b := !y_1) rfl (fun hb5 => ?_) (fun hb5 => ?_)
  · have hm := ifT hb5 hm
    refine WK_seq ?_
    refine WK_region ?_
    refine WO_pure tbok 1 [(0, .slice a_p0 p0.length c_p0), (2, .slice a_p2 p2.length c_p2), (4, .pointer (some ⟨b3, 0, none⟩)), (6, .bool false)] rfl ⟨rfl, rfl, rfl, rfl, trivial⟩ ?_
    refine WO_end ?_
    cases hm
    exact WK_ret (ret_out (L := []) (RLc_tmp rfl RLc_nil) (List.nil_sublist _) rfl)
  · have hm := ifF hb5 hm
    refine WK_skip ?_
    refine WK_seq ?_
    refine WK_seq ?_
    obtain ⟨s_2, hx6, hm⟩ := bind_some hm
    refine WK_meet [(0, .slice a_p0 p0.length c_p0), (2, .slice a_p2 p2.length c_p2), (4, .pointer (some ⟨b3, 0, none⟩)), (6, .bool false), (19, .bool s_2)] (St w0 m m [[⟨b3, 23, [.int .i64 p1_0, .int .i64 p1_1]⟩]]) ?_ (fun hk7 => ?_)
    · refine WK_cond (b := s_2) rfl (fun hb8 => ?_) (fun hb8 => ?_)
      · have hm := ifT hb8 hm
        refine WK_seq ?_
        refine WK_region ?_
        refine WO_pure tbok 1 [(0, .slice a_p0 p0.length c_p0), (2, .slice a_p2 p2.length c_p2), (4, .pointer (some ⟨b3, 0, none⟩)), (6, .bool true)] rfl ⟨rfl, rfl, rfl, rfl, trivial⟩ ?_
        refine WO_end ?_
        cases hm
        exact WK_ret (ret_out (L := []) (RLc_tmp rfl RLc_nil) (List.nil_sublist _) rfl)
      · have hm := ifF hb8 hm
        refine WK_skip ?_
        refine WK_seq ?_
        refine WK_seq ?_
        refine WK_region ?_
        refine WO_pure tbok 1 [(0, .slice a_p0 p0.length c_p0), (2, .slice a_p2 p2.length c_p2), (4, .pointer (some ⟨b3, 0, none⟩)), (6, .bool false), (20, .slice a_p0 p0.length c_p0)] rfl ⟨rfl, rfl, rfl, rfl, rfl, trivial⟩ ?_
        obtain ⟨y_3, hc9, hm⟩ := bind_some hm
        refine WO_call0 (.int .i64 y_3) rfl rfl trivial rfl rfl rfl rfl St_closed ⟨20, #[], #[], rfl, callable_20, fun w hw => ⟨_, hw.sat, aggregate_Check_walk h_p0 hc9⟩⟩ ?_
        refine WO_pure tbok 2 [(0, .slice a_p0 p0.length c_p0), (2, .slice a_p2 p2.length c_p2), (4, .pointer (some ⟨b3, 0, none⟩)), (6, .bool false), (22, .bool (y_3 == 0)), (23, .slice a_p0 p0.length c_p0)] rfl ⟨rfl, rfl, rfl, rfl, rfl, rfl, trivial⟩ ?_
        obtain ⟨y_4, hc10, hm⟩ := bind_some hm
        refine WO_call0 (.bool y_4) rfl rfl trivial rfl rfl rfl rfl St_closed ⟨21, #[], #[], rfl, callable_21, fun w hw => ⟨_, hw.sat, fiduciallaw45_line_walk h_p0 hc10⟩⟩ ?_
        refine WO_pure tbok 1 [(0, .slice a_p0 p0.length c_p0), (2, .slice a_p2 p2.length c_p2), (4, .pointer (some ⟨b3, 0, none⟩)), (6, .bool false), (25, .bool (!((y_3 == 0) == y_4)))] rfl ⟨rfl, rfl, rfl, rfl, rfl, trivial⟩ ?_
        refine WO_end ?_
        refine WK_cond (b := !((y_3 == 0) == y_4)) rfl (fun hb11 => ?_) (fun hb11 => ?_)
        · have hm := ifT hb11 hm
          refine WK_seq ?_
          refine WK_region ?_
          refine WO_pure tbok 1 [(0, .slice a_p0 p0.length c_p0), (2, .slice a_p2 p2.length c_p2), (4, .pointer (some ⟨b3, 0, none⟩)), (6, .bool false)] rfl ⟨rfl, rfl, rfl, rfl, trivial⟩ ?_
          refine WO_end ?_
          cases hm
          exact WK_ret (ret_out (L := []) (RLc_tmp rfl RLc_nil) (List.nil_sublist _) rfl)
        · have hm := ifF hb11 hm
          refine WK_skip ?_
          refine WK_seq ?_
          refine WK_region ?_
          refine WO_pure tbok 2 [(0, .slice a_p0 p0.length c_p0), (2, .slice a_p2 p2.length c_p2), (4, .pointer (some ⟨b3, 0, none⟩)), (6, .bool false), (27, .slice a_p0 p0.length c_p0), (28, .pointer (some ⟨b3, 0, none⟩))] rfl ⟨rfl, rfl, rfl, rfl, rfl, rfl, trivial⟩ ?_
          refine WO_loadB tbok 0 rfl rfl rfl rfl (fun _ h => h) rfl rfl ?_
          refine WO_pure tbok 1 [(0, .slice a_p0 p0.length c_p0), (2, .slice a_p2 p2.length c_p2), (4, .pointer (some ⟨b3, 0, none⟩)), (6, .bool false), (27, .slice a_p0 p0.length c_p0), (29, .int .i64 p1_0), (30, .pointer (some ⟨b3, 1, none⟩))] rfl ⟨rfl, rfl, rfl, rfl, rfl, rfl, rfl, trivial⟩ ?_
          refine WO_loadB tbok 0 rfl rfl rfl rfl (fun _ h => h) rfl rfl ?_
          refine WO_pure tbok 1 [(0, .slice a_p0 p0.length c_p0), (2, .slice a_p2 p2.length c_p2), (4, .pointer (some ⟨b3, 0, none⟩)), (6, .bool false), (27, .slice a_p0 p0.length c_p0), (29, .int .i64 p1_0), (31, .int .i64 p1_1), (32, .slice a_p2 p2.length c_p2)] rfl ⟨rfl, rfl, rfl, rfl, rfl, rfl, rfl, rfl, trivial⟩ ?_
          obtain ⟨⟨y_5, y_6⟩, hc12, hm⟩ := bind_some hm
          refine WO_call0 (.tuple #[.int .i64 y_5, .int .i64 y_6]) rfl rfl trivial rfl rfl rfl rfl St_closed ⟨22, #[], #[], rfl, callable_22, fun w hw => ⟨_, hw.sat, aggregate_Energy_walk h_p0 h_p2 hc12⟩⟩ ?_
          refine WO_pure tbok 5 [(0, .slice a_p0 p0.length c_p0), (2, .slice a_p2 p2.length c_p2), (4, .pointer (some ⟨b3, 0, none⟩)), (6, .bool false), (7, .int .i64 y_5), (8, .int .i64 y_6)] rfl ⟨rfl, rfl, rfl, rfl, rfl, rfl, trivial⟩ ?_
          refine WO_end ?_
          refine WK_seq ?_
          refine WK_region ?_
          refine WO_pure tbok 1 [(0, .slice a_p0 p0.length c_p0), (2, .slice a_p2 p2.length c_p2), (4, .pointer (some ⟨b3, 0, none⟩)), (6, .bool false), (7, .int .i64 y_5), (8, .int .i64 y_6), (36, .slice a_p0 p0.length c_p0)] rfl ⟨rfl, rfl, rfl, rfl, rfl, rfl, rfl, trivial⟩ ?_
          refine WO_loadB tbok 0 rfl rfl rfl rfl (fun _ h => h) rfl rfl ?_
          obtain ⟨y_7, hc13, hm⟩ := bind_some hm
          refine WO_call0 (.int .i64 y_7) rfl rfl trivial rfl rfl rfl rfl St_closed ⟨11, #[], #[], rfl, callable_11, fun w hw => ⟨_, hw.sat, fiduciallaw45_lined_walk h_p0 hc13⟩⟩ ?_
          refine WO_pure tbok 1 [(0, .slice a_p0 p0.length c_p0), (2, .slice a_p2 p2.length c_p2), (4, .pointer (some ⟨b3, 0, none⟩)), (6, .bool false), (7, .int .i64 y_5), (8, .int .i64 y_6), (9, .int .i64 y_7)] rfl ⟨rfl, rfl, rfl, rfl, rfl, rfl, rfl, trivial⟩ ?_
          refine WO_end ?_
          refine WK_seq ?_
          refine WK_seq ?_
          refine WK_region ?_
          refine WO_pure tbok 2 [(0, .slice a_p0 p0.length c_p0), (2, .slice a_p2 p2.length c_p2), (4, .pointer (some ⟨b3, 0, none⟩)), (6, .bool false), (7, .int .i64 y_5), (8, .int .i64 y_6), (9, .int .i64 y_7), (40, .bool (y_7 == 0))] rfl ⟨rfl, rfl, rfl, rfl, rfl, rfl, rfl, rfl, trivial⟩ ?_
          refine WO_end ?_
          obtain ⟨s_8, hx14, hm⟩ := bind_some hm
          refine WK_meet [(0, .slice a_p0 p0.length c_p0), (2, .slice a_p2 p2.length c_p2), (4, .pointer (some ⟨b3, 0, none⟩)), (6, .bool false), (7, .int .i64 y_5), (8, .int .i64 y_6), (9, .int .i64 s_8)] (St w0 m m [[⟨b3, 23, [.int .i64 p1_0, .int .i64 p1_1]⟩]]) ?_ (fun hk15 => ?_)
          · refine WK_seq ?_
            refine WK_seq ?_
            refine WK_region ?_
            refine WO_pure tbok 2 [(0, .slice a_p0 p0.length c_p0), (2, .slice a_p2 p2.length c_p2), (4, .pointer (some ⟨b3, 0, none⟩)), (6, .bool false), (7, .int .i64 y_5), (8, .int .i64 y_6), (9, .int .i64 s_8), (50, .bool (s_8 != 0))] rfl ⟨rfl, rfl, rfl, rfl, rfl, rfl, rfl, rfl, trivial⟩ ?_
            refine WO_end ?_
            refine WK_cond (b := s_8 != 0) rfl (fun hb16 => ?_) (fun hb16 => ?_)
            · have hm := ifT hb16 hm
              refine WK_seq ?_
              refine WK_region ?_
              refine WO_pure tbok 4 [(0, .slice a_p0 p0.length c_p0), (2, .slice a_p2 p2.length c_p2), (4, .pointer (some ⟨b3, 0, none⟩)), (6, .bool false), (7, .int .i64 y_5), (8, .int .i64 y_6), (54, .bool (y_6 == s_8))] rfl ⟨rfl, rfl, rfl, rfl, rfl, rfl, rfl, trivial⟩ ?_
              refine WO_split (d := 54) (b := y_6 == s_8) rfl (fun hb17 => ?_) (fun hb17 => ?_)
              · have hm := ifT hb17 hm
                refine WO_pure tbok 4 [(0, .slice a_p0 p0.length c_p0), (2, .slice a_p2 p2.length c_p2), (4, .pointer (some ⟨b3, 0, none⟩)), (6, .bool (y_5 == 0)), (7, .int .i64 y_5), (8, .int .i64 y_6)] rfl ⟨rfl, rfl, rfl, rfl, rfl, rfl, trivial⟩ ?_
                refine WO_end ?_
                cases hm
                exact WK_ret (ret_out (L := []) (RLc_tmp rfl RLc_nil) (List.nil_sublist _) rfl)
              · have hm := ifF hb17 hm
                refine WO_pure tbok 4 [(0, .slice a_p0 p0.length c_p0), (2, .slice a_p2 p2.length c_p2), (4, .pointer (some ⟨b3, 0, none⟩)), (6, .bool false), (7, .int .i64 y_5), (8, .int .i64 y_6)] rfl ⟨rfl, rfl, rfl, rfl, rfl, rfl, trivial⟩ ?_
                refine WO_end ?_
                cases hm
                exact WK_ret (ret_out (L := []) (RLc_tmp rfl RLc_nil) (List.nil_sublist _) rfl)
            · have hm := ifF hb16 hm
              refine WK_skip ?_
              refine WK_seq ?_
              refine WK_region ?_
              refine WO_pure tbok 3 [(0, .slice a_p0 p0.length c_p0), (2, .slice a_p2 p2.length c_p2), (4, .pointer (some ⟨b3, 0, none⟩)), (6, .bool false), (7, .int .i64 y_5), (60, .bool (y_6 == 0))] rfl ⟨rfl, rfl, rfl, rfl, rfl, rfl, trivial⟩ ?_
              refine WO_split (d := 60) (b := y_6 == 0) rfl (fun hb18 => ?_) (fun hb18 => ?_)
              · have hm := ifT hb18 hm
                refine WO_pure tbok 3 [(2, .slice a_p2 p2.length c_p2), (4, .pointer (some ⟨b3, 0, none⟩)), (6, .bool false), (60, .bool true), (61, .int .i64 y_5), (62, .slice a_p0 p0.length c_p0), (63, .pointer (some ⟨b3, 0, none⟩))] rfl ⟨rfl, rfl, rfl, rfl, rfl, rfl, rfl, trivial⟩ ?_
                refine WO_loadB tbok 0 rfl rfl rfl rfl (fun _ h => h) rfl rfl ?_
                refine WO_pure tbok 1 [(2, .slice a_p2 p2.length c_p2), (6, .bool false), (60, .bool true), (61, .int .i64 y_5), (62, .slice a_p0 p0.length c_p0), (64, .int .i64 p1_0), (65, .pointer (some ⟨b3, 1, none⟩))] rfl ⟨rfl, rfl, rfl, rfl, rfl, rfl, rfl, trivial⟩ ?_
                refine WO_loadB tbok 0 rfl rfl rfl rfl (fun _ h => h) rfl rfl ?_
                refine WO_pure tbok 1 [(6, .bool false), (60, .bool true), (61, .int .i64 y_5), (62, .slice a_p0 p0.length c_p0), (64, .int .i64 p1_0), (66, .int .i64 p1_1), (67, .slice a_p2 p2.length c_p2)] rfl ⟨rfl, rfl, rfl, rfl, rfl, rfl, rfl, trivial⟩ ?_
                obtain ⟨y_9, hc19, hm⟩ := bind_some hm
                refine WO_call0 (.int .i64 y_9) rfl rfl trivial rfl rfl rfl rfl St_closed ⟨17, #[], #[], rfl, callable_17, fun w hw => ⟨_, hw.sat, fiduciallaw45_energy_walk h_p0 h_p2 hc19⟩⟩ ?_
                refine WO_pure tbok 3 [(6, .bool (y_5 == y_9))] rfl ⟨rfl, trivial⟩ ?_
                refine WO_end ?_
                cases hm
                exact WK_ret (ret_out (L := []) (RLc_tmp rfl RLc_nil) (List.nil_sublist _) rfl)
              · have hm := ifF hb18 hm
                refine WO_pure tbok 7 [(6, .bool false), (60, .bool false)] rfl ⟨rfl, rfl, trivial⟩ ?_
                refine WO_skip rfl rfl ?_
                refine WO_pure tbok 3 [(6, .bool false)] rfl ⟨rfl, trivial⟩ ?_
                refine WO_end ?_
                cases hm
                exact WK_ret (ret_out (L := []) (RLc_tmp rfl RLc_nil) (List.nil_sublist _) rfl)
          · refine WK_cond (b := y_7 == 0) rfl (fun hb20 => ?_) (fun hb20 => ?_)
            · have hx14 := ifT hb20 hx14
              refine WK_region ?_
              refine WO_pure tbok 4 [(0, .slice a_p0 p0.length c_p0), (2, .slice a_p2 p2.length c_p2), (4, .pointer (some ⟨b3, 0, none⟩)), (6, .bool false), (7, .int .i64 y_5), (8, .int .i64 y_6), (9, .int .i64 y_7), (41, .slice a_p2 p2.length c_p2), (43, .int .i64 (p0.length : Int)), (44, .slice a_p0 p0.length c_p0)] rfl ⟨rfl, rfl, rfl, rfl, rfl, rfl, rfl, rfl, rfl, rfl, trivial⟩ ?_
              obtain ⟨v_10, hy21, hx14⟩ := bind_some hx14
              obtain ⟨hc22, hy21⟩ := ix_some hy21
              refine WO_index tbok rfl rfl rfl rfl rfl rfl rfl rfl (SlR.addr h_p0) hc22 ?_
              refine WO_loadR tbok rfl rfl rfl rfl (fun _ h => St.sat h) h_p0 hy21 rfl rfl (fun a23 c24 h25 => ?_)
              refine WO_pure tbok 1 [(0, .slice a_p0 p0.length c_p0), (2, .slice a_p2 p2.length c_p2), (4, .pointer (some ⟨b3, 0, none⟩)), (6, .bool false), (7, .int .i64 y_5), (8, .int .i64 y_6), (9, .int .i64 y_7), (41, .slice a_p2 p2.length c_p2), (43, .int .i64 (p0.length : Int)), (47, .int .i64 ((v_10).length : Int))] rfl ⟨rfl, rfl, rfl, rfl, rfl, rfl, rfl, rfl, rfl, rfl, trivial⟩ ?_
              obtain ⟨y_11, hc27, hx14⟩ := bind_some hx14
              refine WO_call0 (.int .i64 y_11) rfl rfl trivial rfl rfl rfl rfl St_closed ⟨16, #[], #[], rfl, callable_16, fun w hw => ⟨_, hw.sat, fiduciallaw45_labelled_walk h_p2 hc27⟩⟩ ?_
              refine WO_pure tbok 1 [(0, .slice a_p0 p0.length c_p0), (2, .slice a_p2 p2.length c_p2), (4, .pointer (some ⟨b3, 0, none⟩)), (6, .bool false), (7, .int .i64 y_5), (8, .int .i64 y_6), (9, .int .i64 y_11)] rfl ⟨rfl, rfl, rfl, rfl, rfl, rfl, rfl, trivial⟩ ?_
              refine WO_end ?_
              cases hx14
              refine WK.sub ?_ (WK.cls (fun _ h => h) hk15)
              exact ⟨rfl, rfl, rfl, rfl, rfl, rfl, rfl, trivial⟩
            · have hx14 := ifF hb20 hx14
              refine WK_skip ?_
              cases hx14
              refine WK.sub ?_ (WK.cls (fun _ h => h) hk15)
              exact ⟨rfl, rfl, rfl, rfl, rfl, rfl, rfl, trivial⟩
    · refine WK_region ?_
      refine WO_pure tbok 1 [(0, .slice a_p0 p0.length c_p0), (2, .slice a_p2 p2.length c_p2), (4, .pointer (some ⟨b3, 0, none⟩)), (6, .bool false), (12, .slice a_p0 p0.length c_p0)] rfl ⟨rfl, rfl, rfl, rfl, rfl, trivial⟩ ?_
      obtain ⟨y_12, hc28, hx6⟩ := bind_some hx6
      refine WO_call0 (.bool y_12) rfl rfl trivial rfl rfl rfl rfl St_closed ⟨9, #[], #[], rfl, callable_9, fun w hw => ⟨_, hw.sat, fiduciallaw45_few_walk h_p0 hc28⟩⟩ ?_
      refine WO_pure tbok 2 [(0, .slice a_p0 p0.length c_p0), (2, .slice a_p2 p2.length c_p2), (4, .pointer (some ⟨b3, 0, none⟩)), (6, .bool false), (15, .bool (!y_12))] rfl ⟨rfl, rfl, rfl, rfl, rfl, trivial⟩ ?_
      refine WO_split (d := 15) (b := !y_12) rfl (fun hb29 => ?_) (fun hb29 => ?_)
      · have hx6 := ifT hb29 hx6
        refine WO_pure tbok 4 [(0, .slice a_p0 p0.length c_p0), (2, .slice a_p2 p2.length c_p2), (4, .pointer (some ⟨b3, 0, none⟩)), (6, .bool false), (19, .bool true)] rfl ⟨rfl, rfl, rfl, rfl, rfl, trivial⟩ ?_
        refine WO_end ?_
        cases hx6
        refine WK.sub ?_ (WK.cls (fun _ h => h) hk7)
        exact ⟨rfl, rfl, rfl, rfl, rfl, trivial⟩
      · have hx6 := ifF hb29 hx6
        refine WO_pure tbok 4 [(0, .slice a_p0 p0.length c_p0), (2, .slice a_p2 p2.length c_p2), (4, .pointer (some ⟨b3, 0, none⟩)), (6, .bool false), (19, .bool (decide (30 < (p2.length : Int))))] rfl ⟨rfl, rfl, rfl, rfl, rfl, trivial⟩ ?_
        refine WO_end ?_
        cases hx6
        refine WK.sub ?_ (WK.cls (fun _ h => h) hk7)
        exact ⟨rfl, rfl, rfl, rfl, rfl, trivial⟩
theorem fiduciallaw45_small_walk {m : Mu} {p0_0 : Int} {p0_1 : Int} {p0_2 : Int} {p0_3 : List Int} {a_p0_3 : Option Addr} {q_p0_3 c_p0_3 : Nat} (h_p0_3 : SlR (FE (I1 .i64)) 1 m (.slice a_p0_3 q_p0_3 c_p0_3) p0_3) {r : Bool} (hm : fiduciallaw45_small p0_0 p0_1 p0_2 p0_3 = some r) :
    Go.E.Spec Try.prog 23 [.agg #[.int .i64 p0_0, .int .i64 p0_1, .int .i64 p0_2, .slice a_p0_3 q_p0_3 c_p0_3]] m (fun v _ _ => v = .bool r) := by
  refine Spec_enter Try.func23 rfl rfl rfl (fun w0 => ?_)
  refine WK.sub (e' := [(0, .agg #[.int .i64 p0_0, .int .i64 p0_1, .int .i64 p0_2, .slice a_p0_3 q_p0_3 c_p0_3])]) ⟨rfl, trivial⟩ ?_
  obtain rfl := SlR.qlen h_p0_3
  refine WK.sub (e' := [(0, .agg #[.int .i64 p0_0, .int .i64 p0_1, .int .i64 p0_2, .slice a_p0_3 p0_3.length c_p0_3])]) ⟨rfl, trivial⟩ ?_
  unfold fiduciallaw45_small at hm
  refine WK_seq ?_
  refine WK_region ?_
  refine WO_box [.int .i64 p0_0, .int .i64 p0_1, .int .i64 p0_2, .slice a_p0_3 p0_3.length c_p0_3] rfl rfl trivial rfl rfl rfl (fun b2 => ?_)
  refine WO.cls (C' := St w0 m m [[⟨b2, 50, [.int .i64 p0_0, .int .i64 p0_1, .int .i64 p0_2, .slice a_p0_3 p0_3.length c_p0_3]⟩]]) (fun _ h => h) ?_
  refine WO_pure tbok 1 [(1, .pointer (some ⟨b2, 0, none⟩)), (2, .bool false)] rfl ⟨rfl, rfl, trivial⟩ ?_
  refine WO_end ?_
  refine WK_seq ?_
  refine WK_region ?_
  refine WO_pure tbok 1 [(2, .bool false), (3, .pointer (some ⟨b2, 3, none⟩))] rfl ⟨rfl, rfl, trivial⟩ ?_
  refine WO_loadB tbok 0 rfl rfl rfl rfl (fun _ h => h) rfl rfl ?_
  refine WO_pure tbok 3 [(2, .bool (decide ((p0_3.length : Int) ≤ 600)))] rfl ⟨rfl, trivial⟩ ?_
  refine WO_end ?_
  cases hm
  exact WK_ret (ret_out (L := []) (RLc_tmp rfl RLc_nil) (List.nil_sublist _) rfl)
theorem census_Check_c1_walk {m : Mu} {p0 : Int}   {r : Bool} (hm : census_Check_c1 p0 = some r) :
    Go.E.Spec Try.prog 62 [.int .i64 p0] m (fun v _ _ => v = .bool r) := by
  refine Spec_enter Try.func62 rfl rfl rfl (fun w0 => ?_)
  refine WK.sub (e' := [(0, .int .i64 p0)]) ⟨rfl, trivial⟩ ?_
  refine WK.sub (e' := [(0, .int .i64 p0)]) ⟨rfl, trivial⟩ ?_
  unfold census_Check_c1 at hm
  refine WK_seq ?_
  refine WK_region ?_
  refine WO_pure tbok 1 [(0, .int .i64 p0), (2, .bool false)] rfl ⟨rfl, rfl, trivial⟩ ?_
  refine WO_end ?_
  refine WK_seq ?_
  refine WK_region ?_
  refine WO_pure tbok 3 [(0, .int .i64 p0), (2, .bool false), (5, .bool (decide (p0 < 0)))] rfl ⟨rfl, rfl, rfl, trivial⟩ ?_
  refine WO_split (d := 5) (b := decide (p0 < 0)) rfl (fun hb1 => ?_) (fun hb1 => ?_)
  · have hm := ifT hb1 hm
    refine WO_pure tbok 4 [(2, .bool true)] rfl ⟨rfl, trivial⟩ ?_
    refine WO_end ?_
    cases hm
    exact WK_ret (ret_out (L := []) (RLc_tmp rfl RLc_nil) (List.nil_sublist _) rfl)
  · have hm := ifF hb1 hm
    refine WO_pure tbok 4 [(2, .bool (decide (1048576 < p0)))] rfl ⟨rfl, trivial⟩ ?_
    refine WO_end ?_
    cases hm
    exact WK_ret (ret_out (L := []) (RLc_tmp rfl RLc_nil) (List.nil_sublist _) rfl)
theorem census_Check_walk {m : Mu} {p0_0 : Int} {p0_1 : Int} {p0_2 : Int} {p0_3 : List Int} {a_p0_3 : Option Addr} {q_p0_3 c_p0_3 : Nat} (h_p0_3 : SlR (FE (I1 .i64)) 1 m (.slice a_p0_3 q_p0_3 c_p0_3) p0_3) {r : Int} (hm : census_Check p0_0 p0_1 p0_2 p0_3 = some r) :
    Go.E.Spec Try.prog 61 [.agg #[.int .i64 p0_0, .int .i64 p0_1, .int .i64 p0_2, .slice a_p0_3 q_p0_3 c_p0_3]] m (fun v _ _ => v = .int .i64 r) := by
  refine Spec_enter Try.func61 rfl rfl rfl (fun w0 => ?_)
  refine WK.sub (e' := [(0, .agg #[.int .i64 p0_0, .int .i64 p0_1, .int .i64 p0_2, .slice a_p0_3 q_p0_3 c_p0_3])]) ⟨rfl, trivial⟩ ?_
  obtain rfl := SlR.qlen h_p0_3
  refine WK.sub (e' := [(0, .agg #[.int .i64 p0_0, .int .i64 p0_1, .int .i64 p0_2, .slice a_p0_3 p0_3.length c_p0_3])]) ⟨rfl, trivial⟩ ?_
  unfold census_Check at hm
  refine WK_seq ?_
  refine WK_region ?_
  refine WO_box [.int .i64 p0_0, .int .i64 p0_1, .int .i64 p0_2, .slice a_p0_3 p0_3.length c_p0_3] rfl rfl trivial rfl rfl rfl (fun b2 => ?_)
  refine WO.cls (C' := St w0 m m [[⟨b2, 50, [.int .i64 p0_0, .int .i64 p0_1, .int .i64 p0_2, .slice a_p0_3 p0_3.length c_p0_3]⟩]]) (fun _ h => h) ?_
  refine WO_pure tbok 1 [(1, .pointer (some ⟨b2, 0, none⟩)), (2, .int .i64 0)] rfl ⟨rfl, rfl, trivial⟩ ?_
  refine WO_end ?_
  refine WK_seq ?_
  refine WK_seq ?_
  obtain ⟨s_1, hx3, hm⟩ := bind_some hm
  refine WK_meet [(1, .pointer (some ⟨b2, 0, none⟩)), (2, .int .i64 0), (44, .bool s_1)] (St w0 m m [[⟨b2, 50, [.int .i64 p0_0, .int .i64 p0_1, .int .i64 p0_2, .slice a_p0_3 p0_3.length c_p0_3]⟩]]) ?_ (fun hk4 => ?_)
  · refine WK_cond (b := s_1) rfl (fun hb5 => ?_) (fun hb5 => ?_)
    · have hm := ifT hb5 hm
      refine WK_seq ?_
      refine WK_region ?_
      refine WO_pure tbok 1 [(1, .pointer (some ⟨b2, 0, none⟩)), (2, .int .i64 1)] rfl ⟨rfl, rfl, trivial⟩ ?_
      refine WO_end ?_
      cases hm
      exact WK_ret (ret_out (L := []) (RLc_tmp rfl RLc_nil) (List.nil_sublist _) rfl)
    · have hm := ifF hb5 hm
      refine WK_skip ?_
      refine WK_seq ?_
      refine WK_seq ?_
      refine WK_region ?_
      refine WO_pure tbok 1 [(2, .int .i64 0), (45, .pointer (some ⟨b2, 3, none⟩))] rfl ⟨rfl, rfl, trivial⟩ ?_
      refine WO_loadB tbok 0 rfl rfl rfl rfl (fun _ h => h) rfl rfl ?_
      obtain ⟨y_3, hc6, hm⟩ := bind_some hm
      refine WO_call0 (.bool y_3) rfl rfl trivial rfl rfl rfl rfl St_closed ⟨43, #[], #[], rfl, callable_43, fun w hw => ⟨_, hw.sat, slices_ContainsFunc_sint_walk h_p0_3 (fun m1 hm1 z_2 _ h => specV_cap callable_62 (census_Check_c1_walk h)) hc6⟩⟩ ?_
      refine WO_end ?_
      refine WK_cond (b := y_3) rfl (fun hb7 => ?_) (fun hb7 => ?_)
      · have hm := ifT hb7 hm
        refine WK_seq ?_
        refine WK_region ?_
        refine WO_pure tbok 1 [(2, .int .i64 1)] rfl ⟨rfl, trivial⟩ ?_
        refine WO_end ?_
        cases hm
        exact WK_ret (ret_out (L := []) (RLc_tmp rfl RLc_nil) (List.nil_sublist _) rfl)
      · have hm := ifF hb7 hm
        refine WK_skip ?_
        refine WK_seq ?_
        refine WK_region ?_
        refine WO_pure tbok 1 [(2, .int .i64 0)] rfl ⟨rfl, trivial⟩ ?_
        refine WO_end ?_
        cases hm
        exact WK_ret (ret_out (L := []) (RLc_tmp rfl RLc_nil) (List.nil_sublist _) rfl)
  · refine WK_region ?_
    refine WO_pure tbok 1 [(1, .pointer (some ⟨b2, 0, none⟩)), (2, .int .i64 0), (3, .pointer (some ⟨b2, 0, none⟩))] rfl ⟨rfl, rfl, rfl, trivial⟩ ?_
    refine WO_loadB tbok 0 rfl rfl rfl rfl (fun _ h => h) rfl rfl ?_
    refine WO_pure tbok 2 [(1, .pointer (some ⟨b2, 0, none⟩)), (2, .int .i64 0), (6, .bool (decide (p0_0 < 1)))] rfl ⟨rfl, rfl, rfl, trivial⟩ ?_
    refine WO_split (d := 6) (b := decide (p0_0 < 1)) rfl (fun hb8 => ?_) (fun hb8 => ?_)
    · have hx3 := ifT hb8 hx3
      refine WO_pure tbok 38 [(1, .pointer (some ⟨b2, 0, none⟩)), (2, .int .i64 0), (44, .bool true)] rfl ⟨rfl, rfl, rfl, trivial⟩ ?_
      refine WO_end ?_
      cases hx3
      refine WK.sub ?_ (WK.cls (fun _ h => h) hk4)
      exact ⟨rfl, rfl, rfl, trivial⟩
    · have hx3 := ifF hb8 hx3
      refine WO_pure tbok 1 [(1, .pointer (some ⟨b2, 0, none⟩)), (2, .int .i64 0), (6, .bool false), (7, .pointer (some ⟨b2, 0, none⟩))] rfl ⟨rfl, rfl, rfl, rfl, trivial⟩ ?_
      refine WO_loadB tbok 0 rfl rfl rfl rfl (fun _ h => h) rfl rfl ?_
      refine WO_pure tbok 3 [(1, .pointer (some ⟨b2, 0, none⟩)), (2, .int .i64 0), (11, .bool (decide (64 < p0_0)))] rfl ⟨rfl, rfl, rfl, trivial⟩ ?_
      refine WO_split (d := 11) (b := decide (64 < p0_0)) rfl (fun hb9 => ?_) (fun hb9 => ?_)
      · have hx3 := ifT hb9 hx3
        refine WO_pure tbok 33 [(1, .pointer (some ⟨b2, 0, none⟩)), (2, .int .i64 0), (44, .bool true)] rfl ⟨rfl, rfl, rfl, trivial⟩ ?_
        refine WO_end ?_
        cases hx3
        refine WK.sub ?_ (WK.cls (fun _ h => h) hk4)
        exact ⟨rfl, rfl, rfl, trivial⟩
      · have hx3 := ifF hb9 hx3
        refine WO_pure tbok 1 [(1, .pointer (some ⟨b2, 0, none⟩)), (2, .int .i64 0), (11, .bool false), (12, .pointer (some ⟨b2, 1, none⟩))] rfl ⟨rfl, rfl, rfl, rfl, trivial⟩ ?_
        refine WO_loadB tbok 0 rfl rfl rfl rfl (fun _ h => h) rfl rfl ?_
        refine WO_pure tbok 3 [(1, .pointer (some ⟨b2, 0, none⟩)), (2, .int .i64 0), (16, .bool (decide (p0_1 < 1)))] rfl ⟨rfl, rfl, rfl, trivial⟩ ?_
        refine WO_split (d := 16) (b := decide (p0_1 < 1)) rfl (fun hb10 => ?_) (fun hb10 => ?_)
        · have hx3 := ifT hb10 hx3
          refine WO_pure tbok 28 [(1, .pointer (some ⟨b2, 0, none⟩)), (2, .int .i64 0), (44, .bool true)] rfl ⟨rfl, rfl, rfl, trivial⟩ ?_
          refine WO_end ?_
          cases hx3
          refine WK.sub ?_ (WK.cls (fun _ h => h) hk4)
          exact ⟨rfl, rfl, rfl, trivial⟩
        · have hx3 := ifF hb10 hx3
          refine WO_pure tbok 1 [(1, .pointer (some ⟨b2, 0, none⟩)), (2, .int .i64 0), (16, .bool false), (17, .pointer (some ⟨b2, 1, none⟩))] rfl ⟨rfl, rfl, rfl, rfl, trivial⟩ ?_
          refine WO_loadB tbok 0 rfl rfl rfl rfl (fun _ h => h) rfl rfl ?_
          refine WO_pure tbok 3 [(1, .pointer (some ⟨b2, 0, none⟩)), (2, .int .i64 0), (21, .bool (decide (64 < p0_1)))] rfl ⟨rfl, rfl, rfl, trivial⟩ ?_
          refine WO_split (d := 21) (b := decide (64 < p0_1)) rfl (fun hb11 => ?_) (fun hb11 => ?_)
          · have hx3 := ifT hb11 hx3
            refine WO_pure tbok 23 [(1, .pointer (some ⟨b2, 0, none⟩)), (2, .int .i64 0), (44, .bool true)] rfl ⟨rfl, rfl, rfl, trivial⟩ ?_
            refine WO_end ?_
            cases hx3
            refine WK.sub ?_ (WK.cls (fun _ h => h) hk4)
            exact ⟨rfl, rfl, rfl, trivial⟩
          · have hx3 := ifF hb11 hx3
            refine WO_pure tbok 1 [(1, .pointer (some ⟨b2, 0, none⟩)), (2, .int .i64 0), (21, .bool false), (22, .pointer (some ⟨b2, 2, none⟩))] rfl ⟨rfl, rfl, rfl, rfl, trivial⟩ ?_
            refine WO_loadB tbok 0 rfl rfl rfl rfl (fun _ h => h) rfl rfl ?_
            refine WO_pure tbok 3 [(1, .pointer (some ⟨b2, 0, none⟩)), (2, .int .i64 0), (26, .bool (decide (p0_2 < 1)))] rfl ⟨rfl, rfl, rfl, trivial⟩ ?_
            refine WO_split (d := 26) (b := decide (p0_2 < 1)) rfl (fun hb12 => ?_) (fun hb12 => ?_)
            · have hx3 := ifT hb12 hx3
              refine WO_pure tbok 18 [(1, .pointer (some ⟨b2, 0, none⟩)), (2, .int .i64 0), (44, .bool true)] rfl ⟨rfl, rfl, rfl, trivial⟩ ?_
              refine WO_end ?_
              cases hx3
              refine WK.sub ?_ (WK.cls (fun _ h => h) hk4)
              exact ⟨rfl, rfl, rfl, trivial⟩
            · have hx3 := ifF hb12 hx3
              refine WO_pure tbok 1 [(1, .pointer (some ⟨b2, 0, none⟩)), (2, .int .i64 0), (26, .bool false), (27, .pointer (some ⟨b2, 2, none⟩))] rfl ⟨rfl, rfl, rfl, rfl, trivial⟩ ?_
              refine WO_loadB tbok 0 rfl rfl rfl rfl (fun _ h => h) rfl rfl ?_
              refine WO_pure tbok 3 [(1, .pointer (some ⟨b2, 0, none⟩)), (2, .int .i64 0), (31, .bool (decide (64 < p0_2)))] rfl ⟨rfl, rfl, rfl, trivial⟩ ?_
              refine WO_split (d := 31) (b := decide (64 < p0_2)) rfl (fun hb13 => ?_) (fun hb13 => ?_)
              · have hx3 := ifT hb13 hx3
                refine WO_pure tbok 13 [(1, .pointer (some ⟨b2, 0, none⟩)), (2, .int .i64 0), (44, .bool true)] rfl ⟨rfl, rfl, rfl, trivial⟩ ?_
                refine WO_end ?_
                cases hx3
                refine WK.sub ?_ (WK.cls (fun _ h => h) hk4)
                exact ⟨rfl, rfl, rfl, trivial⟩
              · have hx3 := ifF hb13 hx3
                refine WO_pure tbok 1 [(1, .pointer (some ⟨b2, 0, none⟩)), (2, .int .i64 0), (31, .bool false), (32, .pointer (some ⟨b2, 3, none⟩))] rfl ⟨rfl, rfl, rfl, rfl, trivial⟩ ?_
                refine WO_loadB tbok 0 rfl rfl rfl rfl (fun _ h => h) rfl rfl ?_
                refine WO_pure tbok 2 [(1, .pointer (some ⟨b2, 0, none⟩)), (2, .int .i64 0), (31, .bool false), (34, .int .i64 (p0_3.length : Int)), (35, .pointer (some ⟨b2, 0, none⟩))] rfl ⟨rfl, rfl, rfl, rfl, rfl, trivial⟩ ?_
                refine WO_loadB tbok 0 rfl rfl rfl rfl (fun _ h => h) rfl rfl ?_
                refine WO_pure tbok 1 [(1, .pointer (some ⟨b2, 0, none⟩)), (2, .int .i64 0), (31, .bool false), (34, .int .i64 (p0_3.length : Int)), (36, .int .i64 p0_0), (37, .pointer (some ⟨b2, 1, none⟩))] rfl ⟨rfl, rfl, rfl, rfl, rfl, rfl, trivial⟩ ?_
                refine WO_loadB tbok 0 rfl rfl rfl rfl (fun _ h => h) rfl rfl ?_
                refine WO_pure tbok 2 [(1, .pointer (some ⟨b2, 0, none⟩)), (2, .int .i64 0), (31, .bool false), (34, .int .i64 (p0_3.length : Int)), (39, .int .i64 (w64 (p0_0 * p0_1))), (40, .pointer (some ⟨b2, 2, none⟩))] rfl ⟨rfl, rfl, rfl, rfl, rfl, rfl, trivial⟩ ?_
                refine WO_loadB tbok 0 rfl rfl rfl rfl (fun _ h => h) rfl rfl ?_
                refine WO_pure tbok 3 [(1, .pointer (some ⟨b2, 0, none⟩)), (2, .int .i64 0), (44, .bool ((p0_3.length : Int) != (w64 ((w64 (p0_0 * p0_1)) * p0_2))))] rfl ⟨rfl, rfl, rfl, trivial⟩ ?_
                refine WO_end ?_
                cases hx3
                refine WK.sub ?_ (WK.cls (fun _ h => h) hk4)
                exact ⟨rfl, rfl, rfl, trivial⟩
end Go.Proofs.Ytgakaghdiodakaa
