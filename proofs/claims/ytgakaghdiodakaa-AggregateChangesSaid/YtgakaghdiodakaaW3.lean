import Derived.Test.YtgakaghdiodakaaTab
import Derived.Test.YtgakaghdiodakaaM
import Derived.Test.YtgakaghdiodakaaW2
set_option linter.unusedVariables false
set_option maxRecDepth 100000
set_option maxHeartbeats 4000000
namespace Go.Proofs.Ytgakaghdiodakaa
open Go.E Go.RowKit
attribute [local irreducible] Go.E.WO Go.E.WK
theorem fiduciallaw45_proves_walk {m : Mu} {p0 : List (List Int)} {p1 : Int} {p2 : Int} {p3 : List (List Int)} {p4 : Int} {a_p0 : Option Addr} {q_p0 c_p0 : Nat} {a_p3 : Option Addr} {q_p3 c_p3 : Nat} (h_p0 : SlR (RowE (FE (I1 .i64)) 1) 1 m (.slice a_p0 q_p0 c_p0) p0) (h_p3 : SlR (RowE (FE (I1 .i64)) 1) 1 m (.slice a_p3 q_p3 c_p3) p3) {r : Int} (hm : fiduciallaw45_proves p0 p1 p2 p3 p4 = some r) :
    Go.E.Spec Try.prog 14 [.slice a_p0 q_p0 c_p0, .int .i64 p1, .int .i64 p2, .slice a_p3 q_p3 c_p3, .int .i64 p4] m (fun v _ _ => v = .int .i64 r) := by
  refine Spec_enter Try.func14 rfl rfl rfl (fun w0 => ?_)
  refine WK.sub (e' := [(0, .slice a_p0 q_p0 c_p0), (1, .int .i64 p1), (2, .int .i64 p2), (3, .slice a_p3 q_p3 c_p3), (4, .int .i64 p4)]) ⟨rfl, rfl, rfl, rfl, rfl, trivial⟩ ?_
  obtain rfl := SlR.qlen h_p0
  obtain rfl := SlR.qlen h_p3
  refine WK.sub (e' := [(0, .slice a_p0 p0.length c_p0), (1, .int .i64 p1), (2, .int .i64 p2), (3, .slice a_p3 p3.length c_p3), (4, .int .i64 p4)]) ⟨rfl, rfl, rfl, rfl, rfl, trivial⟩ ?_
  unfold fiduciallaw45_proves at hm
  refine WK_seq ?_
  refine WK_region ?_
  refine WO_pure tbok 1 [(0, .slice a_p0 p0.length c_p0), (1, .int .i64 p1), (2, .int .i64 p2), (3, .slice a_p3 p3.length c_p3), (4, .int .i64 p4), (10, .int .i64 0)] rfl ⟨rfl, rfl, rfl, rfl, rfl, rfl, trivial⟩ ?_
  refine WO_end ?_
  refine WK_seq ?_
  refine WK_seq ?_
  refine WK_region ?_
  refine WO_pure tbok 5 [(0, .slice a_p0 p0.length c_p0), (1, .int .i64 p1), (2, .int .i64 p2), (3, .slice a_p3 p3.length c_p3), (4, .int .i64 p4), (10, .int .i64 0), (26, .bool ((p3.length : Int) != (p0.length : Int)))] rfl ⟨rfl, rfl, rfl, rfl, rfl, rfl, rfl, trivial⟩ ?_
  refine WO_end ?_
  refine WK_cond (b := (p3.length : Int) != (p0.length : Int)) rfl (fun hb1 => ?_) (fun hb1 => ?_)
  · have hm := ifT hb1 hm
    refine WK_seq ?_
    refine WK_region ?_
    refine WO_pure tbok 1 [(0, .slice a_p0 p0.length c_p0), (1, .int .i64 p1), (2, .int .i64 p2), (3, .slice a_p3 p3.length c_p3), (4, .int .i64 p4), (10, .int .i64 4)] rfl ⟨rfl, rfl, rfl, rfl, rfl, rfl, trivial⟩ ?_
    refine WO_end ?_
    cases hm
    exact WK_ret (ret_out (L := []) (RLc_tmp rfl RLc_nil) (List.nil_sublist _) rfl)
  · have hm := ifF hb1 hm
    refine WK_skip ?_
    refine WK_seq ?_
    refine WK_seq ?_
    refine WK_region ?_
    refine WO_pure tbok 3 [(0, .slice a_p0 p0.length c_p0), (1, .int .i64 p1), (2, .int .i64 p2), (3, .slice a_p3 p3.length c_p3), (4, .int .i64 p4), (10, .int .i64 0), (27, .slice a_p3 p3.length c_p3), (28, .int .i64 (p3.length : Int)), (29, .int .i64 0)] rfl ⟨rfl, rfl, rfl, rfl, rfl, rfl, rfl, rfl, rfl, trivial⟩ ?_
    refine WO_end ?_
    obtain ⟨x2, hx3, hm⟩ := bind_some hm
    refine WK_join (β := Unit × Unit) (fun p => Sum.inr p.1 = x2) (fun p => [(0, .slice a_p0 p0.length c_p0), (1, .int .i64 p1), (2, .int .i64 p2), (3, .slice a_p3 p3.length c_p3), (4, .int .i64 p4), (10, .int .i64 0)]) (fun p => St w0 m m []) ?_ (fun hk4 => ?_)
    · rintro ⟨⟨⟩, ⟨⟩⟩ hq10
      subst hq10
      refine WK.sub (e' := [(0, .slice a_p0 p0.length c_p0), (1, .int .i64 p1), (2, .int .i64 p2), (3, .slice a_p3 p3.length c_p3), (4, .int .i64 p4), (10, .int .i64 0)]) ⟨rfl, rfl, rfl, rfl, rfl, rfl, trivial⟩ (WK.cls (C' := St w0 m m []) (fun _ h => h) ?_)
      refine WK_seq ?_
      refine WK_seq ?_
      refine WK_region ?_
      refine WO_pure tbok 3 [(0, .slice a_p0 p0.length c_p0), (1, .int .i64 p1), (2, .int .i64 p2), (3, .slice a_p3 p3.length c_p3), (4, .int .i64 p4), (10, .int .i64 0), (41, .slice a_p3 p3.length c_p3), (42, .int .i64 (p3.length : Int)), (43, .int .i64 0)] rfl ⟨rfl, rfl, rfl, rfl, rfl, rfl, rfl, rfl, rfl, trivial⟩ ?_
      refine WO_end ?_
      obtain ⟨x11, hx12, hm⟩ := bind_some hm
      refine WK_join (β := Unit × Unit) (fun p => Sum.inr p.1 = x11) (fun p => [(0, .slice a_p0 p0.length c_p0), (1, .int .i64 p1), (2, .int .i64 p2), (3, .slice a_p3 p3.length c_p3), (4, .int .i64 p4), (10, .int .i64 0)]) (fun p => St w0 m m []) ?_ (fun hk13 => ?_)
      · rintro ⟨⟨⟩, ⟨⟩⟩ hq19
        subst hq19
        refine WK.sub (e' := [(0, .slice a_p0 p0.length c_p0), (1, .int .i64 p1), (2, .int .i64 p2), (3, .slice a_p3 p3.length c_p3), (4, .int .i64 p4), (10, .int .i64 0)]) ⟨rfl, rfl, rfl, rfl, rfl, rfl, trivial⟩ (WK.cls (C' := St w0 m m []) (fun _ h => h) ?_)
        refine WK_seq ?_
        refine WK_seq ?_
        refine WK_region ?_
        refine WO_pure tbok 3 [(0, .slice a_p0 p0.length c_p0), (1, .int .i64 p1), (2, .int .i64 p2), (3, .slice a_p3 p3.length c_p3), (4, .int .i64 p4), (10, .int .i64 0), (61, .slice a_p3 p3.length c_p3), (62, .int .i64 (p3.length : Int)), (63, .int .i64 0)] rfl ⟨rfl, rfl, rfl, rfl, rfl, rfl, rfl, rfl, rfl, trivial⟩ ?_
        refine WO_end ?_
        obtain ⟨x20, hx21, hm⟩ := bind_some hm
        refine WK_join (β := Unit × Unit) (fun p => Sum.inr p.1 = x20) (fun p => [(3, .slice a_p3 p3.length c_p3), (4, .int .i64 p4), (10, .int .i64 0)]) (fun p => St w0 m m []) ?_ (fun hk22 => ?_)
        · rintro ⟨⟨⟩, ⟨⟩⟩ hq28
          subst hq28
          refine WK.sub (e' := [(3, .slice a_p3 p3.length c_p3), (4, .int .i64 p4), (10, .int .i64 0)]) ⟨rfl, rfl, rfl, trivial⟩ (WK.cls (C' := St w0 m m []) (fun _ h => h) ?_)
          refine WK_seq ?_
          refine WK_seq ?_
          refine WK_region ?_
          refine WO_pure tbok 4 [(4, .int .i64 p4), (10, .int .i64 0), (124, .slice a_p3 p3.length c_p3), (127, .int .i64 (w64 ((p3.length : Int) - 1)))] rfl ⟨rfl, rfl, rfl, rfl, trivial⟩ ?_
          obtain ⟨v_4, hy29, hm⟩ := bind_some hm
          obtain ⟨hc30, hy29⟩ := ix_some hy29
          refine WO_index tbok rfl rfl rfl rfl rfl rfl rfl rfl (SlR.addr h_p3) hc30 ?_
          refine WO_loadR tbok rfl rfl rfl rfl (fun _ h => St.sat h) h_p3 hy29 rfl rfl (fun a31 c32 h33 => ?_)
          obtain ⟨y_5, hc34, hm⟩ := bind_some hm
          refine WO_call0 (.int .i64 y_5) rfl rfl trivial rfl rfl rfl rfl St_closed ⟨34, #[], #[], rfl, callable_34, fun w hw => ⟨_, hw.sat, slices_Min_sint_walk h33 hc34⟩⟩ ?_
          refine WO_pure tbok 2 [(10, .int .i64 0), (132, .bool (decide (y_5 < p4)))] rfl ⟨rfl, rfl, trivial⟩ ?_
          refine WO_end ?_
          refine WK_cond (b := decide (y_5 < p4)) rfl (fun hb35 => ?_) (fun hb35 => ?_)
          · have hm := ifT hb35 hm
            refine WK_seq ?_
            refine WK_region ?_
            refine WO_pure tbok 1 [(10, .int .i64 12)] rfl ⟨rfl, trivial⟩ ?_
            refine WO_end ?_
            cases hm
            exact WK_ret (ret_out (L := []) (RLc_tmp rfl RLc_nil) (List.nil_sublist _) rfl)
          · have hm := ifF hb35 hm
            refine WK_skip ?_
            refine WK_seq ?_
            refine WK_region ?_
            refine WO_pure tbok 1 [(10, .int .i64 0)] rfl ⟨rfl, trivial⟩ ?_
            refine WO_end ?_
            cases hm
            exact WK_ret (ret_out (L := []) (RLc_tmp rfl RLc_nil) (List.nil_sublist _) rfl)
        · refine WK_block ?_
          refine WK_loop (S := Int) (G := Unit) (fun s => fiduciallaw45_proves_s3 p0 p1 p2 p3 s) (fun s g => [(0, .slice a_p0 p0.length c_p0), (1, .int .i64 p1), (2, .int .i64 p2), (3, .slice a_p3 p3.length c_p3), (4, .int .i64 p4), (10, .int .i64 0), (61, .slice a_p3 p3.length c_p3), (62, .int .i64 (p3.length : Int)), (63, .int .i64 s)]) (fun s g => St w0 m m []) (fun s g => True) FUEL 0 () x20 hx21 trivial ⟨rfl, rfl, rfl, rfl, rfl, rfl, rfl, rfl, rfl, trivial⟩ (fun _ h => h) ?_
          rintro s_3 ⟨⟩ o24 fl25 hm23 - hn26 hd27
          have hm23 : fiduciallaw45_proves_s3 p0 p1 p2 p3 s_3 = some o24 := hm23
          unfold fiduciallaw45_proves_s3 at hm23
          refine WK.sub (e' := [(0, .slice a_p0 p0.length c_p0), (1, .int .i64 p1), (2, .int .i64 p2), (3, .slice a_p3 p3.length c_p3), (4, .int .i64 p4), (10, .int .i64 0), (61, .slice a_p3 p3.length c_p3), (62, .int .i64 (p3.length : Int)), (63, .int .i64 s_3)]) ⟨rfl, rfl, rfl, rfl, rfl, rfl, rfl, rfl, rfl, trivial⟩ (WK.cls (C' := St w0 m m []) (fun _ h => h) ?_)
          refine WK_seq ?_
          refine WK_region ?_
          refine WO_pure tbok 1 [(0, .slice a_p0 p0.length c_p0), (1, .int .i64 p1), (2, .int .i64 p2), (3, .slice a_p3 p3.length c_p3), (4, .int .i64 p4), (10, .int .i64 0), (61, .slice a_p3 p3.length c_p3), (62, .int .i64 (p3.length : Int)), (63, .int .i64 s_3), (64, .bool (decide (s_3 < (p3.length : Int))))] rfl ⟨rfl, rfl, rfl, rfl, rfl, rfl, rfl, rfl, rfl, rfl, trivial⟩ ?_
          refine WO_end ?_
          refine WK_seq ?_
          refine WK_cond (b := decide (s_3 < (p3.length : Int))) rfl (fun hb36 => ?_) (fun hb36 => ?_)
          · have hm23 := ifT hb36 hm23
            refine WK_skip ?_
            refine WK_seq ?_
            refine WK_block ?_
            refine WK_seq ?_
            refine WK_region ?_
            refine WO_pure tbok 1 [(0, .slice a_p0 p0.length c_p0), (1, .int .i64 p1), (2, .int .i64 p2), (3, .slice a_p3 p3.length c_p3), (4, .int .i64 p4), (10, .int .i64 0), (61, .slice a_p3 p3.length c_p3), (62, .int .i64 (p3.length : Int)), (63, .int .i64 s_3), (65, .int .i64 s_3)] rfl ⟨rfl, rfl, rfl, rfl, rfl, rfl, rfl, rfl, rfl, rfl, trivial⟩ ?_
            obtain ⟨v_6, hy37, hm23⟩ := bind_some hm23
            obtain ⟨hc38, hy37⟩ := ix_some hy37
            refine WO_index tbok rfl rfl rfl rfl rfl rfl rfl rfl (SlR.addr h_p3) hc38 ?_
            refine WO_loadR tbok rfl rfl rfl rfl (fun _ h => St.sat h) h_p3 hy37 rfl rfl (fun a39 c40 h41 => ?_)
            refine WO_pure tbok 2 [(0, .slice a_p0 p0.length c_p0), (1, .int .i64 p1), (2, .int .i64 p2), (3, .slice a_p3 p3.length c_p3), (4, .int .i64 p4), (10, .int .i64 0), (17, .int .i64 s_3), (18, .slice a39 ((v_6).length) c40), (61, .slice a_p3 p3.length c_p3), (62, .int .i64 (p3.length : Int)), (63, .int .i64 s_3)] rfl ⟨rfl, rfl, rfl, rfl, rfl, rfl, rfl, rfl, rfl, rfl, rfl, trivial⟩ ?_
            refine WO_end ?_
            refine WK_seq ?_
            refine WK_region ?_
            refine WO_pure tbok 3 [(0, .slice a_p0 p0.length c_p0), (1, .int .i64 p1), (2, .int .i64 p2), (3, .slice a_p3 p3.length c_p3), (4, .int .i64 p4), (10, .int .i64 0), (17, .int .i64 s_3), (18, .slice a39 ((v_6).length) c40), (61, .slice a_p3 p3.length c_p3), (62, .int .i64 (p3.length : Int)), (63, .int .i64 s_3), (68, .slice a39 ((v_6).length) c40), (69, .int .i64 ((v_6).length : Int)), (70, .int .i64 0)] rfl ⟨rfl, rfl, rfl, rfl, rfl, rfl, rfl, rfl, rfl, rfl, rfl, rfl, rfl, rfl, trivial⟩ ?_
            refine WO_end ?_
            obtain ⟨x42, hx43, hm23⟩ := bind_some hm23
            refine WK_join (β := Unit × Unit) (fun p => Sum.inr p.1 = x42) (fun p => [(0, .slice a_p0 p0.length c_p0), (1, .int .i64 p1), (2, .int .i64 p2), (3, .slice a_p3 p3.length c_p3), (4, .int .i64 p4), (10, .int .i64 0), (61, .slice a_p3 p3.length c_p3), (62, .int .i64 (p3.length : Int)), (63, .int .i64 s_3)]) (fun p => St w0 m m []) ?_ (fun hk44 => ?_)
            · rintro ⟨⟨⟩, ⟨⟩⟩ hq50
              subst hq50
              refine WK.sub (e' := [(0, .slice a_p0 p0.length c_p0), (1, .int .i64 p1), (2, .int .i64 p2), (3, .slice a_p3 p3.length c_p3), (4, .int .i64 p4), (10, .int .i64 0), (61, .slice a_p3 p3.length c_p3), (62, .int .i64 (p3.length : Int)), (63, .int .i64 s_3)]) ⟨rfl, rfl, rfl, rfl, rfl, rfl, rfl, rfl, rfl, trivial⟩ (WK.cls (C' := St w0 m m []) (fun _ h => h) ?_)
              refine WK_blk ?_
              refine WK_region ?_
              refine WO_pure tbok 2 [(0, .slice a_p0 p0.length c_p0), (1, .int .i64 p1), (2, .int .i64 p2), (3, .slice a_p3 p3.length c_p3), (4, .int .i64 p4), (10, .int .i64 0), (61, .slice a_p3 p3.length c_p3), (62, .int .i64 (p3.length : Int)), (63, .int .i64 (w64 (s_3 + 1)))] rfl ⟨rfl, rfl, rfl, rfl, rfl, rfl, rfl, rfl, rfl, trivial⟩ ?_
              refine WO_end ?_
              cases hm23
              refine WK.sub ?_ (WK.cls (fun _ h => h) (hn26 _ () rfl trivial))
              exact ⟨rfl, rfl, rfl, rfl, rfl, rfl, rfl, rfl, rfl, trivial⟩
            · refine WK_block ?_
              refine WK_loop (S := Int) (G := Unit) (fun s => fiduciallaw45_proves_s4 p0 p1 p2 p3 s_3 v_6 s) (fun s g => [(0, .slice a_p0 p0.length c_p0), (1, .int .i64 p1), (2, .int .i64 p2), (3, .slice a_p3 p3.length c_p3), (4, .int .i64 p4), (10, .int .i64 0), (17, .int .i64 s_3), (18, .slice a39 ((v_6).length) c40), (61, .slice a_p3 p3.length c_p3), (62, .int .i64 (p3.length : Int)), (63, .int .i64 s_3), (68, .slice a39 ((v_6).length) c40), (69, .int .i64 ((v_6).length : Int)), (70, .int .i64 s)]) (fun s g => St w0 m m []) (fun s g => True) FUEL 0 () x42 hx43 trivial ⟨rfl, rfl, rfl, rfl, rfl, rfl, rfl, rfl, rfl, rfl, rfl, rfl, rfl, rfl, trivial⟩ (fun _ h => h) ?_
              rintro s_7 ⟨⟩ o46 fl47 hm45 - hn48 hd49
              have hm45 : fiduciallaw45_proves_s4 p0 p1 p2 p3 s_3 v_6 s_7 = some o46 := hm45
              unfold fiduciallaw45_proves_s4 at hm45
              refine WK.sub (e' := [(0, .slice a_p0 p0.length c_p0), (1, .int .i64 p1), (2, .int .i64 p2), (3, .slice a_p3 p3.length c_p3), (4, .int .i64 p4), (10, .int .i64 0), (17, .int .i64 s_3), (18, .slice a39 ((v_6).length) c40), (61, .slice a_p3 p3.length c_p3), (62, .int .i64 (p3.length : Int)), (63, .int .i64 s_3), (68, .slice a39 ((v_6).length) c40), (69, .int .i64 ((v_6).length : Int)), (70, .int .i64 s_7)]) ⟨rfl, rfl, rfl, rfl, rfl, rfl, rfl, rfl, rfl, rfl, rfl, rfl, rfl, rfl, trivial⟩ (WK.cls (C' := St w0 m m []) (fun _ h => h) ?_)
              refine WK_seq ?_
              refine WK_region ?_
              refine WO_pure tbok 1 [(0, .slice a_p0 p0.length c_p0), (1, .int .i64 p1), (2, .int .i64 p2), (3, .slice a_p3 p3.length c_p3), (4, .int .i64 p4), (10, .int .i64 0), (17, .int .i64 s_3), (18, .slice a39 ((v_6).length) c40), (61, .slice a_p3 p3.length c_p3), (62, .int .i64 (p3.length : Int)), (63, .int .i64 s_3), (68, .slice a39 ((v_6).length) c40), (69, .int .i64 ((v_6).length : Int)), (70, .int .i64 s_7), (71, .bool (decide (s_7 < ((v_6).length : Int))))] rfl ⟨rfl, rfl, rfl, rfl, rfl, rfl, rfl, rfl, rfl, rfl, rfl, rfl, rfl, rfl, rfl, trivial⟩ ?_
              refine WO_end ?_
              refine WK_seq ?_
              refine WK_cond (b := decide (s_7 < ((v_6).length : Int))) rfl (fun hb51 => ?_) (fun hb51 => ?_)
              · have hm45 := ifT hb51 hm45
                refine WK_skip ?_
                refine WK_seq ?_
                refine WK_block ?_
                refine WK_seq ?_
                refine WK_region ?_
                refine WO_pure tbok 1 [(0, .slice a_p0 p0.length c_p0), (1, .int .i64 p1), (2, .int .i64 p2), (3, .slice a_p3 p3.length c_p3), (4, .int .i64 p4), (10, .int .i64 0), (17, .int .i64 s_3), (18, .slice a39 ((v_6).length) c40), (61, .slice a_p3 p3.length c_p3), (62, .int .i64 (p3.length : Int)), (63, .int .i64 s_3), (68, .slice a39 ((v_6).length) c40), (69, .int .i64 ((v_6).length : Int)), (70, .int .i64 s_7), (72, .int .i64 s_7)] rfl ⟨rfl, rfl, rfl, rfl, rfl, rfl, rfl, rfl, rfl, rfl, rfl, rfl, rfl, rfl, rfl, trivial⟩ ?_
                obtain ⟨v_8, hy52, hm45⟩ := bind_some hm45
                obtain ⟨hc53, hy52⟩ := ix_some hy52
                refine WO_index tbok rfl rfl rfl rfl rfl rfl rfl rfl (SlR.addr h41) hc53 ?_
                refine WO_loadE tbok rfl rfl rfl rfl (fun _ h => St.sat h) h41 hy52 rfl ?_
                refine WO_pure tbok 2 [(0, .slice a_p0 p0.length c_p0), (1, .int .i64 p1), (2, .int .i64 p2), (3, .slice a_p3 p3.length c_p3), (4, .int .i64 p4), (10, .int .i64 0), (17, .int .i64 s_3), (18, .slice a39 ((v_6).length) c40), (19, .int .i64 s_7), (20, .int .i64 v_8), (61, .slice a_p3 p3.length c_p3), (62, .int .i64 (p3.length : Int)), (63, .int .i64 s_3), (68, .slice a39 ((v_6).length) c40), (69, .int .i64 ((v_6).length : Int)), (70, .int .i64 s_7)] rfl ⟨rfl, rfl, rfl, rfl, rfl, rfl, rfl, rfl, rfl, rfl, rfl, rfl, rfl, rfl, rfl, rfl, trivial⟩ ?_
                refine WO_end ?_
                refine WK_seq ?_
                refine WK_seq ?_
                obtain ⟨s_9, hx54, hm45⟩ := bind_some hm45
                refine WK_meet [(0, .slice a_p0 p0.length c_p0), (1, .int .i64 p1), (2, .int .i64 p2), (3, .slice a_p3 p3.length c_p3), (4, .int .i64 p4), (10, .int .i64 0), (17, .int .i64 s_3), (18, .slice a39 ((v_6).length) c40), (19, .int .i64 s_7), (20, .int .i64 v_8), (61, .slice a_p3 p3.length c_p3), (62, .int .i64 (p3.length : Int)), (63, .int .i64 s_3), (68, .slice a39 ((v_6).length) c40), (69, .int .i64 ((v_6).length : Int)), (70, .int .i64 s_7), (86, .bool s_9)] (St w0 m m []) ?_ (fun hk55 => ?_)
                · refine WK_cond (b := s_9) rfl (fun hb56 => ?_) (fun hb56 => ?_)
                  · have hm45 := ifT hb56 hm45
                    refine WK_seq ?_
                    refine WK_region ?_
                    refine WO_pure tbok 1 [(0, .slice a_p0 p0.length c_p0), (1, .int .i64 p1), (2, .int .i64 p2), (3, .slice a_p3 p3.length c_p3), (4, .int .i64 p4), (10, .int .i64 12), (17, .int .i64 s_3), (18, .slice a39 ((v_6).length) c40), (19, .int .i64 s_7), (20, .int .i64 v_8), (61, .slice a_p3 p3.length c_p3), (62, .int .i64 (p3.length : Int)), (63, .int .i64 s_3), (68, .slice a39 ((v_6).length) c40), (69, .int .i64 ((v_6).length : Int)), (70, .int .i64 s_7)] rfl ⟨rfl, rfl, rfl, rfl, rfl, rfl, rfl, rfl, rfl, rfl, rfl, rfl, rfl, rfl, rfl, rfl, trivial⟩ ?_
                    refine WO_end ?_
                    cases hm45
                    have hq := hd49 _ rfl
                    subst hq
                    have hm23 : some _ = some _ := hm23
                    cases hm23
                    have hq := hd27 _ rfl
                    subst hq
                    have hm : some _ = some _ := hm
                    cases hm
                    exact WK_ret (ret_out (L := []) (RLc_tmp rfl RLc_nil) (List.nil_sublist _) rfl)
                  · have hm45 := ifF hb56 hm45
                    refine WK_skip ?_
                    refine WK_seq ?_
                    refine WK_region ?_
                    refine WO_pure tbok 3 [(0, .slice a_p0 p0.length c_p0), (1, .int .i64 p1), (2, .int .i64 p2), (3, .slice a_p3 p3.length c_p3), (4, .int .i64 p4), (10, .int .i64 0), (17, .int .i64 s_3), (18, .slice a39 ((v_6).length) c40), (19, .int .i64 s_7), (20, .int .i64 v_8), (61, .slice a_p3 p3.length c_p3), (62, .int .i64 (p3.length : Int)), (63, .int .i64 s_3), (68, .slice a39 ((v_6).length) c40), (69, .int .i64 ((v_6).length : Int)), (70, .int .i64 s_7), (88, .int .i64 ((v_6).length : Int)), (89, .int .i64 0)] rfl ⟨rfl, rfl, rfl, rfl, rfl, rfl, rfl, rfl, rfl, rfl, rfl, rfl, rfl, rfl, rfl, rfl, rfl, rfl, trivial⟩ ?_
                    refine WO_end ?_
                    obtain ⟨x57, hx58, hm45⟩ := bind_some hm45
                    refine WK_join (β := Unit × Unit) (fun p => Sum.inr p.1 = x57) (fun p => [(0, .slice a_p0 p0.length c_p0), (1, .int .i64 p1), (2, .int .i64 p2), (3, .slice a_p3 p3.length c_p3), (4, .int .i64 p4), (10, .int .i64 0), (17, .int .i64 s_3), (18, .slice a39 ((v_6).length) c40), (61, .slice a_p3 p3.length c_p3), (62, .int .i64 (p3.length : Int)), (63, .int .i64 s_3), (68, .slice a39 ((v_6).length) c40), (69, .int .i64 ((v_6).length : Int)), (70, .int .i64 s_7)]) (fun p => St w0 m m []) ?_ (fun hk59 => ?_)
                    · rintro ⟨⟨⟩, ⟨⟩⟩ hq65
                      subst hq65
                      refine WK.sub (e' := [(0, .slice a_p0 p0.length c_p0), (1, .int .i64 p1), (2, .int .i64 p2), (3, .slice a_p3 p3.length c_p3), (4, .int .i64 p4), (10, .int .i64 0), (17, .int .i64 s_3), (18, .slice a39 ((v_6).length) c40), (61, .slice a_p3 p3.length c_p3), (62, .int .i64 (p3.length : Int)), (63, .int .i64 s_3), (68, .slice a39 ((v_6).length) c40), (69, .int .i64 ((v_6).length : Int)), (70, .int .i64 s_7)]) ⟨rfl, rfl, rfl, rfl, rfl, rfl, rfl, rfl, rfl, rfl, rfl, rfl, rfl, rfl, trivial⟩ (WK.cls (C' := St w0 m m []) (fun _ h => h) ?_)
                      refine WK_blk ?_
                      refine WK_region ?_
                      refine WO_pure tbok 2 [(0, .slice a_p0 p0.length c_p0), (1, .int .i64 p1), (2, .int .i64 p2), (3, .slice a_p3 p3.length c_p3), (4, .int .i64 p4), (10, .int .i64 0), (17, .int .i64 s_3), (18, .slice a39 ((v_6).length) c40), (61, .slice a_p3 p3.length c_p3), (62, .int .i64 (p3.length : Int)), (63, .int .i64 s_3), (68, .slice a39 ((v_6).length) c40), (69, .int .i64 ((v_6).length : Int)), (70, .int .i64 (w64 (s_7 + 1)))] rfl ⟨rfl, rfl, rfl, rfl, rfl, rfl, rfl, rfl, rfl, rfl, rfl, rfl, rfl, rfl, trivial⟩ ?_
                      refine WO_end ?_
                      cases hm45
                      refine WK.sub ?_ (WK.cls (fun _ h => h) (hn48 _ () rfl trivial))
                      exact ⟨rfl, rfl, rfl, rfl, rfl, rfl, rfl, rfl, rfl, rfl, rfl, rfl, rfl, rfl, trivial⟩
                    · refine WK_block ?_
                      refine WK_loop (S := Int) (G := Unit) (fun s => fiduciallaw45_proves_s5 p0 p1 p2 p3 s_3 v_6 s_7 v_8 s) (fun s g => [(0, .slice a_p0 p0.length c_p0), (1, .int .i64 p1), (2, .int .i64 p2), (3, .slice a_p3 p3.length c_p3), (4, .int .i64 p4), (10, .int .i64 0), (17, .int .i64 s_3), (18, .slice a39 ((v_6).length) c40), (19, .int .i64 s_7), (20, .int .i64 v_8), (61, .slice a_p3 p3.length c_p3), (62, .int .i64 (p3.length : Int)), (63, .int .i64 s_3), (68, .slice a39 ((v_6).length) c40), (69, .int .i64 ((v_6).length : Int)), (70, .int .i64 s_7), (88, .int .i64 ((v_6).length : Int)), (89, .int .i64 s)]) (fun s g => St w0 m m []) (fun s g => True) FUEL 0 () x57 hx58 trivial ⟨rfl, rfl, rfl, rfl, rfl, rfl, rfl, rfl, rfl, rfl, rfl, rfl, rfl, rfl, rfl, rfl, rfl, rfl, trivial⟩ (fun _ h => h) ?_
                      rintro s_10 ⟨⟩ o61 fl62 hm60 - hn63 hd64
                      have hm60 : fiduciallaw45_proves_s5 p0 p1 p2 p3 s_3 v_6 s_7 v_8 s_10 = some o61 := hm60
                      unfold fiduciallaw45_proves_s5 at hm60
                      refine WK.sub (e' := [(0, .slice a_p0 p0.length c_p0), (1, .int .i64 p1), (2, .int .i64 p2), (3, .slice a_p3 p3.length c_p3), (4, .int .i64 p4), (10, .int .i64 0), (17, .int .i64 s_3), (18, .slice a39 ((v_6).length) c40), (19, .int .i64 s_7), (20, .int .i64 v_8), (61, .slice a_p3 p3.length c_p3), (62, .int .i64 (p3.length : Int)), (63, .int .i64 s_3), (68, .slice a39 ((v_6).length) c40), (69, .int .i64 ((v_6).length : Int)), (70, .int .i64 s_7), (88, .int .i64 ((v_6).length : Int)), (89, .int .i64 s_10)]) ⟨rfl, rfl, rfl, rfl, rfl, rfl, rfl, rfl, rfl, rfl, rfl, rfl, rfl, rfl, rfl, rfl, rfl, rfl, trivial⟩ (WK.cls (C' := St w0 m m []) (fun _ h => h) ?_)
                      refine WK_seq ?_
                      refine WK_region ?_
                      refine WO_pure tbok 1 [(0, .slice a_p0 p0.length c_p0), (1, .int .i64 p1), (2, .int .i64 p2), (3, .slice a_p3 p3.length c_p3), (4, .int .i64 p4), (10, .int .i64 0), (17, .int .i64 s_3), (18, .slice a39 ((v_6).length) c40), (19, .int .i64 s_7), (20, .int .i64 v_8), (61, .slice a_p3 p3.length c_p3), (62, .int .i64 (p3.length : Int)), (63, .int .i64 s_3), (68, .slice a39 ((v_6).length) c40), (69, .int .i64 ((v_6).length : Int)), (70, .int .i64 s_7), (88, .int .i64 ((v_6).length : Int)), (89, .int .i64 s_10), (90, .bool (decide (s_10 < ((v_6).length : Int))))] rfl ⟨rfl, rfl, rfl, rfl, rfl, rfl, rfl, rfl, rfl, rfl, rfl, rfl, rfl, rfl, rfl, rfl, rfl, rfl, rfl, trivial⟩ ?_
                      refine WO_end ?_
                      refine WK_seq ?_
                      refine WK_cond (b := decide (s_10 < ((v_6).length : Int))) rfl (fun hb66 => ?_) (fun hb66 => ?_)
                      · have hm60 := ifT hb66 hm60
                        refine WK_skip ?_
                        refine WK_seq ?_
                        refine WK_block ?_
                        refine WK_seq ?_
                        refine WK_region ?_
                        refine WO_pure tbok 2 [(0, .slice a_p0 p0.length c_p0), (1, .int .i64 p1), (2, .int .i64 p2), (3, .slice a_p3 p3.length c_p3), (4, .int .i64 p4), (10, .int .i64 0), (17, .int .i64 s_3), (18, .slice a39 ((v_6).length) c40), (19, .int .i64 s_7), (20, .int .i64 v_8), (21, .int .i64 s_10), (61, .slice a_p3 p3.length c_p3), (62, .int .i64 (p3.length : Int)), (63, .int .i64 s_3), (68, .slice a39 ((v_6).length) c40), (69, .int .i64 ((v_6).length : Int)), (70, .int .i64 s_7), (88, .int .i64 ((v_6).length : Int)), (89, .int .i64 s_10)] rfl ⟨rfl, rfl, rfl, rfl, rfl, rfl, rfl, rfl, rfl, rfl, rfl, rfl, rfl, rfl, rfl, rfl, rfl, rfl, rfl, trivial⟩ ?_
                        refine WO_end ?_
                        refine WK_seq ?_
                        obtain ⟨s_11, hx67, hm60⟩ := bind_some hm60
                        refine WK_meet [(0, .slice a_p0 p0.length c_p0), (1, .int .i64 p1), (2, .int .i64 p2), (3, .slice a_p3 p3.length c_p3), (4, .int .i64 p4), (10, .int .i64 0), (17, .int .i64 s_3), (18, .slice a39 ((v_6).length) c40), (19, .int .i64 s_7), (20, .int .i64 v_8), (61, .slice a_p3 p3.length c_p3), (62, .int .i64 (p3.length : Int)), (63, .int .i64 s_3), (68, .slice a39 ((v_6).length) c40), (69, .int .i64 ((v_6).length : Int)), (70, .int .i64 s_7), (88, .int .i64 ((v_6).length : Int)), (89, .int .i64 s_10), (120, .bool s_11)] (St w0 m m []) ?_ (fun hk68 => ?_)
                        · refine WK_cond (b := s_11) rfl (fun hb69 => ?_) (fun hb69 => ?_)
                          · have hm60 := ifT hb69 hm60
                            refine WK_seq ?_
                            refine WK_region ?_
                            refine WO_pure tbok 1 [(0, .slice a_p0 p0.length c_p0), (1, .int .i64 p1), (2, .int .i64 p2), (3, .slice a_p3 p3.length c_p3), (4, .int .i64 p4), (10, .int .i64 12), (17, .int .i64 s_3), (18, .slice a39 ((v_6).length) c40), (19, .int .i64 s_7), (20, .int .i64 v_8), (61, .slice a_p3 p3.length c_p3), (62, .int .i64 (p3.length : Int)), (63, .int .i64 s_3), (68, .slice a39 ((v_6).length) c40), (69, .int .i64 ((v_6).length : Int)), (70, .int .i64 s_7), (88, .int .i64 ((v_6).length : Int)), (89, .int .i64 s_10)] rfl ⟨rfl, rfl, rfl, rfl, rfl, rfl, rfl, rfl, rfl, rfl, rfl, rfl, rfl, rfl, rfl, rfl, rfl, rfl, trivial⟩ ?_
                            refine WO_end ?_
                            cases hm60
                            have hq := hd64 _ rfl
                            subst hq
                            have hm45 : some _ = some _ := hm45
                            cases hm45
                            have hq := hd49 _ rfl
                            subst hq
                            have hm23 : some _ = some _ := hm23
                            cases hm23
                            have hq := hd27 _ rfl
                            subst hq
                            have hm : some _ = some _ := hm
                            cases hm
                            exact WK_ret (ret_out (L := []) (RLc_tmp rfl RLc_nil) (List.nil_sublist _) rfl)
                          · have hm60 := ifF hb69 hm60
                            refine WK_skip ?_
                            refine WK_blk ?_
                            refine WK_region ?_
                            refine WO_pure tbok 2 [(0, .slice a_p0 p0.length c_p0), (1, .int .i64 p1), (2, .int .i64 p2), (3, .slice a_p3 p3.length c_p3), (4, .int .i64 p4), (10, .int .i64 0), (17, .int .i64 s_3), (18, .slice a39 ((v_6).length) c40), (19, .int .i64 s_7), (20, .int .i64 v_8), (61, .slice a_p3 p3.length c_p3), (62, .int .i64 (p3.length : Int)), (63, .int .i64 s_3), (68, .slice a39 ((v_6).length) c40), (69, .int .i64 ((v_6).length : Int)), (70, .int .i64 s_7), (88, .int .i64 ((v_6).length : Int)), (89, .int .i64 (w64 (s_10 + 1)))] rfl ⟨rfl, rfl, rfl, rfl, rfl, rfl, rfl, rfl, rfl, rfl, rfl, rfl, rfl, rfl, rfl, rfl, rfl, rfl, trivial⟩ ?_
                            refine WO_end ?_
                            cases hm60
                            refine WK.sub ?_ (WK.cls (fun _ h => h) (hn63 _ () rfl trivial))
                            exact ⟨rfl, rfl, rfl, rfl, rfl, rfl, rfl, rfl, rfl, rfl, rfl, rfl, rfl, rfl, rfl, rfl, rfl, rfl, trivial⟩
                        · refine WK_draw 29 [0, 1, 2, 3, 4, 5, 6, 7, 8, 9, 10, 11, 12, 13, 14, 15, 16, 17, 18, 19, 20, 21, 22, 23, 24, 25, 26, 27, 28] follows_ok (by kernel_rfl) St_closed ?_
                          refine WO_pure tbok 3 [(0, .slice a_p0 p0.length c_p0), (1, .int .i64 p1), (2, .int .i64 p2), (3, .slice a_p3 p3.length c_p3), (4, .int .i64 p4), (10, .int .i64 0), (17, .int .i64 s_3), (18, .slice a39 ((v_6).length) c40), (19, .int .i64 s_7), (20, .int .i64 v_8), (21, .int .i64 s_10), (61, .slice a_p3 p3.length c_p3), (62, .int .i64 (p3.length : Int)), (63, .int .i64 s_3), (68, .slice a39 ((v_6).length) c40), (69, .int .i64 ((v_6).length : Int)), (70, .int .i64 s_7), (88, .int .i64 ((v_6).length : Int)), (89, .int .i64 s_10), (94, .bool (decide (0 < s_3)))] rfl ⟨rfl, rfl, rfl, rfl, rfl, rfl, rfl, rfl, rfl, rfl, rfl, rfl, rfl, rfl, rfl, rfl, rfl, rfl, rfl, rfl, trivial⟩ ?_
                          refine WO_split (d := 94) (b := decide (0 < s_3)) rfl (fun hb70 => ?_) (fun hb70 => ?_)
                          · have hx67 := ifT hb70 hx67
                            refine WO_pure tbok 3 [(0, .slice a_p0 p0.length c_p0), (1, .int .i64 p1), (2, .int .i64 p2), (3, .slice a_p3 p3.length c_p3), (4, .int .i64 p4), (10, .int .i64 0), (17, .int .i64 s_3), (18, .slice a39 ((v_6).length) c40), (19, .int .i64 s_7), (20, .int .i64 v_8), (21, .int .i64 s_10), (61, .slice a_p3 p3.length c_p3), (62, .int .i64 (p3.length : Int)), (63, .int .i64 s_3), (68, .slice a39 ((v_6).length) c40), (69, .int .i64 ((v_6).length : Int)), (70, .int .i64 s_7), (88, .int .i64 ((v_6).length : Int)), (89, .int .i64 s_10), (94, .bool true), (95, .int .i64 v_8), (96, .slice a_p0 p0.length c_p0), (97, .int .i64 s_3)] rfl ⟨rfl, rfl, rfl, rfl, rfl, rfl, rfl, rfl, rfl, rfl, rfl, rfl, rfl, rfl, rfl, rfl, rfl, rfl, rfl, rfl, rfl, rfl, rfl, trivial⟩ ?_
                            obtain ⟨v_12, hy71, hx67⟩ := bind_some hx67
                            obtain ⟨hc72, hy71⟩ := ix_some hy71
                            refine WO_index tbok rfl rfl rfl rfl rfl rfl rfl rfl (SlR.addr h_p0) hc72 ?_
                            refine WO_loadR tbok rfl rfl rfl rfl (fun _ h => St.sat h) h_p0 hy71 rfl rfl (fun a73 c74 h75 => ?_)
                            refine WO_pure tbok 1 [(0, .slice a_p0 p0.length c_p0), (1, .int .i64 p1), (2, .int .i64 p2), (3, .slice a_p3 p3.length c_p3), (4, .int .i64 p4), (10, .int .i64 0), (17, .int .i64 s_3), (18, .slice a39 ((v_6).length) c40), (19, .int .i64 s_7), (20, .int .i64 v_8), (21, .int .i64 s_10), (61, .slice a_p3 p3.length c_p3), (62, .int .i64 (p3.length : Int)), (63, .int .i64 s_3), (68, .slice a39 ((v_6).length) c40), (69, .int .i64 ((v_6).length : Int)), (70, .int .i64 s_7), (88, .int .i64 ((v_6).length : Int)), (89, .int .i64 s_10), (94, .bool true), (95, .int .i64 v_8), (99, .slice a73 ((v_12).length) c74), (100, .int .i64 s_7)] rfl ⟨rfl, rfl, rfl, rfl, rfl, rfl, rfl, rfl, rfl, rfl, rfl, rfl, rfl, rfl, rfl, rfl, rfl, rfl, rfl, rfl, rfl, rfl, rfl, trivial⟩ ?_
                            obtain ⟨v_13, hy76, hx67⟩ := bind_some hx67
                            obtain ⟨hc77, hy76⟩ := ix_some hy76
                            refine WO_index tbok rfl rfl rfl rfl rfl rfl rfl rfl (SlR.addr h75) hc77 ?_
                            refine WO_loadE tbok rfl rfl rfl rfl (fun _ h => St.sat h) h75 hy76 rfl ?_
                            refine WO_pure tbok 3 [(0, .slice a_p0 p0.length c_p0), (1, .int .i64 p1), (2, .int .i64 p2), (3, .slice a_p3 p3.length c_p3), (4, .int .i64 p4), (10, .int .i64 0), (17, .int .i64 s_3), (18, .slice a39 ((v_6).length) c40), (19, .int .i64 s_7), (20, .int .i64 v_8), (21, .int .i64 s_10), (61, .slice a_p3 p3.length c_p3), (62, .int .i64 (p3.length : Int)), (63, .int .i64 s_3), (68, .slice a39 ((v_6).length) c40), (69, .int .i64 ((v_6).length : Int)), (70, .int .i64 s_7), (88, .int .i64 ((v_6).length : Int)), (89, .int .i64 s_10), (94, .bool true), (95, .int .i64 v_8), (102, .int .i64 v_13), (103, .slice a_p3 p3.length c_p3), (105, .int .i64 (w64 (s_3 - 1)))] rfl ⟨rfl, rfl, rfl, rfl, rfl, rfl, rfl, rfl, rfl, rfl, rfl, rfl, rfl, rfl, rfl, rfl, rfl, rfl, rfl, rfl, rfl, rfl, rfl, rfl, trivial⟩ ?_
                            obtain ⟨v_14, hy78, hx67⟩ := bind_some hx67
                            obtain ⟨hc79, hy78⟩ := ix_some hy78
                            refine WO_index tbok rfl rfl rfl rfl rfl rfl rfl rfl (SlR.addr h_p3) hc79 ?_
                            refine WO_loadR tbok rfl rfl rfl rfl (fun _ h => St.sat h) h_p3 hy78 rfl rfl (fun a80 c81 h82 => ?_)
                            refine WO_pure tbok 1 [(0, .slice a_p0 p0.length c_p0), (1, .int .i64 p1), (2, .int .i64 p2), (3, .slice a_p3 p3.length c_p3), (4, .int .i64 p4), (10, .int .i64 0), (17, .int .i64 s_3), (18, .slice a39 ((v_6).length) c40), (19, .int .i64 s_7), (20, .int .i64 v_8), (21, .int .i64 s_10), (61, .slice a_p3 p3.length c_p3), (62, .int .i64 (p3.length : Int)), (63, .int .i64 s_3), (68, .slice a39 ((v_6).length) c40), (69, .int .i64 ((v_6).length : Int)), (70, .int .i64 s_7), (88, .int .i64 ((v_6).length : Int)), (89, .int .i64 s_10), (94, .bool true), (95, .int .i64 v_8), (102, .int .i64 v_13), (107, .slice a80 ((v_14).length) c81), (108, .int .i64 s_10)] rfl ⟨rfl, rfl, rfl, rfl, rfl, rfl, rfl, rfl, rfl, rfl, rfl, rfl, rfl, rfl, rfl, rfl, rfl, rfl, rfl, rfl, rfl, rfl, rfl, rfl, trivial⟩ ?_
                            obtain ⟨v_15, hy83, hx67⟩ := bind_some hx67
                            obtain ⟨hc84, hy83⟩ := ix_some hy83
                            refine WO_index tbok rfl rfl rfl rfl rfl rfl rfl rfl (SlR.addr h82) hc84 ?_
                            refine WO_loadE tbok rfl rfl rfl rfl (fun _ h => St.sat h) h82 hy83 rfl ?_
                            refine WO_pure tbok 6 [(0, .slice a_p0 p0.length c_p0), (1, .int .i64 p1), (2, .int .i64 p2), (3, .slice a_p3 p3.length c_p3), (4, .int .i64 p4), (10, .int .i64 0), (17, .int .i64 s_3), (18, .slice a39 ((v_6).length) c40), (19, .int .i64 s_7), (20, .int .i64 v_8), (61, .slice a_p3 p3.length c_p3), (62, .int .i64 (p3.length : Int)), (63, .int .i64 s_3), (68, .slice a39 ((v_6).length) c40), (69, .int .i64 ((v_6).length : Int)), (70, .int .i64 s_7), (88, .int .i64 ((v_6).length : Int)), (89, .int .i64 s_10), (94, .bool true), (95, .int .i64 v_8), (111, .int .i64 (w64 (v_13 + v_15))), (114, .int .i64 (w64 (s_7 - s_10))), (115, .int .i64 p1), (116, .int .i64 p2)] rfl ⟨rfl, rfl, rfl, rfl, rfl, rfl, rfl, rfl, rfl, rfl, rfl, rfl, rfl, rfl, rfl, rfl, rfl, rfl, rfl, rfl, rfl, rfl, rfl, rfl, trivial⟩ ?_
                            obtain ⟨y_16, hc85, hx67⟩ := bind_some hx67
                            refine WO_call0 (.int .i64 y_16) rfl rfl St_closed rfl rfl rfl rfl St_closed ⟨39, #[], #[], rfl, callable_39, fun w hw => ⟨_, hw.sat, fiduciallaw45_jump_walk hc85⟩⟩ ?_
                            refine WO_pure tbok 3 [(0, .slice a_p0 p0.length c_p0), (1, .int .i64 p1), (2, .int .i64 p2), (3, .slice a_p3 p3.length c_p3), (4, .int .i64 p4), (10, .int .i64 0), (17, .int .i64 s_3), (18, .slice a39 ((v_6).length) c40), (19, .int .i64 s_7), (20, .int .i64 v_8), (61, .slice a_p3 p3.length c_p3), (62, .int .i64 (p3.length : Int)), (63, .int .i64 s_3), (68, .slice a39 ((v_6).length) c40), (69, .int .i64 ((v_6).length : Int)), (70, .int .i64 s_7), (88, .int .i64 ((v_6).length : Int)), (89, .int .i64 s_10), (120, .bool (decide ((w64 ((w64 (v_13 + v_15)) + y_16)) < v_8)))] rfl ⟨rfl, rfl, rfl, rfl, rfl, rfl, rfl, rfl, rfl, rfl, rfl, rfl, rfl, rfl, rfl, rfl, rfl, rfl, rfl, trivial⟩ ?_
                            refine WO_tail ?_
                            refine WO_end ?_
                            cases hx67
                            refine WK.sub ?_ (WK.cls (fun _ h => h) hk68)
                            exact ⟨rfl, rfl, rfl, rfl, rfl, rfl, rfl, rfl, rfl, rfl, rfl, rfl, rfl, rfl, rfl, rfl, rfl, rfl, rfl, trivial⟩
                          · have hx67 := ifF hb70 hx67
                            refine WO_pure tbok 22 [(0, .slice a_p0 p0.length c_p0), (1, .int .i64 p1), (2, .int .i64 p2), (3, .slice a_p3 p3.length c_p3), (4, .int .i64 p4), (10, .int .i64 0), (17, .int .i64 s_3), (18, .slice a39 ((v_6).length) c40), (19, .int .i64 s_7), (20, .int .i64 v_8), (61, .slice a_p3 p3.length c_p3), (62, .int .i64 (p3.length : Int)), (63, .int .i64 s_3), (68, .slice a39 ((v_6).length) c40), (69, .int .i64 ((v_6).length : Int)), (70, .int .i64 s_7), (88, .int .i64 ((v_6).length : Int)), (89, .int .i64 s_10), (94, .bool false)] rfl ⟨rfl, rfl, rfl, rfl, rfl, rfl, rfl, rfl, rfl, rfl, rfl, rfl, rfl, rfl, rfl, rfl, rfl, rfl, rfl, trivial⟩ ?_
                            refine WO_skip rfl rfl ?_
                            refine WO_pure tbok 3 [(0, .slice a_p0 p0.length c_p0), (1, .int .i64 p1), (2, .int .i64 p2), (3, .slice a_p3 p3.length c_p3), (4, .int .i64 p4), (10, .int .i64 0), (17, .int .i64 s_3), (18, .slice a39 ((v_6).length) c40), (19, .int .i64 s_7), (20, .int .i64 v_8), (61, .slice a_p3 p3.length c_p3), (62, .int .i64 (p3.length : Int)), (63, .int .i64 s_3), (68, .slice a39 ((v_6).length) c40), (69, .int .i64 ((v_6).length : Int)), (70, .int .i64 s_7), (88, .int .i64 ((v_6).length : Int)), (89, .int .i64 s_10), (120, .bool false)] rfl ⟨rfl, rfl, rfl, rfl, rfl, rfl, rfl, rfl, rfl, rfl, rfl, rfl, rfl, rfl, rfl, rfl, rfl, rfl, rfl, trivial⟩ ?_
                            refine WO_tail ?_
                            refine WO_end ?_
                            cases hx67
                            refine WK.sub ?_ (WK.cls (fun _ h => h) hk68)
                            exact ⟨rfl, rfl, rfl, rfl, rfl, rfl, rfl, rfl, rfl, rfl, rfl, rfl, rfl, rfl, rfl, rfl, rfl, rfl, rfl, trivial⟩
                      · have hm60 := ifF hb66 hm60
                        refine WK_exit rfl ?_
                        cases hm60
                        refine WK.sub ?_ (WK.cls (fun _ h => h) (hk59 ((), ()) (hd64 _ rfl)))
                        exact ⟨rfl, rfl, rfl, rfl, rfl, rfl, rfl, rfl, rfl, rfl, rfl, rfl, rfl, rfl, trivial⟩
                · refine WK_region ?_
                  refine WO_pure tbok 3 [(0, .slice a_p0 p0.length c_p0), (1, .int .i64 p1), (2, .int .i64 p2), (3, .slice a_p3 p3.length c_p3), (4, .int .i64 p4), (10, .int .i64 0), (17, .int .i64 s_3), (18, .slice a39 ((v_6).length) c40), (19, .int .i64 s_7), (20, .int .i64 v_8), (61, .slice a_p3 p3.length c_p3), (62, .int .i64 (p3.length : Int)), (63, .int .i64 s_3), (68, .slice a39 ((v_6).length) c40), (69, .int .i64 ((v_6).length : Int)), (70, .int .i64 s_7), (77, .bool (s_3 == 0))] rfl ⟨rfl, rfl, rfl, rfl, rfl, rfl, rfl, rfl, rfl, rfl, rfl, rfl, rfl, rfl, rfl, rfl, rfl, trivial⟩ ?_
                  refine WO_split (d := 77) (b := s_3 == 0) rfl (fun hb86 => ?_) (fun hb86 => ?_)
                  · have hx54 := ifT hb86 hx54
                    refine WO_pure tbok 2 [(0, .slice a_p0 p0.length c_p0), (1, .int .i64 p1), (2, .int .i64 p2), (3, .slice a_p3 p3.length c_p3), (4, .int .i64 p4), (10, .int .i64 0), (17, .int .i64 s_3), (18, .slice a39 ((v_6).length) c40), (19, .int .i64 s_7), (20, .int .i64 v_8), (61, .slice a_p3 p3.length c_p3), (62, .int .i64 (p3.length : Int)), (63, .int .i64 s_3), (68, .slice a39 ((v_6).length) c40), (69, .int .i64 ((v_6).length : Int)), (70, .int .i64 s_7), (77, .bool true), (78, .int .i64 v_8), (79, .slice a_p0 p0.length c_p0)] rfl ⟨rfl, rfl, rfl, rfl, rfl, rfl, rfl, rfl, rfl, rfl, rfl, rfl, rfl, rfl, rfl, rfl, rfl, rfl, rfl, trivial⟩ ?_
                    obtain ⟨v_17, hy87, hx54⟩ := bind_some hx54
                    obtain ⟨hc88, hy87⟩ := ix_some hy87
                    refine WO_index tbok rfl rfl rfl rfl rfl rfl rfl rfl (SlR.addr h_p0) hc88 ?_
                    refine WO_loadR tbok rfl rfl rfl rfl (fun _ h => St.sat h) h_p0 hy87 rfl rfl (fun a89 c90 h91 => ?_)
                    refine WO_pure tbok 1 [(0, .slice a_p0 p0.length c_p0), (1, .int .i64 p1), (2, .int .i64 p2), (3, .slice a_p3 p3.length c_p3), (4, .int .i64 p4), (10, .int .i64 0), (17, .int .i64 s_3), (18, .slice a39 ((v_6).length) c40), (19, .int .i64 s_7), (20, .int .i64 v_8), (61, .slice a_p3 p3.length c_p3), (62, .int .i64 (p3.length : Int)), (63, .int .i64 s_3), (68, .slice a39 ((v_6).length) c40), (69, .int .i64 ((v_6).length : Int)), (70, .int .i64 s_7), (77, .bool true), (78, .int .i64 v_8), (81, .slice a89 ((v_17).length) c90), (82, .int .i64 s_7)] rfl ⟨rfl, rfl, rfl, rfl, rfl, rfl, rfl, rfl, rfl, rfl, rfl, rfl, rfl, rfl, rfl, rfl, rfl, rfl, rfl, rfl, trivial⟩ ?_
                    obtain ⟨v_18, hy92, hx54⟩ := bind_some hx54
                    obtain ⟨hc93, hy92⟩ := ix_some hy92
                    refine WO_index tbok rfl rfl rfl rfl rfl rfl rfl rfl (SlR.addr h91) hc93 ?_
                    refine WO_loadE tbok rfl rfl rfl rfl (fun _ h => St.sat h) h91 hy92 rfl ?_
                    refine WO_pure tbok 2 [(0, .slice a_p0 p0.length c_p0), (1, .int .i64 p1), (2, .int .i64 p2), (3, .slice a_p3 p3.length c_p3), (4, .int .i64 p4), (10, .int .i64 0), (17, .int .i64 s_3), (18, .slice a39 ((v_6).length) c40), (19, .int .i64 s_7), (20, .int .i64 v_8), (61, .slice a_p3 p3.length c_p3), (62, .int .i64 (p3.length : Int)), (63, .int .i64 s_3), (68, .slice a39 ((v_6).length) c40), (69, .int .i64 ((v_6).length : Int)), (70, .int .i64 s_7), (86, .bool (decide (v_18 < v_8)))] rfl ⟨rfl, rfl, rfl, rfl, rfl, rfl, rfl, rfl, rfl, rfl, rfl, rfl, rfl, rfl, rfl, rfl, rfl, trivial⟩ ?_
                    refine WO_end ?_
                    cases hx54
                    refine WK.sub ?_ (WK.cls (fun _ h => h) hk55)
                    exact ⟨rfl, rfl, rfl, rfl, rfl, rfl, rfl, rfl, rfl, rfl, rfl, rfl, rfl, rfl, rfl, rfl, rfl, trivial⟩
                  · have hx54 := ifF hb86 hx54
                    refine WO_pure tbok 9 [(0, .slice a_p0 p0.length c_p0), (1, .int .i64 p1), (2, .int .i64 p2), (3, .slice a_p3 p3.length c_p3), (4, .int .i64 p4), (10, .int .i64 0), (17, .int .i64 s_3), (18, .slice a39 ((v_6).length) c40), (19, .int .i64 s_7), (20, .int .i64 v_8), (61, .slice a_p3 p3.length c_p3), (62, .int .i64 (p3.length : Int)), (63, .int .i64 s_3), (68, .slice a39 ((v_6).length) c40), (69, .int .i64 ((v_6).length : Int)), (70, .int .i64 s_7), (86, .bool false)] rfl ⟨rfl, rfl, rfl, rfl, rfl, rfl, rfl, rfl, rfl, rfl, rfl, rfl, rfl, rfl, rfl, rfl, rfl, trivial⟩ ?_
                    refine WO_end ?_
                    cases hx54
                    refine WK.sub ?_ (WK.cls (fun _ h => h) hk55)
                    exact ⟨rfl, rfl, rfl, rfl, rfl, rfl, rfl, rfl, rfl, rfl, rfl, rfl, rfl, rfl, rfl, rfl, rfl, trivial⟩
              · have hm45 := ifF hb51 hm45
                refine WK_exit rfl ?_
                cases hm45
                refine WK.sub ?_ (WK.cls (fun _ h => h) (hk44 ((), ()) (hd49 _ rfl)))
                exact ⟨rfl, rfl, rfl, rfl, rfl, rfl, rfl, rfl, rfl, trivial⟩
          · have hm23 := ifF hb36 hm23
            refine WK_exit rfl ?_
            cases hm23
            refine WK.sub ?_ (WK.cls (fun _ h => h) (hk22 ((), ()) (hd27 _ rfl)))
            exact ⟨rfl, rfl, rfl, trivial⟩
      · refine WK_block ?_
        refine WK_loop (S := Int) (G := Unit) (fun s => fiduciallaw45_proves_s2 p3 s) (fun s g => [(0, .slice a_p0 p0.length c_p0), (1, .int .i64 p1), (2, .int .i64 p2), (3, .slice a_p3 p3.length c_p3), (4, .int .i64 p4), (10, .int .i64 0), (41, .slice a_p3 p3.length c_p3), (42, .int .i64 (p3.length : Int)), (43, .int .i64 s)]) (fun s g => St w0 m m []) (fun s g => True) FUEL 0 () x11 hx12 trivial ⟨rfl, rfl, rfl, rfl, rfl, rfl, rfl, rfl, rfl, trivial⟩ (fun _ h => h) ?_
        rintro s_2 ⟨⟩ o15 fl16 hm14 - hn17 hd18
        have hm14 : fiduciallaw45_proves_s2 p3 s_2 = some o15 := hm14
        unfold fiduciallaw45_proves_s2 at hm14
        refine WK.sub (e' := [(0, .slice a_p0 p0.length c_p0), (1, .int .i64 p1), (2, .int .i64 p2), (3, .slice a_p3 p3.length c_p3), (4, .int .i64 p4), (10, .int .i64 0), (41, .slice a_p3 p3.length c_p3), (42, .int .i64 (p3.length : Int)), (43, .int .i64 s_2)]) ⟨rfl, rfl, rfl, rfl, rfl, rfl, rfl, rfl, rfl, trivial⟩ (WK.cls (C' := St w0 m m []) (fun _ h => h) ?_)
        refine WK_seq ?_
        refine WK_region ?_
        refine WO_pure tbok 1 [(0, .slice a_p0 p0.length c_p0), (1, .int .i64 p1), (2, .int .i64 p2), (3, .slice a_p3 p3.length c_p3), (4, .int .i64 p4), (10, .int .i64 0), (41, .slice a_p3 p3.length c_p3), (42, .int .i64 (p3.length : Int)), (43, .int .i64 s_2), (44, .bool (decide (s_2 < (p3.length : Int))))] rfl ⟨rfl, rfl, rfl, rfl, rfl, rfl, rfl, rfl, rfl, rfl, trivial⟩ ?_
        refine WO_end ?_
        refine WK_seq ?_
        refine WK_cond (b := decide (s_2 < (p3.length : Int))) rfl (fun hb94 => ?_) (fun hb94 => ?_)
        · have hm14 := ifT hb94 hm14
          refine WK_skip ?_
          refine WK_seq ?_
          refine WK_block ?_
          refine WK_seq ?_
          refine WK_region ?_
          obtain ⟨v_19, hy95, hm14⟩ := bind_some hm14
          obtain ⟨hc96, hy95⟩ := ix_some hy95
          refine WO_index tbok rfl rfl rfl rfl rfl rfl rfl rfl (SlR.addr h_p3) hc96 ?_
          refine WO_loadR tbok rfl rfl rfl rfl (fun _ h => St.sat h) h_p3 hy95 rfl rfl (fun a97 c98 h99 => ?_)
          refine WO_pure tbok 1 [(0, .slice a_p0 p0.length c_p0), (1, .int .i64 p1), (2, .int .i64 p2), (3, .slice a_p3 p3.length c_p3), (4, .int .i64 p4), (10, .int .i64 0), (14, .slice a97 ((v_19).length) c98), (41, .slice a_p3 p3.length c_p3), (42, .int .i64 (p3.length : Int)), (43, .int .i64 s_2)] rfl ⟨rfl, rfl, rfl, rfl, rfl, rfl, rfl, rfl, rfl, rfl, trivial⟩ ?_
          refine WO_end ?_
          refine WK_seq ?_
          refine WK_region ?_
          refine WO_pure tbok 3 [(0, .slice a_p0 p0.length c_p0), (1, .int .i64 p1), (2, .int .i64 p2), (3, .slice a_p3 p3.length c_p3), (4, .int .i64 p4), (10, .int .i64 0), (41, .slice a_p3 p3.length c_p3), (42, .int .i64 (p3.length : Int)), (43, .int .i64 s_2), (47, .slice a97 ((v_19).length) c98), (48, .int .i64 ((v_19).length : Int)), (49, .int .i64 0)] rfl ⟨rfl, rfl, rfl, rfl, rfl, rfl, rfl, rfl, rfl, rfl, rfl, rfl, trivial⟩ ?_
          refine WO_end ?_
          obtain ⟨x100, hx101, hm14⟩ := bind_some hm14
          refine WK_join (β := Unit × Unit) (fun p => Sum.inr p.1 = x100) (fun p => [(0, .slice a_p0 p0.length c_p0), (1, .int .i64 p1), (2, .int .i64 p2), (3, .slice a_p3 p3.length c_p3), (4, .int .i64 p4), (10, .int .i64 0), (41, .slice a_p3 p3.length c_p3), (42, .int .i64 (p3.length : Int)), (43, .int .i64 s_2)]) (fun p => St w0 m m []) ?_ (fun hk102 => ?_)
          · rintro ⟨⟨⟩, ⟨⟩⟩ hq108
            subst hq108
            refine WK.sub (e' := [(0, .slice a_p0 p0.length c_p0), (1, .int .i64 p1), (2, .int .i64 p2), (3, .slice a_p3 p3.length c_p3), (4, .int .i64 p4), (10, .int .i64 0), (41, .slice a_p3 p3.length c_p3), (42, .int .i64 (p3.length : Int)), (43, .int .i64 s_2)]) ⟨rfl, rfl, rfl, rfl, rfl, rfl, rfl, rfl, rfl, trivial⟩ (WK.cls (C' := St w0 m m []) (fun _ h => h) ?_)
            refine WK_blk ?_
            refine WK_region ?_
            refine WO_pure tbok 2 [(0, .slice a_p0 p0.length c_p0), (1, .int .i64 p1), (2, .int .i64 p2), (3, .slice a_p3 p3.length c_p3), (4, .int .i64 p4), (10, .int .i64 0), (41, .slice a_p3 p3.length c_p3), (42, .int .i64 (p3.length : Int)), (43, .int .i64 (w64 (s_2 + 1)))] rfl ⟨rfl, rfl, rfl, rfl, rfl, rfl, rfl, rfl, rfl, trivial⟩ ?_
            refine WO_end ?_
            cases hm14
            refine WK.sub ?_ (WK.cls (fun _ h => h) (hn17 _ () rfl trivial))
            exact ⟨rfl, rfl, rfl, rfl, rfl, rfl, rfl, rfl, rfl, trivial⟩
          · refine WK_block ?_
            refine WK_loop (S := Int) (G := Unit) (fun s => fiduciallaw45_proves_s6 v_19 s) (fun s g => [(0, .slice a_p0 p0.length c_p0), (1, .int .i64 p1), (2, .int .i64 p2), (3, .slice a_p3 p3.length c_p3), (4, .int .i64 p4), (10, .int .i64 0), (41, .slice a_p3 p3.length c_p3), (42, .int .i64 (p3.length : Int)), (43, .int .i64 s_2), (47, .slice a97 ((v_19).length) c98), (48, .int .i64 ((v_19).length : Int)), (49, .int .i64 s)]) (fun s g => St w0 m m []) (fun s g => True) FUEL 0 () x100 hx101 trivial ⟨rfl, rfl, rfl, rfl, rfl, rfl, rfl, rfl, rfl, rfl, rfl, rfl, trivial⟩ (fun _ h => h) ?_
            rintro s_20 ⟨⟩ o104 fl105 hm103 - hn106 hd107
            have hm103 : fiduciallaw45_proves_s6 v_19 s_20 = some o104 := hm103
            unfold fiduciallaw45_proves_s6 at hm103
            refine WK.sub (e' := [(0, .slice a_p0 p0.length c_p0), (1, .int .i64 p1), (2, .int .i64 p2), (3, .slice a_p3 p3.length c_p3), (4, .int .i64 p4), (10, .int .i64 0), (41, .slice a_p3 p3.length c_p3), (42, .int .i64 (p3.length : Int)), (43, .int .i64 s_2), (47, .slice a97 ((v_19).length) c98), (48, .int .i64 ((v_19).length : Int)), (49, .int .i64 s_20)]) ⟨rfl, rfl, rfl, rfl, rfl, rfl, rfl, rfl, rfl, rfl, rfl, rfl, trivial⟩ (WK.cls (C' := St w0 m m []) (fun _ h => h) ?_)
            refine WK_seq ?_
            refine WK_region ?_
            refine WO_pure tbok 1 [(0, .slice a_p0 p0.length c_p0), (1, .int .i64 p1), (2, .int .i64 p2), (3, .slice a_p3 p3.length c_p3), (4, .int .i64 p4), (10, .int .i64 0), (41, .slice a_p3 p3.length c_p3), (42, .int .i64 (p3.length : Int)), (43, .int .i64 s_2), (47, .slice a97 ((v_19).length) c98), (48, .int .i64 ((v_19).length : Int)), (49, .int .i64 s_20), (50, .bool (decide (s_20 < ((v_19).length : Int))))] rfl ⟨rfl, rfl, rfl, rfl, rfl, rfl, rfl, rfl, rfl, rfl, rfl, rfl, rfl, trivial⟩ ?_
            refine WO_end ?_
            refine WK_seq ?_
            refine WK_cond (b := decide (s_20 < ((v_19).length : Int))) rfl (fun hb109 => ?_) (fun hb109 => ?_)
            · have hm103 := ifT hb109 hm103
              refine WK_skip ?_
              refine WK_seq ?_
              refine WK_block ?_
              refine WK_seq ?_
              refine WK_region ?_
              obtain ⟨v_21, hy110, hm103⟩ := bind_some hm103
              obtain ⟨hc111, hy110⟩ := ix_some hy110
              refine WO_index tbok rfl rfl rfl rfl rfl rfl rfl rfl (SlR.addr h99) hc111 ?_
              refine WO_loadE tbok rfl rfl rfl rfl (fun _ h => St.sat h) h99 hy110 rfl ?_
              refine WO_pure tbok 1 [(0, .slice a_p0 p0.length c_p0), (1, .int .i64 p1), (2, .int .i64 p2), (3, .slice a_p3 p3.length c_p3), (4, .int .i64 p4), (10, .int .i64 0), (16, .int .i64 v_21), (41, .slice a_p3 p3.length c_p3), (42, .int .i64 (p3.length : Int)), (43, .int .i64 s_2), (47, .slice a97 ((v_19).length) c98), (48, .int .i64 ((v_19).length : Int)), (49, .int .i64 s_20)] rfl ⟨rfl, rfl, rfl, rfl, rfl, rfl, rfl, rfl, rfl, rfl, rfl, rfl, rfl, trivial⟩ ?_
              refine WO_end ?_
              refine WK_seq ?_
              obtain ⟨s_22, hx112, hm103⟩ := bind_some hm103
              refine WK_meet [(0, .slice a_p0 p0.length c_p0), (1, .int .i64 p1), (2, .int .i64 p2), (3, .slice a_p3 p3.length c_p3), (4, .int .i64 p4), (10, .int .i64 0), (41, .slice a_p3 p3.length c_p3), (42, .int .i64 (p3.length : Int)), (43, .int .i64 s_2), (47, .slice a97 ((v_19).length) c98), (48, .int .i64 ((v_19).length : Int)), (49, .int .i64 s_20), (58, .bool s_22)] (St w0 m m []) ?_ (fun hk113 => ?_)
              · refine WK_cond (b := s_22) rfl (fun hb114 => ?_) (fun hb114 => ?_)
                · have hm103 := ifT hb114 hm103
                  refine WK_seq ?_
                  refine WK_region ?_
                  refine WO_pure tbok 1 [(0, .slice a_p0 p0.length c_p0), (1, .int .i64 p1), (2, .int .i64 p2), (3, .slice a_p3 p3.length c_p3), (4, .int .i64 p4), (10, .int .i64 2), (41, .slice a_p3 p3.length c_p3), (42, .int .i64 (p3.length : Int)), (43, .int .i64 s_2), (47, .slice a97 ((v_19).length) c98), (48, .int .i64 ((v_19).length : Int)), (49, .int .i64 s_20)] rfl ⟨rfl, rfl, rfl, rfl, rfl, rfl, rfl, rfl, rfl, rfl, rfl, rfl, trivial⟩ ?_
                  refine WO_end ?_
                  cases hm103
                  have hq := hd107 _ rfl
                  subst hq
                  have hm14 : some _ = some _ := hm14
                  cases hm14
                  have hq := hd18 _ rfl
                  subst hq
                  have hm : some _ = some _ := hm
                  cases hm
                  exact WK_ret (ret_out (L := []) (RLc_tmp rfl RLc_nil) (List.nil_sublist _) rfl)
                · have hm103 := ifF hb114 hm103
                  refine WK_skip ?_
                  refine WK_blk ?_
                  refine WK_region ?_
                  refine WO_pure tbok 2 [(0, .slice a_p0 p0.length c_p0), (1, .int .i64 p1), (2, .int .i64 p2), (3, .slice a_p3 p3.length c_p3), (4, .int .i64 p4), (10, .int .i64 0), (41, .slice a_p3 p3.length c_p3), (42, .int .i64 (p3.length : Int)), (43, .int .i64 s_2), (47, .slice a97 ((v_19).length) c98), (48, .int .i64 ((v_19).length : Int)), (49, .int .i64 (w64 (s_20 + 1)))] rfl ⟨rfl, rfl, rfl, rfl, rfl, rfl, rfl, rfl, rfl, rfl, rfl, rfl, trivial⟩ ?_
                  refine WO_end ?_
                  cases hm103
                  refine WK.sub ?_ (WK.cls (fun _ h => h) (hn106 _ () rfl trivial))
                  exact ⟨rfl, rfl, rfl, rfl, rfl, rfl, rfl, rfl, rfl, rfl, rfl, rfl, trivial⟩
              · refine WK_region ?_
                refine WO_pure tbok 3 [(0, .slice a_p0 p0.length c_p0), (1, .int .i64 p1), (2, .int .i64 p2), (3, .slice a_p3 p3.length c_p3), (4, .int .i64 p4), (10, .int .i64 0), (16, .int .i64 v_21), (41, .slice a_p3 p3.length c_p3), (42, .int .i64 (p3.length : Int)), (43, .int .i64 s_2), (47, .slice a97 ((v_19).length) c98), (48, .int .i64 ((v_19).length : Int)), (49, .int .i64 s_20), (55, .bool (decide (v_21 < (-1099511627776))))] rfl ⟨rfl, rfl, rfl, rfl, rfl, rfl, rfl, rfl, rfl, rfl, rfl, rfl, rfl, rfl, trivial⟩ ?_
                refine WO_split (d := 55) (b := decide (v_21 < (-1099511627776))) rfl (fun hb115 => ?_) (fun hb115 => ?_)
                · have hx112 := ifT hb115 hx112
                  refine WO_pure tbok 3 [(0, .slice a_p0 p0.length c_p0), (1, .int .i64 p1), (2, .int .i64 p2), (3, .slice a_p3 p3.length c_p3), (4, .int .i64 p4), (10, .int .i64 0), (41, .slice a_p3 p3.length c_p3), (42, .int .i64 (p3.length : Int)), (43, .int .i64 s_2), (47, .slice a97 ((v_19).length) c98), (48, .int .i64 ((v_19).length : Int)), (49, .int .i64 s_20), (58, .bool true)] rfl ⟨rfl, rfl, rfl, rfl, rfl, rfl, rfl, rfl, rfl, rfl, rfl, rfl, rfl, trivial⟩ ?_
                  refine WO_end ?_
                  cases hx112
                  refine WK.sub ?_ (WK.cls (fun _ h => h) hk113)
                  exact ⟨rfl, rfl, rfl, rfl, rfl, rfl, rfl, rfl, rfl, rfl, rfl, rfl, rfl, trivial⟩
                · have hx112 := ifF hb115 hx112
                  refine WO_pure tbok 3 [(0, .slice a_p0 p0.length c_p0), (1, .int .i64 p1), (2, .int .i64 p2), (3, .slice a_p3 p3.length c_p3), (4, .int .i64 p4), (10, .int .i64 0), (41, .slice a_p3 p3.length c_p3), (42, .int .i64 (p3.length : Int)), (43, .int .i64 s_2), (47, .slice a97 ((v_19).length) c98), (48, .int .i64 ((v_19).length : Int)), (49, .int .i64 s_20), (58, .bool (decide (1099511627776 < v_21)))] rfl ⟨rfl, rfl, rfl, rfl, rfl, rfl, rfl, rfl, rfl, rfl, rfl, rfl, rfl, trivial⟩ ?_
                  refine WO_end ?_
                  cases hx112
                  refine WK.sub ?_ (WK.cls (fun _ h => h) hk113)
                  exact ⟨rfl, rfl, rfl, rfl, rfl, rfl, rfl, rfl, rfl, rfl, rfl, rfl, rfl, trivial⟩
            · have hm103 := ifF hb109 hm103
              refine WK_exit rfl ?_
              cases hm103
              refine WK.sub ?_ (WK.cls (fun _ h => h) (hk102 ((), ()) (hd107 _ rfl)))
              exact ⟨rfl, rfl, rfl, rfl, rfl, rfl, rfl, rfl, rfl, trivial⟩
        · have hm14 := ifF hb94 hm14
          refine WK_exit rfl ?_
          cases hm14
          refine WK.sub ?_ (WK.cls (fun _ h => h) (hk13 ((), ()) (hd18 _ rfl)))
          exact ⟨rfl, rfl, rfl, rfl, rfl, rfl, trivial⟩
    · refine WK_block ?_
      refine WK_loop (S := Int) (G := Unit) (fun s => fiduciallaw45_proves_s1 p0 p3 s) (fun s g => [(0, .slice a_p0 p0.length c_p0), (1, .int .i64 p1), (2, .int .i64 p2), (3, .slice a_p3 p3.length c_p3), (4, .int .i64 p4), (10, .int .i64 0), (27, .slice a_p3 p3.length c_p3), (28, .int .i64 (p3.length : Int)), (29, .int .i64 s)]) (fun s g => St w0 m m []) (fun s g => True) FUEL 0 () x2 hx3 trivial ⟨rfl, rfl, rfl, rfl, rfl, rfl, rfl, rfl, rfl, trivial⟩ (fun _ h => h) ?_
      rintro s_1 ⟨⟩ o6 fl7 hm5 - hn8 hd9
      have hm5 : fiduciallaw45_proves_s1 p0 p3 s_1 = some o6 := hm5
      unfold fiduciallaw45_proves_s1 at hm5
      refine WK.sub (e' := [(0, .slice a_p0 p0.length c_p0), (1, .int .i64 p1), (2, .int .i64 p2), (3, .slice a_p3 p3.length c_p3), (4, .int .i64 p4), (10, .int .i64 0), (27, .slice a_p3 p3.length c_p3), (28, .int .i64 (p3.length : Int)), (29, .int .i64 s_1)]) ⟨rfl, rfl, rfl, rfl, rfl, rfl, rfl, rfl, rfl, trivial⟩ (WK.cls (C' := St w0 m m []) (fun _ h => h) ?_)
      refine WK_seq ?_
      refine WK_region ?_
      refine WO_pure tbok 1 [(0, .slice a_p0 p0.length c_p0), (1, .int .i64 p1), (2, .int .i64 p2), (3, .slice a_p3 p3.length c_p3), (4, .int .i64 p4), (10, .int .i64 0), (27, .slice a_p3 p3.length c_p3), (28, .int .i64 (p3.length : Int)), (29, .int .i64 s_1), (30, .bool (decide (s_1 < (p3.length : Int))))] rfl ⟨rfl, rfl, rfl, rfl, rfl, rfl, rfl, rfl, rfl, rfl, trivial⟩ ?_
      refine WO_end ?_
      refine WK_seq ?_
      refine WK_cond (b := decide (s_1 < (p3.length : Int))) rfl (fun hb116 => ?_) (fun hb116 => ?_)
      · have hm5 := ifT hb116 hm5
        refine WK_skip ?_
        refine WK_seq ?_
        refine WK_block ?_
        refine WK_seq ?_
        refine WK_region ?_
        obtain ⟨v_23, hy117, hm5⟩ := bind_some hm5
        obtain ⟨hc118, hy117⟩ := ix_some hy117
        refine WO_index tbok rfl rfl rfl rfl rfl rfl rfl rfl (SlR.addr h_p3) hc118 ?_
        refine WO_loadR tbok rfl rfl rfl rfl (fun _ h => St.sat h) h_p3 hy117 rfl rfl (fun a119 c120 h121 => ?_)
        refine WO_pure tbok 1 [(0, .slice a_p0 p0.length c_p0), (1, .int .i64 p1), (2, .int .i64 p2), (3, .slice a_p3 p3.length c_p3), (4, .int .i64 p4), (10, .int .i64 0), (12, .slice a119 ((v_23).length) c120), (27, .slice a_p3 p3.length c_p3), (28, .int .i64 (p3.length : Int)), (29, .int .i64 s_1)] rfl ⟨rfl, rfl, rfl, rfl, rfl, rfl, rfl, rfl, rfl, rfl, trivial⟩ ?_
        refine WO_end ?_
        refine WK_seq ?_
        refine WK_region ?_
        refine WO_pure tbok 3 [(0, .slice a_p0 p0.length c_p0), (1, .int .i64 p1), (2, .int .i64 p2), (3, .slice a_p3 p3.length c_p3), (4, .int .i64 p4), (10, .int .i64 0), (27, .slice a_p3 p3.length c_p3), (28, .int .i64 (p3.length : Int)), (29, .int .i64 s_1), (34, .int .i64 ((v_23).length : Int)), (35, .slice a_p0 p0.length c_p0)] rfl ⟨rfl, rfl, rfl, rfl, rfl, rfl, rfl, rfl, rfl, rfl, rfl, trivial⟩ ?_
        obtain ⟨v_24, hy122, hm5⟩ := bind_some hm5
        obtain ⟨hc123, hy122⟩ := ix_some hy122
        refine WO_index tbok rfl rfl rfl rfl rfl rfl rfl rfl (SlR.addr h_p0) hc123 ?_
        refine WO_loadR tbok rfl rfl rfl rfl (fun _ h => St.sat h) h_p0 hy122 rfl rfl (fun a124 c125 h126 => ?_)
        refine WO_pure tbok 2 [(0, .slice a_p0 p0.length c_p0), (1, .int .i64 p1), (2, .int .i64 p2), (3, .slice a_p3 p3.length c_p3), (4, .int .i64 p4), (10, .int .i64 0), (27, .slice a_p3 p3.length c_p3), (28, .int .i64 (p3.length : Int)), (29, .int .i64 s_1), (39, .bool (((v_23).length : Int) != ((v_24).length : Int)))] rfl ⟨rfl, rfl, rfl, rfl, rfl, rfl, rfl, rfl, rfl, rfl, trivial⟩ ?_
        refine WO_end ?_
        refine WK_cond (b := ((v_23).length : Int) != ((v_24).length : Int)) rfl (fun hb127 => ?_) (fun hb127 => ?_)
        · have hm5 := ifT hb127 hm5
          refine WK_seq ?_
          refine WK_region ?_
          refine WO_pure tbok 1 [(0, .slice a_p0 p0.length c_p0), (1, .int .i64 p1), (2, .int .i64 p2), (3, .slice a_p3 p3.length c_p3), (4, .int .i64 p4), (10, .int .i64 4), (27, .slice a_p3 p3.length c_p3), (28, .int .i64 (p3.length : Int)), (29, .int .i64 s_1)] rfl ⟨rfl, rfl, rfl, rfl, rfl, rfl, rfl, rfl, rfl, trivial⟩ ?_
          refine WO_end ?_
          cases hm5
          have hq := hd9 _ rfl
          subst hq
          have hm : some _ = some _ := hm
          cases hm
          exact WK_ret (ret_out (L := []) (RLc_tmp rfl RLc_nil) (List.nil_sublist _) rfl)
        · have hm5 := ifF hb127 hm5
          refine WK_skip ?_
          refine WK_blk ?_
          refine WK_region ?_
          refine WO_pure tbok 2 [(0, .slice a_p0 p0.length c_p0), (1, .int .i64 p1), (2, .int .i64 p2), (3, .slice a_p3 p3.length c_p3), (4, .int .i64 p4), (10, .int .i64 0), (27, .slice a_p3 p3.length c_p3), (28, .int .i64 (p3.length : Int)), (29, .int .i64 (w64 (s_1 + 1)))] rfl ⟨rfl, rfl, rfl, rfl, rfl, rfl, rfl, rfl, rfl, trivial⟩ ?_
          refine WO_end ?_
          cases hm5
          refine WK.sub ?_ (WK.cls (fun _ h => h) (hn8 _ () rfl trivial))
          exact ⟨rfl, rfl, rfl, rfl, rfl, rfl, rfl, rfl, rfl, trivial⟩
      · have hm5 := ifF hb116 hm5
        refine WK_exit rfl ?_
        cases hm5
        refine WK.sub ?_ (WK.cls (fun _ h => h) (hk4 ((), ()) (hd9 _ rfl)))
        exact ⟨rfl, rfl, rfl, rfl, rfl, rfl, trivial⟩
theorem fiduciallaw45_labelled_c1_walk {m : Mu} {p0 : Int} {q0_0 : Int} {b_q0 : Nat} (hb_q0 : m b_q0 = some (Ent.obj ⟨b_q0, 3, [.int .i64 q0_0]⟩)) {r : Bool} (hm : fiduciallaw45_labelled_c1 p0 q0_0 = some r) :
    Go.E.Spec Try.prog 44 [.int .i64 p0, .pointer (some ⟨b_q0, 0, none⟩)] m (fun v _ _ => v = .bool r) := by
  refine Spec_enter Try.func44 rfl rfl rfl (fun w0 => ?_)
  refine WK.sub (e' := [(0, .int .i64 p0), (1, .pointer (some ⟨b_q0, 0, none⟩))]) ⟨rfl, rfl, trivial⟩ ?_
  refine WK.sub (e' := [(0, .int .i64 p0), (1, .pointer (some ⟨b_q0, 0, none⟩))]) ⟨rfl, rfl, trivial⟩ ?_
  unfold fiduciallaw45_labelled_c1 at hm
  refine WK_seq ?_
  refine WK_region ?_
  refine WO_pure tbok 1 [(0, .int .i64 p0), (1, .pointer (some ⟨b_q0, 0, none⟩)), (3, .bool false)] rfl ⟨rfl, rfl, rfl, trivial⟩ ?_
  refine WO_end ?_
  refine WK_seq ?_
  refine WK_region ?_
  refine WO_pure tbok 3 [(0, .int .i64 p0), (1, .pointer (some ⟨b_q0, 0, none⟩)), (3, .bool false), (6, .bool (decide (p0 < 0)))] rfl ⟨rfl, rfl, rfl, rfl, trivial⟩ ?_
  refine WO_split (d := 6) (b := decide (p0 < 0)) rfl (fun hb1 => ?_) (fun hb1 => ?_)
  · have hm := ifT hb1 hm
    refine WO_pure tbok 5 [(3, .bool true)] rfl ⟨rfl, trivial⟩ ?_
    refine WO_end ?_
    cases hm
    exact WK_ret (ret_out (L := []) (RLc_tmp rfl RLc_nil) (List.nil_sublist _) rfl)
  · have hm := ifF hb1 hm
    refine WO_pure tbok 1 [(1, .pointer (some ⟨b_q0, 0, none⟩)), (3, .bool false), (6, .bool false), (7, .int .i64 p0)] rfl ⟨rfl, rfl, rfl, rfl, trivial⟩ ?_
    refine WO_loadM tbok rfl rfl rfl rfl (fun _ h => St.sat h) hb_q0 rfl ?_
    refine WO_pure tbok 3 [(3, .bool (decide (q0_0 ≤ p0)))] rfl ⟨rfl, trivial⟩ ?_
    refine WO_end ?_
    cases hm
    exact WK_ret (ret_out (L := []) (RLc_tmp rfl RLc_nil) (List.nil_sublist _) rfl)
theorem fiduciallaw45_labelled_walk {m : Mu} {p0 : List Int} {p1 : Int} {p2 : Int} {a_p0 : Option Addr} {q_p0 c_p0 : Nat} (h_p0 : SlR (FE (I1 .i64)) 1 m (.slice a_p0 q_p0 c_p0) p0) {r : Int} (hm : fiduciallaw45_labelled p0 p1 p2 = some r) :
    Go.E.Spec Try.prog 16 [.slice a_p0 q_p0 c_p0, .int .i64 p1, .int .i64 p2] m (fun v _ _ => v = .int .i64 r) := by
  refine Spec_enter Try.func16 rfl rfl rfl (fun w0 => ?_)
  refine WK.sub (e' := [(0, .slice a_p0 q_p0 c_p0), (1, .int .i64 p1), (2, .int .i64 p2)]) ⟨rfl, rfl, rfl, trivial⟩ ?_
  obtain rfl := SlR.qlen h_p0
  refine WK.sub (e' := [(0, .slice a_p0 p0.length c_p0), (1, .int .i64 p1), (2, .int .i64 p2)]) ⟨rfl, rfl, rfl, trivial⟩ ?_
  unfold fiduciallaw45_labelled at hm
  refine WK_seq ?_
  refine WK_region ?_
  refine WO_box [.int .i64 p2] rfl rfl trivial rfl rfl rfl (fun b1 => ?_)
  refine WO.cls (C' := St w0 m m [[⟨b1, 3, [.int .i64 p2]⟩]]) (fun _ h => h) ?_
  refine WO_pure tbok 1 [(0, .slice a_p0 p0.length c_p0), (1, .int .i64 p1), (5, .pointer (some ⟨b1, 0, none⟩)), (6, .int .i64 0)] rfl ⟨rfl, rfl, rfl, rfl, trivial⟩ ?_
  refine WO_end ?_
  refine WK_seq ?_
  refine WK_seq ?_
  refine WK_region ?_
  refine WO_pure tbok 4 [(0, .slice a_p0 p0.length c_p0), (5, .pointer (some ⟨b1, 0, none⟩)), (6, .int .i64 0), (10, .bool ((p0.length : Int) != p1))] rfl ⟨rfl, rfl, rfl, rfl, trivial⟩ ?_
  refine WO_end ?_
  refine WK_cond (b := (p0.length : Int) != p1) rfl (fun hb2 => ?_) (fun hb2 => ?_)
  · have hm := ifT hb2 hm
    refine WK_seq ?_
    refine WK_region ?_
    refine WO_pure tbok 1 [(0, .slice a_p0 p0.length c_p0), (5, .pointer (some ⟨b1, 0, none⟩)), (6, .int .i64 4)] rfl ⟨rfl, rfl, rfl, trivial⟩ ?_
    refine WO_end ?_
    cases hm
    exact WK_ret (ret_out (L := []) (RLc_tmp rfl RLc_nil) (List.nil_sublist _) rfl)
  · have hm := ifF hb2 hm
    refine WK_skip ?_
    refine WK_seq ?_
    refine WK_seq ?_
    refine WK_region ?_
    refine WO_pure tbok 2 [(6, .int .i64 0), (11, .slice a_p0 p0.length c_p0), (12, .func (.func 44) #[] #[.pointer (some ⟨b1, 0, none⟩)])] rfl ⟨rfl, rfl, rfl, trivial⟩ ?_
    obtain ⟨y_2, hc3, hm⟩ := bind_some hm
    refine WO_call0 (.bool y_2) rfl rfl trivial rfl rfl rfl rfl St_closed ⟨43, #[], #[], rfl, callable_43, fun w hw => ⟨_, hw.satV, slices_ContainsFunc_sint_walk (h_p0.mono (mono_FE _) hw.leV) (fun m1 hm1 z_1 _ h => specV_cap callable_44 (fiduciallaw45_labelled_c1_walk (hm1 _ _ (hw.memV (i := 0) rfl (List.mem_singleton.2 rfl))) h)) hc3⟩⟩ ?_
    refine WO_end ?_
    refine WK_cond (b := y_2) rfl (fun hb4 => ?_) (fun hb4 => ?_)
    · have hm := ifT hb4 hm
      refine WK_seq ?_
      refine WK_region ?_
      refine WO_pure tbok 1 [(6, .int .i64 2)] rfl ⟨rfl, trivial⟩ ?_
      refine WO_end ?_
      cases hm
      exact WK_ret (ret_out (L := []) (RLc_tmp rfl RLc_nil) (List.nil_sublist _) rfl)
    · have hm := ifF hb4 hm
      refine WK_skip ?_
      refine WK_seq ?_
      refine WK_region ?_
      refine WO_pure tbok 1 [(6, .int .i64 0)] rfl ⟨rfl, trivial⟩ ?_
      refine WO_end ?_
      cases hm
      exact WK_ret (ret_out (L := []) (RLc_tmp rfl RLc_nil) (List.nil_sublist _) rfl)
theorem fiduciallaw45_energy_walk {m : Mu} {p0 : List (List Int)} {p1 : Int} {p2 : Int} {p3 : List Int} {a_p0 : Option Addr} {q_p0 c_p0 : Nat} {a_p3 : Option Addr} {q_p3 c_p3 : Nat} (h_p0 : SlR (RowE (FE (I1 .i64)) 1) 1 m (.slice a_p0 q_p0 c_p0) p0) (h_p3 : SlR (FE (I1 .i64)) 1 m (.slice a_p3 q_p3 c_p3) p3) {r : Int} (hm : fiduciallaw45_energy p0 p1 p2 p3 = some r) :
    Go.E.Spec Try.prog 17 [.slice a_p0 q_p0 c_p0, .int .i64 p1, .int .i64 p2, .slice a_p3 q_p3 c_p3] m (fun v _ _ => v = .int .i64 r) := by
  refine Spec_enter Try.func17 rfl rfl rfl (fun w0 => ?_)
  refine WK.sub (e' := [(0, .slice a_p0 q_p0 c_p0), (1, .int .i64 p1), (2, .int .i64 p2), (3, .slice a_p3 q_p3 c_p3)]) ⟨rfl, rfl, rfl, rfl, trivial⟩ ?_
  obtain rfl := SlR.qlen h_p0
  obtain rfl := SlR.qlen h_p3
  refine WK.sub (e' := [(0, .slice a_p0 p0.length c_p0), (1, .int .i64 p1), (2, .int .i64 p2), (3, .slice a_p3 p3.length c_p3)]) ⟨rfl, rfl, rfl, rfl, trivial⟩ ?_
  unfold fiduciallaw45_energy at hm
  refine WK_seq ?_
  refine WK_region ?_
  refine WO_pure tbok 1 [(0, .slice a_p0 p0.length c_p0), (1, .int .i64 p1), (2, .int .i64 p2), (3, .slice a_p3 p3.length c_p3), (8, .int .i64 0)] rfl ⟨rfl, rfl, rfl, rfl, rfl, trivial⟩ ?_
  refine WO_end ?_
  refine WK_seq ?_
  refine WK_region ?_
  refine WO_pure tbok 1 [(0, .slice a_p0 p0.length c_p0), (1, .int .i64 p1), (2, .int .i64 p2), (3, .slice a_p3 p3.length c_p3), (8, .int .i64 0), (9, .int .i64 0)] rfl ⟨rfl, rfl, rfl, rfl, rfl, rfl, trivial⟩ ?_
  refine WO_end ?_
  refine WK_seq ?_
  refine WK_seq ?_
  refine WK_region ?_
  refine WO_pure tbok 3 [(0, .slice a_p0 p0.length c_p0), (1, .int .i64 p1), (2, .int .i64 p2), (3, .slice a_p3 p3.length c_p3), (8, .int .i64 0), (9, .int .i64 0), (12, .slice a_p3 p3.length c_p3), (13, .int .i64 (p3.length : Int)), (14, .int .i64 0)] rfl ⟨rfl, rfl, rfl, rfl, rfl, rfl, rfl, rfl, rfl, trivial⟩ ?_
  refine WO_end ?_
  obtain ⟨x1, hx2, hm⟩ := bind_some hm
  refine WK_join (β := Int × Unit) (fun p => p.1 = x1) (fun p => [(8, .int .i64 0), (9, .int .i64 p.1)]) (fun p => St w0 m m []) ?_ (fun hk3 => ?_)
  · rintro ⟨s_3, ⟨⟩⟩ hq9
    subst hq9
    refine WK.sub (e' := [(8, .int .i64 0), (9, .int .i64 s_3)]) ⟨rfl, rfl, trivial⟩ (WK.cls (C' := St w0 m m []) (fun _ h => h) ?_)
    refine WK_seq ?_
    refine WK_region ?_
    refine WO_pure tbok 2 [(8, .int .i64 s_3)] rfl ⟨rfl, trivial⟩ ?_
    refine WO_end ?_
    cases hm
    exact WK_ret (ret_out (L := []) (RLc_tmp rfl RLc_nil) (List.nil_sublist _) rfl)
  · refine WK_block ?_
    refine WK_loop (S := Int × Int) (G := Unit) (fun s => fiduciallaw45_energy_s1 p0 p1 p2 p3 s.1 s.2) (fun s g => [(0, .slice a_p0 p0.length c_p0), (1, .int .i64 p1), (2, .int .i64 p2), (3, .slice a_p3 p3.length c_p3), (8, .int .i64 0), (9, .int .i64 s.1), (12, .slice a_p3 p3.length c_p3), (13, .int .i64 (p3.length : Int)), (14, .int .i64 s.2)]) (fun s g => St w0 m m []) (fun s g => True) FUEL (0, 0) () x1 hx2 trivial ⟨rfl, rfl, rfl, rfl, rfl, rfl, rfl, rfl, rfl, trivial⟩ (fun _ h => h) ?_
    rintro ⟨s_1, s_2⟩ ⟨⟩ o5 fl6 hm4 - hn7 hd8
    have hm4 : fiduciallaw45_energy_s1 p0 p1 p2 p3 s_1 s_2 = some o5 := hm4
    unfold fiduciallaw45_energy_s1 at hm4
    refine WK.sub (e' := [(0, .slice a_p0 p0.length c_p0), (1, .int .i64 p1), (2, .int .i64 p2), (3, .slice a_p3 p3.length c_p3), (8, .int .i64 0), (9, .int .i64 s_1), (12, .slice a_p3 p3.length c_p3), (13, .int .i64 (p3.length : Int)), (14, .int .i64 s_2)]) ⟨rfl, rfl, rfl, rfl, rfl, rfl, rfl, rfl, rfl, trivial⟩ (WK.cls (C' := St w0 m m []) (fun _ h => h) ?_)
    refine WK_seq ?_
    refine WK_region ?_
    refine WO_pure tbok 1 [(0, .slice a_p0 p0.length c_p0), (1, .int .i64 p1), (2, .int .i64 p2), (3, .slice a_p3 p3.length c_p3), (8, .int .i64 0), (9, .int .i64 s_1), (12, .slice a_p3 p3.length c_p3), (13, .int .i64 (p3.length : Int)), (14, .int .i64 s_2), (15, .bool (decide (s_2 < (p3.length : Int))))] rfl ⟨rfl, rfl, rfl, rfl, rfl, rfl, rfl, rfl, rfl, rfl, trivial⟩ ?_
    refine WO_end ?_
    refine WK_seq ?_
    refine WK_cond (b := decide (s_2 < (p3.length : Int))) rfl (fun hb10 => ?_) (fun hb10 => ?_)
    · have hm4 := ifT hb10 hm4
      refine WK_skip ?_
      refine WK_seq ?_
      refine WK_block ?_
      refine WK_seq ?_
      refine WK_region ?_
      refine WO_pure tbok 1 [(0, .slice a_p0 p0.length c_p0), (1, .int .i64 p1), (2, .int .i64 p2), (3, .slice a_p3 p3.length c_p3), (8, .int .i64 0), (9, .int .i64 s_1), (12, .slice a_p3 p3.length c_p3), (13, .int .i64 (p3.length : Int)), (14, .int .i64 s_2), (16, .int .i64 s_2)] rfl ⟨rfl, rfl, rfl, rfl, rfl, rfl, rfl, rfl, rfl, rfl, trivial⟩ ?_
      obtain ⟨v_4, hy11, hm4⟩ := bind_some hm4
      obtain ⟨hc12, hy11⟩ := ix_some hy11
      refine WO_index tbok rfl rfl rfl rfl rfl rfl rfl rfl (SlR.addr h_p3) hc12 ?_
      refine WO_loadE tbok rfl rfl rfl rfl (fun _ h => St.sat h) h_p3 hy11 rfl ?_
      refine WO_pure tbok 2 [(0, .slice a_p0 p0.length c_p0), (1, .int .i64 p1), (2, .int .i64 p2), (3, .slice a_p3 p3.length c_p3), (8, .int .i64 0), (9, .int .i64 s_1), (10, .int .i64 s_2), (11, .int .i64 v_4), (12, .slice a_p3 p3.length c_p3), (13, .int .i64 (p3.length : Int)), (14, .int .i64 s_2)] rfl ⟨rfl, rfl, rfl, rfl, rfl, rfl, rfl, rfl, rfl, rfl, rfl, trivial⟩ ?_
      refine WO_end ?_
      refine WK_seq ?_
      refine WK_region ?_
      refine WO_pure tbok 3 [(0, .slice a_p0 p0.length c_p0), (1, .int .i64 p1), (2, .int .i64 p2), (3, .slice a_p3 p3.length c_p3), (8, .int .i64 0), (9, .int .i64 s_1), (10, .int .i64 s_2), (11, .int .i64 v_4), (12, .slice a_p3 p3.length c_p3), (13, .int .i64 (p3.length : Int)), (14, .int .i64 s_2), (19, .int .i64 s_1), (20, .slice a_p0 p0.length c_p0), (21, .int .i64 s_2)] rfl ⟨rfl, rfl, rfl, rfl, rfl, rfl, rfl, rfl, rfl, rfl, rfl, rfl, rfl, rfl, trivial⟩ ?_
      obtain ⟨v_5, hy13, hm4⟩ := bind_some hm4
      obtain ⟨hc14, hy13⟩ := ix_some hy13
      refine WO_index tbok rfl rfl rfl rfl rfl rfl rfl rfl (SlR.addr h_p0) hc14 ?_
      refine WO_loadR tbok rfl rfl rfl rfl (fun _ h => St.sat h) h_p0 hy13 rfl rfl (fun a15 c16 h17 => ?_)
      refine WO_pure tbok 1 [(0, .slice a_p0 p0.length c_p0), (1, .int .i64 p1), (2, .int .i64 p2), (3, .slice a_p3 p3.length c_p3), (8, .int .i64 0), (9, .int .i64 s_1), (10, .int .i64 s_2), (11, .int .i64 v_4), (12, .slice a_p3 p3.length c_p3), (13, .int .i64 (p3.length : Int)), (14, .int .i64 s_2), (19, .int .i64 s_1), (23, .slice a15 ((v_5).length) c16), (24, .int .i64 v_4)] rfl ⟨rfl, rfl, rfl, rfl, rfl, rfl, rfl, rfl, rfl, rfl, rfl, rfl, rfl, rfl, trivial⟩ ?_
      obtain ⟨v_6, hy18, hm4⟩ := bind_some hm4
      obtain ⟨hc19, hy18⟩ := ix_some hy18
      refine WO_index tbok rfl rfl rfl rfl rfl rfl rfl rfl (SlR.addr h17) hc19 ?_
      refine WO_loadE tbok rfl rfl rfl rfl (fun _ h => St.sat h) h17 hy18 rfl ?_
      refine WO_pure tbok 2 [(0, .slice a_p0 p0.length c_p0), (1, .int .i64 p1), (2, .int .i64 p2), (3, .slice a_p3 p3.length c_p3), (8, .int .i64 0), (9, .int .i64 (w64 (s_1 + v_6))), (10, .int .i64 s_2), (11, .int .i64 v_4), (12, .slice a_p3 p3.length c_p3), (13, .int .i64 (p3.length : Int)), (14, .int .i64 s_2)] rfl ⟨rfl, rfl, rfl, rfl, rfl, rfl, rfl, rfl, rfl, rfl, rfl, trivial⟩ ?_
      refine WO_end ?_
      refine WK_seq ?_
      refine WK_region ?_
      refine WO_pure tbok 2 [(0, .slice a_p0 p0.length c_p0), (1, .int .i64 p1), (2, .int .i64 p2), (3, .slice a_p3 p3.length c_p3), (8, .int .i64 0), (9, .int .i64 (w64 (s_1 + v_6))), (10, .int .i64 s_2), (11, .int .i64 v_4), (12, .slice a_p3 p3.length c_p3), (13, .int .i64 (p3.length : Int)), (14, .int .i64 s_2), (29, .bool (decide (0 < s_2)))] rfl ⟨rfl, rfl, rfl, rfl, rfl, rfl, rfl, rfl, rfl, rfl, rfl, rfl, trivial⟩ ?_
      refine WO_end ?_
      obtain ⟨s_7, hx20, hm4⟩ := bind_some hm4
      refine WK_meet [(0, .slice a_p0 p0.length c_p0), (1, .int .i64 p1), (2, .int .i64 p2), (3, .slice a_p3 p3.length c_p3), (8, .int .i64 0), (9, .int .i64 s_7), (12, .slice a_p3 p3.length c_p3), (13, .int .i64 (p3.length : Int)), (14, .int .i64 s_2)] (St w0 m m []) ?_ (fun hk21 => ?_)
      · refine WK_blk ?_
        refine WK_region ?_
        refine WO_pure tbok 2 [(0, .slice a_p0 p0.length c_p0), (1, .int .i64 p1), (2, .int .i64 p2), (3, .slice a_p3 p3.length c_p3), (8, .int .i64 0), (9, .int .i64 s_7), (12, .slice a_p3 p3.length c_p3), (13, .int .i64 (p3.length : Int)), (14, .int .i64 (w64 (s_2 + 1)))] rfl ⟨rfl, rfl, rfl, rfl, rfl, rfl, rfl, rfl, rfl, trivial⟩ ?_
        refine WO_end ?_
        cases hm4
        refine WK.sub ?_ (WK.cls (fun _ h => h) (hn7 _ () rfl trivial))
        exact ⟨rfl, rfl, rfl, rfl, rfl, rfl, rfl, rfl, rfl, trivial⟩
      · refine WK_cond (b := decide (0 < s_2)) rfl (fun hb22 => ?_) (fun hb22 => ?_)
        · have hx20 := ifT hb22 hx20
          refine WK_region ?_
          refine WO_pure tbok 5 [(0, .slice a_p0 p0.length c_p0), (1, .int .i64 p1), (2, .int .i64 p2), (3, .slice a_p3 p3.length c_p3), (8, .int .i64 0), (9, .int .i64 (w64 (s_1 + v_6))), (12, .slice a_p3 p3.length c_p3), (13, .int .i64 (p3.length : Int)), (14, .int .i64 s_2), (30, .int .i64 (w64 (s_1 + v_6))), (31, .int .i64 v_4), (32, .slice a_p3 p3.length c_p3), (34, .int .i64 (w64 (s_2 - 1)))] rfl ⟨rfl, rfl, rfl, rfl, rfl, rfl, rfl, rfl, rfl, rfl, rfl, rfl, rfl, trivial⟩ ?_
          obtain ⟨v_8, hy23, hx20⟩ := bind_some hx20
          obtain ⟨hc24, hy23⟩ := ix_some hy23
          refine WO_index tbok rfl rfl rfl rfl rfl rfl rfl rfl (SlR.addr h_p3) hc24 ?_
          refine WO_loadE tbok rfl rfl rfl rfl (fun _ h => St.sat h) h_p3 hy23 rfl ?_
          refine WO_pure tbok 3 [(0, .slice a_p0 p0.length c_p0), (1, .int .i64 p1), (2, .int .i64 p2), (3, .slice a_p3 p3.length c_p3), (8, .int .i64 0), (9, .int .i64 (w64 (s_1 + v_6))), (12, .slice a_p3 p3.length c_p3), (13, .int .i64 (p3.length : Int)), (14, .int .i64 s_2), (30, .int .i64 (w64 (s_1 + v_6))), (37, .int .i64 (w64 (v_4 - v_8))), (38, .int .i64 p1), (39, .int .i64 p2)] rfl ⟨rfl, rfl, rfl, rfl, rfl, rfl, rfl, rfl, rfl, rfl, rfl, rfl, rfl, trivial⟩ ?_
          obtain ⟨y_9, hc25, hx20⟩ := bind_some hx20
          refine WO_call0 (.int .i64 y_9) rfl rfl trivial rfl rfl rfl rfl St_closed ⟨39, #[], #[], rfl, callable_39, fun w hw => ⟨_, hw.sat, fiduciallaw45_jump_walk hc25⟩⟩ ?_
          refine WO_pure tbok 2 [(0, .slice a_p0 p0.length c_p0), (1, .int .i64 p1), (2, .int .i64 p2), (3, .slice a_p3 p3.length c_p3), (8, .int .i64 0), (9, .int .i64 (w64 ((w64 (s_1 + v_6)) + y_9))), (12, .slice a_p3 p3.length c_p3), (13, .int .i64 (p3.length : Int)), (14, .int .i64 s_2)] rfl ⟨rfl, rfl, rfl, rfl, rfl, rfl, rfl, rfl, rfl, trivial⟩ ?_
          refine WO_end ?_
          cases hx20
          refine WK.sub ?_ (WK.cls (fun _ h => h) hk21)
          exact ⟨rfl, rfl, rfl, rfl, rfl, rfl, rfl, rfl, rfl, trivial⟩
        · have hx20 := ifF hb22 hx20
          refine WK_skip ?_
          cases hx20
          refine WK.sub ?_ (WK.cls (fun _ h => h) hk21)
          exact ⟨rfl, rfl, rfl, rfl, rfl, rfl, rfl, rfl, rfl, trivial⟩
    · have hm4 := ifF hb10 hm4
      refine WK_exit rfl ?_
      cases hm4
      refine WK.sub ?_ (WK.cls (fun _ h => h) (hk3 (s_1, ()) (hd8 _ rfl)))
      exact ⟨rfl, rfl, trivial⟩
theorem fiduciallaw45_AggregateLines_walk {m : Mu} {p0 : List (List Int)} {p1_0 : Int} {p1_1 : Int} {p2 : List Int} {a_p0 : Option Addr} {q_p0 c_p0 : Nat} {a_p2 : Option Addr} {q_p2 c_p2 : Nat} (h_p0 : SlR (RowE (FE (I1 .i64)) 1) 1 m (.slice a_p0 q_p0 c_p0) p0) (h_p2 : SlR (FE (I1 .i64)) 1 m (.slice a_p2 q_p2 c_p2) p2) {r : Bool} (hm : fiduciallaw45_AggregateLines p0 p1_0 p1_1 p2 = some r) :
    Go.E.Spec Try.prog 3 [.slice a_p0 q_p0 c_p0, .agg #[.int .i64 p1_0, .int .i64 p1_1], .slice a_p2 q_p2 c_p2] m (fun v _ _ => v = .bool r) := by
  refine Spec_enter Try.func3 rfl rfl rfl (fun w0 => ?_)
  refine WK.sub (e' := [(0, .slice a_p0 q_p0 c_p0), (1, .agg #[.int .i64 p1_0, .int .i64 p1_1]), (2, .slice a_p2 q_p2 c_p2)]) ⟨rfl, rfl, rfl, trivial⟩ ?_
  obtain rfl := SlR.qlen h_p0
  obtain rfl := SlR.qlen h_p2
  refine WK.sub (e' := [(0, .slice a_p0 p0.length c_p0), (1, .agg #[.int .i64 p1_0, .int .i64 p1_1]), (2, .slice a_p2 p2.length c_p2)]) ⟨rfl, rfl, rfl, trivial⟩ ?_
  unfold fiduciallaw45_AggregateLines at hm
  refine WK_seq ?_
  refine WK_region ?_
  refine WO_box [.int .i64 p1_0, .int .i64 p1_1] rfl rfl trivial rfl rfl rfl (fun b1 => ?_)
  refine WO.cls (C' := St w0 m m [[⟨b1, 23, [.int .i64 p1_0, .int .i64 p1_1]⟩]]) (fun _ h => h) ?_
  refine WO_pure tbok 1 [(0, .slice a_p0 p0.length c_p0), (2, .slice a_p2 p2.length c_p2), (4, .pointer (some ⟨b1, 0, none⟩)), (6, .bool false)] rfl ⟨rfl, rfl, rfl, rfl, trivial⟩ ?_
  refine WO_end ?_
  refine WK_seq ?_
  refine WK_seq ?_
  refine WK_region ?_
  obtain ⟨y_1, hc2, hm⟩ := bind_some hm
  refine WO_call0 (.bool y_1) rfl rfl trivial rfl rfl rfl rfl St_closed ⟨8, #[], #[], rfl, callable_8, fun w hw => ⟨_, hw.sat, fiduciallaw45_known_walk hc2⟩⟩ ?_
  refine WO_pure tbok 1 [(0, .slice a_p0 p0.length c_p0), (2, .slice a_p2 p2.length c_p2), (4, .pointer (some ⟨b1, 0, none⟩)), (6, .bool false), (15, .bool (!y_1))] rfl ⟨rfl, rfl, rfl, rfl, rfl, trivial⟩ ?_
  refine WO_end ?_
  refine WK_cond (b := !y_1) rfl (fun hb3 => ?_) (fun hb3 => ?_)
  · have hm := ifT hb3 hm
    refine WK_seq ?_
    refine WK_region ?_
    refine WO_pure tbok 1 [(0, .slice a_p0 p0.length c_p0), (2, .slice a_p2 p2.length c_p2), (4, .pointer (some ⟨b1, 0, none⟩)), (6, .bool false)] rfl ⟨rfl, rfl, rfl, rfl, trivial⟩ ?_
    refine WO_end ?_
    cases hm
    exact WK_ret (ret_out (L := []) (RLc_tmp rfl RLc_nil) (List.nil_sublist _) rfl)
  · have hm := ifF hb3 hm
    refine WK_skip ?_
    refine WK_seq ?_
    refine WK_seq ?_
    obtain ⟨s_2, hx4, hm⟩ := bind_some hm
    refine WK_meet [(0, .slice a_p0 p0.length c_p0), (2, .slice a_p2 p2.length c_p2), (4, .pointer (some ⟨b1, 0, none⟩)), (6, .bool false), (23, .bool s_2)] (St w0 m m [[⟨b1, 23, [.int .i64 p1_0, .int .i64 p1_1]⟩]]) ?_ (fun hk5 => ?_)
    · refine WK_cond (b := s_2) rfl (fun hb6 => ?_) (fun hb6 => ?_)
      · have hm := ifT hb6 hm
        refine WK_seq ?_
        refine WK_region ?_
        refine WO_pure tbok 1 [(0, .slice a_p0 p0.length c_p0), (2, .slice a_p2 p2.length c_p2), (4, .pointer (some ⟨b1, 0, none⟩)), (6, .bool true)] rfl ⟨rfl, rfl, rfl, rfl, trivial⟩ ?_
        refine WO_end ?_
        cases hm
        exact WK_ret (ret_out (L := []) (RLc_tmp rfl RLc_nil) (List.nil_sublist _) rfl)
      · have hm := ifF hb6 hm
        refine WK_skip ?_
        refine WK_seq ?_
        refine WK_region ?_
        refine WO_pure tbok 2 [(0, .slice a_p0 p0.length c_p0), (2, .slice a_p2 p2.length c_p2), (4, .pointer (some ⟨b1, 0, none⟩)), (6, .bool false), (25, .slice a_p0 p0.length c_p0), (26, .pointer (some ⟨b1, 0, none⟩))] rfl ⟨rfl, rfl, rfl, rfl, rfl, rfl, trivial⟩ ?_
        refine WO_loadB tbok 0 rfl rfl rfl rfl (fun _ h => h) rfl rfl ?_
        refine WO_pure tbok 1 [(0, .slice a_p0 p0.length c_p0), (2, .slice a_p2 p2.length c_p2), (4, .pointer (some ⟨b1, 0, none⟩)), (6, .bool false), (25, .slice a_p0 p0.length c_p0), (27, .int .i64 p1_0), (28, .pointer (some ⟨b1, 1, none⟩))] rfl ⟨rfl, rfl, rfl, rfl, rfl, rfl, rfl, trivial⟩ ?_
        refine WO_loadB tbok 0 rfl rfl rfl rfl (fun _ h => h) rfl rfl ?_
        obtain ⟨⟨y_3, y_4, y_5, y_6⟩, hc7, hm⟩ := bind_some hm
        refine WO_call2 (aggregate_Line_Q (y_3, y_4, y_5, y_6)) rfl rfl trivial rfl rfl rfl rfl ⟨10, #[], #[], rfl, callable_10, aggregate_Line_walk h_p0 hc7⟩ (fun v13 m14 L12 hle15 hq => ?_)
        obtain ⟨a8, qa8, c9, a10, qa10, c11, rfl, h16, h17⟩ := hq
        obtain rfl := SlR.qlen h16
        obtain rfl := SlR.qlen h17
        refine WO.cls (C' := St w0 m m14 [[⟨b1, 23, [.int .i64 p1_0, .int .i64 p1_1]⟩], L12]) (fun _ h => h.sub (by simp)) ?_
        refine WO_pure tbok 9 [(0, .slice a_p0 p0.length c_p0), (2, .slice a_p2 p2.length c_p2), (4, .pointer (some ⟨b1, 0, none⟩)), (6, .bool false), (7, .slice a8 ((y_3).length) c9), (8, .int .i64 y_4), (9, .slice a10 ((y_5).length) c11), (10, .int .i64 y_6)] rfl ⟨rfl, rfl, rfl, rfl, rfl, rfl, rfl, rfl, trivial⟩ ?_
        refine WO_end ?_
        refine WK_seq ?_
        refine WK_seq ?_
        refine WK_region ?_
        refine WO_pure tbok 1 [(0, .slice a_p0 p0.length c_p0), (2, .slice a_p2 p2.length c_p2), (4, .pointer (some ⟨b1, 0, none⟩)), (6, .bool false), (7, .slice a8 ((y_3).length) c9), (8, .int .i64 y_4), (9, .slice a10 ((y_5).length) c11), (10, .int .i64 y_6), (35, .slice a_p0 p0.length c_p0)] rfl ⟨rfl, rfl, rfl, rfl, rfl, rfl, rfl, rfl, rfl, trivial⟩ ?_
        refine WO_loadB tbok 0 rfl rfl rfl rfl (fun _ h => h) rfl rfl ?_
        obtain ⟨y_7, hc18, hm⟩ := bind_some hm
        refine WO_call0 (.int .i64 y_7) rfl rfl trivial rfl rfl rfl rfl St_closed ⟨11, #[], #[], rfl, callable_11, fun w hw => ⟨_, hw.sat, fiduciallaw45_lined_walk (h_p0.mono (mono_RowE (mono_FE _) _) hle15) hc18⟩⟩ ?_
        refine WO_pure tbok 1 [(0, .slice a_p0 p0.length c_p0), (2, .slice a_p2 p2.length c_p2), (4, .pointer (some ⟨b1, 0, none⟩)), (6, .bool false), (7, .slice a8 ((y_3).length) c9), (8, .int .i64 y_4), (9, .slice a10 ((y_5).length) c11), (10, .int .i64 y_6), (11, .int .i64 y_7)] rfl ⟨rfl, rfl, rfl, rfl, rfl, rfl, rfl, rfl, rfl, trivial⟩ ?_
        refine WO_end ?_
        refine WK_seq ?_
        refine WK_region ?_
        refine WO_pure tbok 2 [(0, .slice a_p0 p0.length c_p0), (2, .slice a_p2 p2.length c_p2), (4, .pointer (some ⟨b1, 0, none⟩)), (6, .bool false), (7, .slice a8 ((y_3).length) c9), (8, .int .i64 y_4), (9, .slice a10 ((y_5).length) c11), (10, .int .i64 y_6), (11, .int .i64 y_7), (39, .bool (y_7 != 0))] rfl ⟨rfl, rfl, rfl, rfl, rfl, rfl, rfl, rfl, rfl, rfl, trivial⟩ ?_
        refine WO_end ?_
        refine WK_cond (b := y_7 != 0) rfl (fun hb19 => ?_) (fun hb19 => ?_)
        · have hm := ifT hb19 hm
          refine WK_seq ?_
          refine WK_region ?_
          refine WO_pure tbok 4 [(0, .slice a_p0 p0.length c_p0), (2, .slice a_p2 p2.length c_p2), (4, .pointer (some ⟨b1, 0, none⟩)), (6, .bool false), (7, .slice a8 ((y_3).length) c9), (8, .int .i64 y_4), (9, .slice a10 ((y_5).length) c11), (10, .int .i64 y_6), (43, .bool (y_6 == y_7))] rfl ⟨rfl, rfl, rfl, rfl, rfl, rfl, rfl, rfl, rfl, trivial⟩ ?_
          refine WO_split (d := 43) (b := y_6 == y_7) rfl (fun hb20 => ?_) (fun hb20 => ?_)
          · have hm := ifT hb20 hm
            refine WO_pure tbok 4 [(0, .slice a_p0 p0.length c_p0), (2, .slice a_p2 p2.length c_p2), (4, .pointer (some ⟨b1, 0, none⟩)), (6, .bool false), (7, .slice a8 ((y_3).length) c9), (8, .int .i64 y_4), (9, .slice a10 ((y_5).length) c11), (10, .int .i64 y_6), (47, .bool (y_4 == 0))] rfl ⟨rfl, rfl, rfl, rfl, rfl, rfl, rfl, rfl, rfl, trivial⟩ ?_
            refine WO_split (d := 47) (b := y_4 == 0) rfl (fun hb21 => ?_) (fun hb21 => ?_)
            · have hm := ifT hb21 hm
              refine WO_pure tbok 8 [(0, .slice a_p0 p0.length c_p0), (2, .slice a_p2 p2.length c_p2), (4, .pointer (some ⟨b1, 0, none⟩)), (6, .bool ((w64 (((y_3).length : Int) + ((y_5).length : Int))) == 0)), (7, .slice a8 ((y_3).length) c9), (8, .int .i64 y_4), (9, .slice a10 ((y_5).length) c11), (10, .int .i64 y_6)] rfl ⟨rfl, rfl, rfl, rfl, rfl, rfl, rfl, rfl, trivial⟩ ?_
              refine WO_end ?_
              cases hm
              exact WK_ret (ret_out (L := []) (RLc_tmp rfl RLc_nil) (List.nil_sublist _) rfl)
            · have hm := ifF hb21 hm
              refine WO_pure tbok 8 [(0, .slice a_p0 p0.length c_p0), (2, .slice a_p2 p2.length c_p2), (4, .pointer (some ⟨b1, 0, none⟩)), (6, .bool false), (7, .slice a8 ((y_3).length) c9), (8, .int .i64 y_4), (9, .slice a10 ((y_5).length) c11), (10, .int .i64 y_6)] rfl ⟨rfl, rfl, rfl, rfl, rfl, rfl, rfl, rfl, trivial⟩ ?_
              refine WO_end ?_
              cases hm
              exact WK_ret (ret_out (L := []) (RLc_tmp rfl RLc_nil) (List.nil_sublist _) rfl)
          · have hm := ifF hb20 hm
            refine WO_pure tbok 12 [(0, .slice a_p0 p0.length c_p0), (2, .slice a_p2 p2.length c_p2), (4, .pointer (some ⟨b1, 0, none⟩)), (6, .bool false), (7, .slice a8 ((y_3).length) c9), (8, .int .i64 y_4), (9, .slice a10 ((y_5).length) c11), (10, .int .i64 y_6)] rfl ⟨rfl, rfl, rfl, rfl, rfl, rfl, rfl, rfl, trivial⟩ ?_
            refine WO_end ?_
            cases hm
            exact WK_ret (ret_out (L := []) (RLc_tmp rfl RLc_nil) (List.nil_sublist _) rfl)
        · have hm := ifF hb19 hm
          refine WK_skip ?_
          refine WK_seq ?_
          refine WK_region ?_
          refine WO_pure tbok 2 [(0, .slice a_p0 p0.length c_p0), (2, .slice a_p2 p2.length c_p2), (4, .pointer (some ⟨b1, 0, none⟩)), (6, .bool false), (7, .slice a8 ((y_3).length) c9), (8, .int .i64 y_4), (9, .slice a10 ((y_5).length) c11), (10, .int .i64 y_6), (56, .slice a_p0 p0.length c_p0), (57, .pointer (some ⟨b1, 0, none⟩))] rfl ⟨rfl, rfl, rfl, rfl, rfl, rfl, rfl, rfl, rfl, rfl, trivial⟩ ?_
          refine WO_loadB tbok 0 rfl rfl rfl rfl (fun _ h => h) rfl rfl ?_
          refine WO_pure tbok 1 [(0, .slice a_p0 p0.length c_p0), (2, .slice a_p2 p2.length c_p2), (4, .pointer (some ⟨b1, 0, none⟩)), (6, .bool false), (7, .slice a8 ((y_3).length) c9), (8, .int .i64 y_4), (9, .slice a10 ((y_5).length) c11), (10, .int .i64 y_6), (56, .slice a_p0 p0.length c_p0), (58, .int .i64 p1_0), (59, .pointer (some ⟨b1, 1, none⟩))] rfl ⟨rfl, rfl, rfl, rfl, rfl, rfl, rfl, rfl, rfl, rfl, rfl, trivial⟩ ?_
          refine WO_loadB tbok 0 rfl rfl rfl rfl (fun _ h => h) rfl rfl ?_
          obtain ⟨⟨y_8, y_9⟩, hc22, hm⟩ := bind_some hm
          refine WO_call1 (fiduciallaw45_first_Q (y_8, y_9)) rfl rfl trivial rfl rfl rfl rfl ⟨12, #[], #[], rfl, callable_12, fun w hw => ⟨_, hw.sat, fiduciallaw45_first_walk (h_p0.mono (mono_RowE (mono_FE _) _) hle15) hc22⟩⟩ (fun v26 L25 hq => ?_)
          obtain ⟨a23, qa23, c24, rfl, hL25⟩ := hq
          obtain rfl := OwnE.qlen hL25
          refine WO.cls (C' := St w0 m m14 [[⟨b1, 23, [.int .i64 p1_0, .int .i64 p1_1]⟩], L12, L25]) (fun _ h => h) ?_
          refine WO_pure tbok 5 [(0, .slice a_p0 p0.length c_p0), (2, .slice a_p2 p2.length c_p2), (4, .pointer (some ⟨b1, 0, none⟩)), (6, .bool false), (7, .slice a8 ((y_3).length) c9), (8, .int .i64 y_4), (9, .slice a10 ((y_5).length) c11), (10, .int .i64 y_6), (12, .slice a23 ((y_8).length) c24), (13, .int .i64 y_9)] rfl ⟨rfl, rfl, rfl, rfl, rfl, rfl, rfl, rfl, rfl, rfl, trivial⟩ ?_
          refine WO_end ?_
          refine WK_seq ?_
          refine WK_seq ?_
          obtain ⟨s_10, hx27, hm⟩ := bind_some hm
          refine WK_meet [(0, .slice a_p0 p0.length c_p0), (2, .slice a_p2 p2.length c_p2), (4, .pointer (some ⟨b1, 0, none⟩)), (6, .bool false), (8, .int .i64 y_4), (98, .bool s_10)] (St w0 m m14 [[⟨b1, 23, [.int .i64 p1_0, .int .i64 p1_1]⟩], L12, L25]) ?_ (fun hk28 => ?_)
          · refine WK_cond (b := s_10) rfl (fun hb29 => ?_) (fun hb29 => ?_)
            · have hm := ifT hb29 hm
              refine WK_seq ?_
              refine WK_region ?_
              refine WO_pure tbok 1 [(0, .slice a_p0 p0.length c_p0), (2, .slice a_p2 p2.length c_p2), (4, .pointer (some ⟨b1, 0, none⟩)), (6, .bool false), (8, .int .i64 y_4)] rfl ⟨rfl, rfl, rfl, rfl, rfl, trivial⟩ ?_
              refine WO_end ?_
              cases hm
              exact WK_ret (ret_out (L := []) (RLc_tmp rfl RLc_nil) (List.nil_sublist _) rfl)
            · have hm := ifF hb29 hm
              refine WK_skip ?_
              refine WK_seq ?_
              refine WK_region ?_
              refine WO_pure tbok 4 [(0, .slice a_p0 p0.length c_p0), (2, .slice a_p2 p2.length c_p2), (4, .pointer (some ⟨b1, 0, none⟩)), (6, .bool false), (8, .int .i64 y_4), (99, .slice a_p2 p2.length c_p2), (101, .int .i64 (p0.length : Int)), (102, .slice a_p0 p0.length c_p0)] rfl ⟨rfl, rfl, rfl, rfl, rfl, rfl, rfl, rfl, trivial⟩ ?_
              obtain ⟨v_11, hy30, hm⟩ := bind_some hm
              obtain ⟨hc31, hy30⟩ := ix_some hy30
              refine WO_index tbok rfl rfl rfl rfl rfl rfl rfl rfl (SlR.addr (h_p0.mono (mono_RowE (mono_FE _) _) hle15)) hc31 ?_
              refine WO_loadR tbok rfl rfl rfl rfl (fun _ h => St.sat h) (h_p0.mono (mono_RowE (mono_FE _) _) hle15) hy30 rfl rfl (fun a32 c33 h34 => ?_)
              refine WO_pure tbok 1 [(0, .slice a_p0 p0.length c_p0), (2, .slice a_p2 p2.length c_p2), (4, .pointer (some ⟨b1, 0, none⟩)), (6, .bool false), (8, .int .i64 y_4), (99, .slice a_p2 p2.length c_p2), (101, .int .i64 (p0.length : Int)), (105, .int .i64 ((v_11).length : Int))] rfl ⟨rfl, rfl, rfl, rfl, rfl, rfl, rfl, rfl, trivial⟩ ?_
              obtain ⟨y_12, hc35, hm⟩ := bind_some hm
              refine WO_call0 (.int .i64 y_12) rfl rfl trivial rfl rfl rfl rfl St_closed ⟨16, #[], #[], rfl, callable_16, fun w hw => ⟨_, hw.sat, fiduciallaw45_labelled_walk (h_p2.mono (mono_FE _) hle15) hc35⟩⟩ ?_
              refine WO_pure tbok 2 [(0, .slice a_p0 p0.length c_p0), (2, .slice a_p2 p2.length c_p2), (4, .pointer (some ⟨b1, 0, none⟩)), (6, .bool false), (8, .int .i64 y_4), (108, .bool (y_12 != 0))] rfl ⟨rfl, rfl, rfl, rfl, rfl, rfl, trivial⟩ ?_
              refine WO_split (d := 108) (b := y_12 != 0) rfl (fun hb36 => ?_) (fun hb36 => ?_)
              · have hm := ifT hb36 hm
                refine WO_pure tbok 6 [(6, .bool false), (8, .int .i64 y_4), (108, .bool true)] rfl ⟨rfl, rfl, rfl, trivial⟩ ?_
                refine WO_skip rfl rfl ?_
                refine WO_pure tbok 4 [(6, .bool true)] rfl ⟨rfl, trivial⟩ ?_
                refine WO_end ?_
                cases hm
                exact WK_ret (ret_out (L := []) (RLc_tmp rfl RLc_nil) (List.nil_sublist _) rfl)
              · have hm := ifF hb36 hm
                refine WO_pure tbok 2 [(2, .slice a_p2 p2.length c_p2), (4, .pointer (some ⟨b1, 0, none⟩)), (6, .bool false), (8, .int .i64 y_4), (108, .bool false), (109, .slice a_p0 p0.length c_p0), (110, .pointer (some ⟨b1, 0, none⟩))] rfl ⟨rfl, rfl, rfl, rfl, rfl, rfl, rfl, trivial⟩ ?_
                refine WO_loadB tbok 0 rfl rfl rfl rfl (fun _ h => h) rfl rfl ?_
                refine WO_pure tbok 1 [(2, .slice a_p2 p2.length c_p2), (6, .bool false), (8, .int .i64 y_4), (108, .bool false), (109, .slice a_p0 p0.length c_p0), (111, .int .i64 p1_0), (112, .pointer (some ⟨b1, 1, none⟩))] rfl ⟨rfl, rfl, rfl, rfl, rfl, rfl, rfl, trivial⟩ ?_
                refine WO_loadB tbok 0 rfl rfl rfl rfl (fun _ h => h) rfl rfl ?_
                refine WO_pure tbok 1 [(6, .bool false), (8, .int .i64 y_4), (108, .bool false), (109, .slice a_p0 p0.length c_p0), (111, .int .i64 p1_0), (113, .int .i64 p1_1), (114, .slice a_p2 p2.length c_p2)] rfl ⟨rfl, rfl, rfl, rfl, rfl, rfl, rfl, trivial⟩ ?_
                obtain ⟨y_13, hc37, hm⟩ := bind_some hm
                refine WO_call0 (.int .i64 y_13) rfl rfl trivial rfl rfl rfl rfl St_closed ⟨17, #[], #[], rfl, callable_17, fun w hw => ⟨_, hw.sat, fiduciallaw45_energy_walk (h_p0.mono (mono_RowE (mono_FE _) _) hle15) (h_p2.mono (mono_FE _) hle15) hc37⟩⟩ ?_
                refine WO_pure tbok 4 [(6, .bool (decide (y_4 ≤ y_13)))] rfl ⟨rfl, trivial⟩ ?_
                refine WO_end ?_
                cases hm
                exact WK_ret (ret_out (L := []) (RLc_tmp rfl RLc_nil) (List.nil_sublist _) rfl)
          · refine WK_region ?_
            refine WO_pure tbok 3 [(0, .slice a_p0 p0.length c_p0), (2, .slice a_p2 p2.length c_p2), (4, .pointer (some ⟨b1, 0, none⟩)), (6, .bool false), (7, .slice a8 ((y_3).length) c9), (8, .int .i64 y_4), (9, .slice a10 ((y_5).length) c11), (12, .slice a23 ((y_8).length) c24), (13, .int .i64 y_9), (66, .bool (y_6 != 0))] rfl ⟨rfl, rfl, rfl, rfl, rfl, rfl, rfl, rfl, rfl, rfl, trivial⟩ ?_
            refine WO_split (d := 66) (b := y_6 != 0) rfl (fun hb38 => ?_) (fun hb38 => ?_)
            · have hx27 := ifT hb38 hx27
              refine WO_pure tbok 7 [(0, .slice a_p0 p0.length c_p0), (2, .slice a_p2 p2.length c_p2), (4, .pointer (some ⟨b1, 0, none⟩)), (6, .bool false), (8, .int .i64 y_4), (9, .slice a10 ((y_5).length) c11), (71, .bool true)] rfl ⟨rfl, rfl, rfl, rfl, rfl, rfl, rfl, trivial⟩ ?_
              refine WO_skip rfl rfl ?_
              refine WO_pure tbok 10 [(0, .slice a_p0 p0.length c_p0), (2, .slice a_p2 p2.length c_p2), (4, .pointer (some ⟨b1, 0, none⟩)), (6, .bool false), (8, .int .i64 y_4), (9, .slice a10 ((y_5).length) c11), (77, .bool true)] rfl ⟨rfl, rfl, rfl, rfl, rfl, rfl, rfl, trivial⟩ ?_
              refine WO_skip rfl rfl ?_
              refine WO_pure tbok 10 [(0, .slice a_p0 p0.length c_p0), (2, .slice a_p2 p2.length c_p2), (4, .pointer (some ⟨b1, 0, none⟩)), (6, .bool false), (8, .int .i64 y_4), (88, .bool true)] rfl ⟨rfl, rfl, rfl, rfl, rfl, rfl, trivial⟩ ?_
              refine WO_skip rfl rfl ?_
              refine WO_pure tbok 2 [(0, .slice a_p0 p0.length c_p0), (2, .slice a_p2 p2.length c_p2), (4, .pointer (some ⟨b1, 0, none⟩)), (6, .bool false), (8, .int .i64 y_4), (98, .bool true)] rfl ⟨rfl, rfl, rfl, rfl, rfl, rfl, trivial⟩ ?_
              refine WO_end ?_
              cases hx27
              refine WK.sub ?_ (WK.cls (fun _ h => h) hk28)
              exact ⟨rfl, rfl, rfl, rfl, rfl, rfl, trivial⟩
            · have hx27 := ifF hb38 hx27
              refine WO_pure tbok 5 [(0, .slice a_p0 p0.length c_p0), (2, .slice a_p2 p2.length c_p2), (4, .pointer (some ⟨b1, 0, none⟩)), (6, .bool false), (7, .slice a8 ((y_3).length) c9), (8, .int .i64 y_4), (9, .slice a10 ((y_5).length) c11), (12, .slice a23 ((y_8).length) c24), (71, .bool (y_4 != y_9))] rfl ⟨rfl, rfl, rfl, rfl, rfl, rfl, rfl, rfl, rfl, trivial⟩ ?_
              refine WO_split (d := 71) (b := y_4 != y_9) rfl (fun hb39 => ?_) (fun hb39 => ?_)
              · have hx27 := ifT hb39 hx27
                refine WO_pure tbok 2 [(0, .slice a_p0 p0.length c_p0), (2, .slice a_p2 p2.length c_p2), (4, .pointer (some ⟨b1, 0, none⟩)), (6, .bool false), (8, .int .i64 y_4), (9, .slice a10 ((y_5).length) c11), (71, .bool true)] rfl ⟨rfl, rfl, rfl, rfl, rfl, rfl, rfl, trivial⟩ ?_
                refine WO_skip rfl rfl ?_
                refine WO_pure tbok 10 [(0, .slice a_p0 p0.length c_p0), (2, .slice a_p2 p2.length c_p2), (4, .pointer (some ⟨b1, 0, none⟩)), (6, .bool false), (8, .int .i64 y_4), (9, .slice a10 ((y_5).length) c11), (77, .bool true)] rfl ⟨rfl, rfl, rfl, rfl, rfl, rfl, rfl, trivial⟩ ?_
                refine WO_skip rfl rfl ?_
                refine WO_pure tbok 10 [(0, .slice a_p0 p0.length c_p0), (2, .slice a_p2 p2.length c_p2), (4, .pointer (some ⟨b1, 0, none⟩)), (6, .bool false), (8, .int .i64 y_4), (88, .bool true)] rfl ⟨rfl, rfl, rfl, rfl, rfl, rfl, trivial⟩ ?_
                refine WO_skip rfl rfl ?_
                refine WO_pure tbok 2 [(0, .slice a_p0 p0.length c_p0), (2, .slice a_p2 p2.length c_p2), (4, .pointer (some ⟨b1, 0, none⟩)), (6, .bool false), (8, .int .i64 y_4), (98, .bool true)] rfl ⟨rfl, rfl, rfl, rfl, rfl, rfl, trivial⟩ ?_
                refine WO_end ?_
                cases hx27
                refine WK.sub ?_ (WK.cls (fun _ h => h) hk28)
                exact ⟨rfl, rfl, rfl, rfl, rfl, rfl, trivial⟩
              · have hx27 := ifF hb39 hx27
                refine WO_pure tbok 2 [(0, .slice a_p0 p0.length c_p0), (2, .slice a_p2 p2.length c_p2), (4, .pointer (some ⟨b1, 0, none⟩)), (6, .bool false), (8, .int .i64 y_4), (9, .slice a10 ((y_5).length) c11), (71, .bool false), (72, .slice a8 ((y_3).length) c9), (73, .slice a23 ((y_8).length) c24)] rfl ⟨rfl, rfl, rfl, rfl, rfl, rfl, rfl, rfl, rfl, trivial⟩ ?_
                obtain ⟨y_14, hc40, hx27⟩ := bind_some hx27
                refine WO_call0 (.bool y_14) rfl rfl trivial rfl rfl rfl rfl St_closed ⟨13, #[], #[], rfl, callable_13, fun w hw => ⟨_, hw.satV, slices_Equal_sint_walk (h16.mono (mono_FE _) hw.leV) (OwnE.rd (E := (I1 .i64)) (k := 1) (fun _ => rfl) hL25 (fun _ hx => hw.memV (i := 2) rfl hx)) hc40⟩⟩ ?_
                refine WO_pure tbok 3 [(0, .slice a_p0 p0.length c_p0), (2, .slice a_p2 p2.length c_p2), (4, .pointer (some ⟨b1, 0, none⟩)), (6, .bool false), (8, .int .i64 y_4), (9, .slice a10 ((y_5).length) c11), (77, .bool (!y_14))] rfl ⟨rfl, rfl, rfl, rfl, rfl, rfl, rfl, trivial⟩ ?_
                refine WO_split (d := 77) (b := !y_14) rfl (fun hb41 => ?_) (fun hb41 => ?_)
                · have hx27 := ifT hb41 hx27
                  refine WO_pure tbok 7 [(0, .slice a_p0 p0.length c_p0), (2, .slice a_p2 p2.length c_p2), (4, .pointer (some ⟨b1, 0, none⟩)), (6, .bool false), (8, .int .i64 y_4), (9, .slice a10 ((y_5).length) c11), (77, .bool true)] rfl ⟨rfl, rfl, rfl, rfl, rfl, rfl, rfl, trivial⟩ ?_
                  refine WO_skip rfl rfl ?_
                  refine WO_pure tbok 10 [(0, .slice a_p0 p0.length c_p0), (2, .slice a_p2 p2.length c_p2), (4, .pointer (some ⟨b1, 0, none⟩)), (6, .bool false), (8, .int .i64 y_4), (88, .bool true)] rfl ⟨rfl, rfl, rfl, rfl, rfl, rfl, trivial⟩ ?_
                  refine WO_skip rfl rfl ?_
                  refine WO_pure tbok 2 [(0, .slice a_p0 p0.length c_p0), (2, .slice a_p2 p2.length c_p2), (4, .pointer (some ⟨b1, 0, none⟩)), (6, .bool false), (8, .int .i64 y_4), (98, .bool true)] rfl ⟨rfl, rfl, rfl, rfl, rfl, rfl, trivial⟩ ?_
                  refine WO_end ?_
                  cases hx27
                  refine WK.sub ?_ (WK.cls (fun _ h => h) hk28)
                  exact ⟨rfl, rfl, rfl, rfl, rfl, rfl, trivial⟩
                · have hx27 := ifF hb41 hx27
                  refine WO_pure tbok 2 [(0, .slice a_p0 p0.length c_p0), (2, .slice a_p2 p2.length c_p2), (4, .pointer (some ⟨b1, 0, none⟩)), (6, .bool false), (8, .int .i64 y_4), (9, .slice a10 ((y_5).length) c11), (77, .bool false), (78, .slice a_p0 p0.length c_p0), (79, .pointer (some ⟨b1, 0, none⟩))] rfl ⟨rfl, rfl, rfl, rfl, rfl, rfl, rfl, rfl, rfl, trivial⟩ ?_
                  refine WO_loadB tbok 0 rfl rfl rfl rfl (fun _ h => h) rfl rfl ?_
                  refine WO_pure tbok 1 [(0, .slice a_p0 p0.length c_p0), (2, .slice a_p2 p2.length c_p2), (4, .pointer (some ⟨b1, 0, none⟩)), (6, .bool false), (8, .int .i64 y_4), (9, .slice a10 ((y_5).length) c11), (77, .bool false), (78, .slice a_p0 p0.length c_p0), (80, .int .i64 p1_0), (81, .pointer (some ⟨b1, 1, none⟩))] rfl ⟨rfl, rfl, rfl, rfl, rfl, rfl, rfl, rfl, rfl, rfl, trivial⟩ ?_
                  refine WO_loadB tbok 0 rfl rfl rfl rfl (fun _ h => h) rfl rfl ?_
                  refine WO_pure tbok 2 [(0, .slice a_p0 p0.length c_p0), (2, .slice a_p2 p2.length c_p2), (4, .pointer (some ⟨b1, 0, none⟩)), (6, .bool false), (8, .int .i64 y_4), (9, .slice a10 ((y_5).length) c11), (77, .bool false), (78, .slice a_p0 p0.length c_p0), (80, .int .i64 p1_0), (82, .int .i64 p1_1), (83, .slice a10 ((y_5).length) c11), (84, .int .i64 y_4)] rfl ⟨rfl, rfl, rfl, rfl, rfl, rfl, rfl, rfl, rfl, rfl, rfl, rfl, trivial⟩ ?_
                  obtain ⟨y_15, hc42, hx27⟩ := bind_some hx27
                  refine WO_call0 (.int .i64 y_15) rfl rfl trivial rfl rfl rfl rfl St_closed ⟨14, #[], #[], rfl, callable_14, fun w hw => ⟨_, hw.sat, fiduciallaw45_proves_walk (h_p0.mono (mono_RowE (mono_FE _) _) hle15) h17 hc42⟩⟩ ?_
                  refine WO_pure tbok 3 [(0, .slice a_p0 p0.length c_p0), (2, .slice a_p2 p2.length c_p2), (4, .pointer (some ⟨b1, 0, none⟩)), (6, .bool false), (8, .int .i64 y_4), (9, .slice a10 ((y_5).length) c11), (88, .bool (y_15 != 0))] rfl ⟨rfl, rfl, rfl, rfl, rfl, rfl, rfl, trivial⟩ ?_
                  refine WO_split (d := 88) (b := y_15 != 0) rfl (fun hb43 => ?_) (fun hb43 => ?_)
                  · have hx27 := ifT hb43 hx27
                    refine WO_pure tbok 7 [(0, .slice a_p0 p0.length c_p0), (2, .slice a_p2 p2.length c_p2), (4, .pointer (some ⟨b1, 0, none⟩)), (6, .bool false), (8, .int .i64 y_4), (88, .bool true)] rfl ⟨rfl, rfl, rfl, rfl, rfl, rfl, trivial⟩ ?_
                    refine WO_skip rfl rfl ?_
                    refine WO_pure tbok 2 [(0, .slice a_p0 p0.length c_p0), (2, .slice a_p2 p2.length c_p2), (4, .pointer (some ⟨b1, 0, none⟩)), (6, .bool false), (8, .int .i64 y_4), (98, .bool true)] rfl ⟨rfl, rfl, rfl, rfl, rfl, rfl, trivial⟩ ?_
                    refine WO_end ?_
                    cases hx27
                    refine WK.sub ?_ (WK.cls (fun _ h => h) hk28)
                    exact ⟨rfl, rfl, rfl, rfl, rfl, rfl, trivial⟩
                  · have hx27 := ifF hb43 hx27
                    refine WO_pure tbok 2 [(0, .slice a_p0 p0.length c_p0), (2, .slice a_p2 p2.length c_p2), (4, .pointer (some ⟨b1, 0, none⟩)), (6, .bool false), (8, .int .i64 y_4), (9, .slice a10 ((y_5).length) c11), (88, .bool false), (89, .slice a_p0 p0.length c_p0), (90, .pointer (some ⟨b1, 0, none⟩))] rfl ⟨rfl, rfl, rfl, rfl, rfl, rfl, rfl, rfl, rfl, trivial⟩ ?_
                    refine WO_loadB tbok 0 rfl rfl rfl rfl (fun _ h => h) rfl rfl ?_
                    refine WO_pure tbok 1 [(0, .slice a_p0 p0.length c_p0), (2, .slice a_p2 p2.length c_p2), (4, .pointer (some ⟨b1, 0, none⟩)), (6, .bool false), (8, .int .i64 y_4), (9, .slice a10 ((y_5).length) c11), (88, .bool false), (89, .slice a_p0 p0.length c_p0), (91, .int .i64 p1_0), (92, .pointer (some ⟨b1, 1, none⟩))] rfl ⟨rfl, rfl, rfl, rfl, rfl, rfl, rfl, rfl, rfl, rfl, trivial⟩ ?_
                    refine WO_loadB tbok 0 rfl rfl rfl rfl (fun _ h => h) rfl rfl ?_
                    refine WO_pure tbok 2 [(0, .slice a_p0 p0.length c_p0), (2, .slice a_p2 p2.length c_p2), (4, .pointer (some ⟨b1, 0, none⟩)), (6, .bool false), (8, .int .i64 y_4), (88, .bool false), (89, .slice a_p0 p0.length c_p0), (91, .int .i64 p1_0), (93, .int .i64 p1_1), (94, .slice a10 ((y_5).length) c11), (95, .int .i64 y_4)] rfl ⟨rfl, rfl, rfl, rfl, rfl, rfl, rfl, rfl, rfl, rfl, rfl, trivial⟩ ?_
                    obtain ⟨y_16, hc44, hx27⟩ := bind_some hx27
                    refine WO_call0 (.int .i64 y_16) rfl rfl trivial rfl rfl rfl rfl St_closed ⟨15, #[], #[], rfl, callable_15, fun w hw => ⟨_, hw.sat, aggregate_Prove_walk (h_p0.mono (mono_RowE (mono_FE _) _) hle15) h17 hc44⟩⟩ ?_
                    refine WO_pure tbok 2 [(0, .slice a_p0 p0.length c_p0), (2, .slice a_p2 p2.length c_p2), (4, .pointer (some ⟨b1, 0, none⟩)), (6, .bool false), (8, .int .i64 y_4), (98, .bool (y_16 != 0))] rfl ⟨rfl, rfl, rfl, rfl, rfl, rfl, trivial⟩ ?_
                    refine WO_end ?_
                    cases hx27
                    refine WK.sub ?_ (WK.cls (fun _ h => h) hk28)
                    exact ⟨rfl, rfl, rfl, rfl, rfl, rfl, trivial⟩
    · refine WK_region ?_
      refine WO_pure tbok 1 [(0, .slice a_p0 p0.length c_p0), (2, .slice a_p2 p2.length c_p2), (4, .pointer (some ⟨b1, 0, none⟩)), (6, .bool false), (16, .slice a_p0 p0.length c_p0)] rfl ⟨rfl, rfl, rfl, rfl, rfl, trivial⟩ ?_
      obtain ⟨y_17, hc45, hx4⟩ := bind_some hx4
      refine WO_call0 (.bool y_17) rfl rfl trivial rfl rfl rfl rfl St_closed ⟨9, #[], #[], rfl, callable_9, fun w hw => ⟨_, hw.sat, fiduciallaw45_few_walk h_p0 hc45⟩⟩ ?_
      refine WO_pure tbok 2 [(0, .slice a_p0 p0.length c_p0), (2, .slice a_p2 p2.length c_p2), (4, .pointer (some ⟨b1, 0, none⟩)), (6, .bool false), (19, .bool (!y_17))] rfl ⟨rfl, rfl, rfl, rfl, rfl, trivial⟩ ?_
      refine WO_split (d := 19) (b := !y_17) rfl (fun hb46 => ?_) (fun hb46 => ?_)
      · have hx4 := ifT hb46 hx4
        refine WO_pure tbok 4 [(0, .slice a_p0 p0.length c_p0), (2, .slice a_p2 p2.length c_p2), (4, .pointer (some ⟨b1, 0, none⟩)), (6, .bool false), (23, .bool true)] rfl ⟨rfl, rfl, rfl, rfl, rfl, trivial⟩ ?_
        refine WO_end ?_
        cases hx4
        refine WK.sub ?_ (WK.cls (fun _ h => h) hk5)
        exact ⟨rfl, rfl, rfl, rfl, rfl, trivial⟩
      · have hx4 := ifF hb46 hx4
        refine WO_pure tbok 4 [(0, .slice a_p0 p0.length c_p0), (2, .slice a_p2 p2.length c_p2), (4, .pointer (some ⟨b1, 0, none⟩)), (6, .bool false), (23, .bool (decide (30 < (p2.length : Int))))] rfl ⟨rfl, rfl, rfl, rfl, rfl, trivial⟩ ?_
        refine WO_end ?_
        cases hx4
        refine WK.sub ?_ (WK.cls (fun _ h => h) hk5)
        exact ⟨rfl, rfl, rfl, rfl, rfl, trivial⟩
theorem fiduciallaw45_AggregateProofs_walk {m : Mu} {p0 : List (List Int)} {p1 : List (List Int)} {p2_0 : Int} {p2_1 : Int} {p2_2 : Int} {p2_3 : List Int} {a_p0 : Option Addr} {q_p0 c_p0 : Nat} {a_p1 : Option Addr} {q_p1 c_p1 : Nat} {a_p2_3 : Option Addr} {q_p2_3 c_p2_3 : Nat} (h_p0 : SlR (RowE (FE (I1 .i64)) 1) 1 m (.slice a_p0 q_p0 c_p0) p0) (h_p1 : SlR (RowE (FE (I1 .i64)) 1) 1 m (.slice a_p1 q_p1 c_p1) p1) (h_p2_3 : SlR (FE (I1 .i64)) 1 m (.slice a_p2_3 q_p2_3 c_p2_3) p2_3) {r : Bool} (hm : fiduciallaw45_AggregateProofs p0 p1 p2_0 p2_1 p2_2 p2_3 = some r) :
    Go.E.Spec Try.prog 4 [.slice a_p0 q_p0 c_p0, .slice a_p1 q_p1 c_p1, .agg #[.int .i64 p2_0, .int .i64 p2_1, .int .i64 p2_2, .slice a_p2_3 q_p2_3 c_p2_3]] m (fun v _ _ => v = .bool r) := by
  refine Spec_enter Try.func4 rfl rfl rfl (fun w0 => ?_)
  refine WK.sub (e' := [(0, .slice a_p0 q_p0 c_p0), (1, .slice a_p1 q_p1 c_p1), (2, .agg #[.int .i64 p2_0, .int .i64 p2_1, .int .i64 p2_2, .slice a_p2_3 q_p2_3 c_p2_3])]) ⟨rfl, rfl, rfl, trivial⟩ ?_
  obtain rfl := SlR.qlen h_p0
  obtain rfl := SlR.qlen h_p1
  obtain rfl := SlR.qlen h_p2_3
  refine WK.sub (e' := [(0, .slice a_p0 p0.length c_p0), (1, .slice a_p1 p1.length c_p1), (2, .agg #[.int .i64 p2_0, .int .i64 p2_1, .int .i64 p2_2, .slice a_p2_3 p2_3.length c_p2_3])]) ⟨rfl, rfl, rfl, trivial⟩ ?_
  unfold fiduciallaw45_AggregateProofs at hm
  refine WK_seq ?_
  refine WK_region ?_
  refine WO_box [.int .i64 p2_0, .int .i64 p2_1, .int .i64 p2_2, .slice a_p2_3 p2_3.length c_p2_3] rfl rfl trivial rfl rfl rfl (fun b1 => ?_)
  refine WO.cls (C' := St w0 m m [[⟨b1, 39, [.int .i64 p2_0, .int .i64 p2_1, .int .i64 p2_2, .slice a_p2_3 p2_3.length c_p2_3]⟩]]) (fun _ h => h) ?_
  refine WO_pure tbok 1 [(0, .slice a_p0 p0.length c_p0), (1, .slice a_p1 p1.length c_p1), (5, .pointer (some ⟨b1, 0, none⟩)), (6, .bool false)] rfl ⟨rfl, rfl, rfl, rfl, trivial⟩ ?_
  refine WO_end ?_
  refine WK_seq ?_
  refine WK_seq ?_
  refine WK_region ?_
  obtain ⟨y_1, hc2, hm⟩ := bind_some hm
  refine WO_call0 (.bool y_1) rfl rfl trivial rfl rfl rfl rfl St_closed ⟨8, #[], #[], rfl, callable_8, fun w hw => ⟨_, hw.sat, fiduciallaw45_known_walk hc2⟩⟩ ?_
  refine WO_pure tbok 1 [(0, .slice a_p0 p0.length c_p0), (1, .slice a_p1 p1.length c_p1), (5, .pointer (some ⟨b1, 0, none⟩)), (6, .bool false), (10, .bool (!y_1))] rfl ⟨rfl, rfl, rfl, rfl, rfl, trivial⟩ ?_
  refine WO_end ?_
  refine WK_cond (b := !y_1) rfl (fun hb3 => ?_) (fun hb3 => ?_)
  · have hm := ifT hb3 hm
    refine WK_seq ?_
    refine WK_region ?_
    refine WO_pure tbok 1 [(0, .slice a_p0 p0.length c_p0), (1, .slice a_p1 p1.length c_p1), (5, .pointer (some ⟨b1, 0, none⟩)), (6, .bool false)] rfl ⟨rfl, rfl, rfl, rfl, trivial⟩ ?_
    refine WO_end ?_
    cases hm
    exact WK_ret (ret_out (L := []) (RLc_tmp rfl RLc_nil) (List.nil_sublist _) rfl)
  · have hm := ifF hb3 hm
    refine WK_skip ?_
    refine WK_seq ?_
    refine WK_seq ?_
    obtain ⟨s_2, hx4, hm⟩ := bind_some hm
    refine WK_meet [(0, .slice a_p0 p0.length c_p0), (1, .slice a_p1 p1.length c_p1), (5, .pointer (some ⟨b1, 0, none⟩)), (6, .bool false), (24, .bool s_2)] (St w0 m m [[⟨b1, 39, [.int .i64 p2_0, .int .i64 p2_1, .int .i64 p2_2, .slice a_p2_3 p2_3.length c_p2_3]⟩]]) ?_ (fun hk5 => ?_)
    · refine WK_cond (b := s_2) rfl (fun hb6 => ?_) (fun hb6 => ?_)
      · have hm := ifT hb6 hm
        refine WK_seq ?_
        refine WK_region ?_
        refine WO_pure tbok 1 [(0, .slice a_p0 p0.length c_p0), (1, .slice a_p1 p1.length c_p1), (5, .pointer (some ⟨b1, 0, none⟩)), (6, .bool true)] rfl ⟨rfl, rfl, rfl, rfl, trivial⟩ ?_
        refine WO_end ?_
        cases hm
        exact WK_ret (ret_out (L := []) (RLc_tmp rfl RLc_nil) (List.nil_sublist _) rfl)
      · have hm := ifF hb6 hm
        refine WK_skip ?_
        refine WK_seq ?_
        refine WK_region ?_
        refine WO_pure tbok 2 [(0, .slice a_p0 p0.length c_p0), (1, .slice a_p1 p1.length c_p1), (5, .pointer (some ⟨b1, 0, none⟩)), (6, .bool false), (25, .slice a_p0 p0.length c_p0), (26, .pointer (some ⟨b1, 0, none⟩))] rfl ⟨rfl, rfl, rfl, rfl, rfl, rfl, trivial⟩ ?_
        refine WO_loadB tbok 0 rfl rfl rfl rfl (fun _ h => h) rfl rfl ?_
        refine WO_pure tbok 1 [(0, .slice a_p0 p0.length c_p0), (1, .slice a_p1 p1.length c_p1), (5, .pointer (some ⟨b1, 0, none⟩)), (6, .bool false), (25, .slice a_p0 p0.length c_p0), (27, .int .i64 p2_0), (28, .pointer (some ⟨b1, 1, none⟩))] rfl ⟨rfl, rfl, rfl, rfl, rfl, rfl, rfl, trivial⟩ ?_
        refine WO_loadB tbok 0 rfl rfl rfl rfl (fun _ h => h) rfl rfl ?_
        refine WO_pure tbok 2 [(0, .slice a_p0 p0.length c_p0), (1, .slice a_p1 p1.length c_p1), (5, .pointer (some ⟨b1, 0, none⟩)), (6, .bool false), (25, .slice a_p0 p0.length c_p0), (27, .int .i64 p2_0), (29, .int .i64 p2_1), (30, .slice a_p1 p1.length c_p1), (31, .pointer (some ⟨b1, 2, none⟩))] rfl ⟨rfl, rfl, rfl, rfl, rfl, rfl, rfl, rfl, rfl, trivial⟩ ?_
        refine WO_loadB tbok 0 rfl rfl rfl rfl (fun _ h => h) rfl rfl ?_
        obtain ⟨y_3, hc7, hm⟩ := bind_some hm
        refine WO_call0 (.int .i64 y_3) rfl rfl trivial rfl rfl rfl rfl St_closed ⟨15, #[], #[], rfl, callable_15, fun w hw => ⟨_, hw.sat, aggregate_Prove_walk h_p0 h_p1 hc7⟩⟩ ?_
        refine WO_pure tbok 1 [(0, .slice a_p0 p0.length c_p0), (1, .slice a_p1 p1.length c_p1), (5, .pointer (some ⟨b1, 0, none⟩)), (6, .bool false), (7, .int .i64 y_3)] rfl ⟨rfl, rfl, rfl, rfl, rfl, trivial⟩ ?_
        refine WO_end ?_
        refine WK_seq ?_
        refine WK_region ?_
        refine WO_pure tbok 2 [(0, .slice a_p0 p0.length c_p0), (1, .slice a_p1 p1.length c_p1), (5, .pointer (some ⟨b1, 0, none⟩)), (6, .bool false), (7, .int .i64 y_3), (34, .slice a_p0 p0.length c_p0), (35, .pointer (some ⟨b1, 0, none⟩))] rfl ⟨rfl, rfl, rfl, rfl, rfl, rfl, rfl, trivial⟩ ?_
        refine WO_loadB tbok 0 rfl rfl rfl rfl (fun _ h => h) rfl rfl ?_
        refine WO_pure tbok 1 [(0, .slice a_p0 p0.length c_p0), (1, .slice a_p1 p1.length c_p1), (5, .pointer (some ⟨b1, 0, none⟩)), (6, .bool false), (7, .int .i64 y_3), (34, .slice a_p0 p0.length c_p0), (36, .int .i64 p2_0), (37, .pointer (some ⟨b1, 1, none⟩))] rfl ⟨rfl, rfl, rfl, rfl, rfl, rfl, rfl, rfl, trivial⟩ ?_
        refine WO_loadB tbok 0 rfl rfl rfl rfl (fun _ h => h) rfl rfl ?_
        refine WO_pure tbok 1 [(0, .slice a_p0 p0.length c_p0), (1, .slice a_p1 p1.length c_p1), (5, .pointer (some ⟨b1, 0, none⟩)), (6, .bool false), (7, .int .i64 y_3), (34, .slice a_p0 p0.length c_p0), (39, .agg #[.int .i64 p2_0, .int .i64 p2_1])] rfl ⟨rfl, rfl, rfl, rfl, rfl, rfl, rfl, trivial⟩ ?_
        obtain ⟨y_4, hc8, hm⟩ := bind_some hm
        refine WO_call0 (.int .i64 y_4) rfl rfl trivial rfl rfl rfl rfl St_closed ⟨11, #[], #[], rfl, callable_11, fun w hw => ⟨_, hw.sat, fiduciallaw45_lined_walk h_p0 hc8⟩⟩ ?_
        refine WO_pure tbok 1 [(0, .slice a_p0 p0.length c_p0), (1, .slice a_p1 p1.length c_p1), (5, .pointer (some ⟨b1, 0, none⟩)), (6, .bool false), (7, .int .i64 y_3), (8, .int .i64 y_4)] rfl ⟨rfl, rfl, rfl, rfl, rfl, rfl, trivial⟩ ?_
        refine WO_end ?_
        refine WK_seq ?_
        refine WK_seq ?_
        refine WK_region ?_
        refine WO_pure tbok 2 [(0, .slice a_p0 p0.length c_p0), (1, .slice a_p1 p1.length c_p1), (5, .pointer (some ⟨b1, 0, none⟩)), (6, .bool false), (7, .int .i64 y_3), (8, .int .i64 y_4), (42, .bool (y_4 == 0))] rfl ⟨rfl, rfl, rfl, rfl, rfl, rfl, rfl, trivial⟩ ?_
        refine WO_end ?_
        obtain ⟨s_5, hx9, hm⟩ := bind_some hm
        refine WK_meet [(0, .slice a_p0 p0.length c_p0), (5, .pointer (some ⟨b1, 0, none⟩)), (6, .bool false), (7, .int .i64 y_3), (8, .int .i64 s_5)] (St w0 m m [[⟨b1, 39, [.int .i64 p2_0, .int .i64 p2_1, .int .i64 p2_2, .slice a_p2_3 p2_3.length c_p2_3]⟩]]) ?_ (fun hk10 => ?_)
        · refine WK_seq ?_
          refine WK_seq ?_
          refine WK_region ?_
          refine WO_pure tbok 3 [(0, .slice a_p0 p0.length c_p0), (5, .pointer (some ⟨b1, 0, none⟩)), (6, .bool false), (7, .int .i64 y_3), (54, .bool (y_3 != s_5))] rfl ⟨rfl, rfl, rfl, rfl, rfl, trivial⟩ ?_
          refine WO_end ?_
          refine WK_cond (b := y_3 != s_5) rfl (fun hb11 => ?_) (fun hb11 => ?_)
          · have hm := ifT hb11 hm
            refine WK_seq ?_
            refine WK_region ?_
            refine WO_pure tbok 1 [(0, .slice a_p0 p0.length c_p0), (5, .pointer (some ⟨b1, 0, none⟩)), (6, .bool false), (7, .int .i64 y_3)] rfl ⟨rfl, rfl, rfl, rfl, trivial⟩ ?_
            refine WO_end ?_
            cases hm
            exact WK_ret (ret_out (L := []) (RLc_tmp rfl RLc_nil) (List.nil_sublist _) rfl)
          · have hm := ifF hb11 hm
            refine WK_skip ?_
            refine WK_seq ?_
            refine WK_draw 28 [0, 1, 2, 3, 4, 5, 6, 7, 8, 9, 10, 11, 12, 13, 14, 15, 16, 17, 18, 19, 20, 21, 23, 24, 22, 25, 26, 27] follows_ok (by kernel_rfl) St_closed ?_
            refine WO_pure tbok 3 [(0, .slice a_p0 p0.length c_p0), (5, .pointer (some ⟨b1, 0, none⟩)), (6, .bool false), (57, .bool (y_3 != 0))] rfl ⟨rfl, rfl, rfl, rfl, trivial⟩ ?_
            refine WO_split (d := 57) (b := y_3 != 0) rfl (fun hb12 => ?_) (fun hb12 => ?_)
            · have hm := ifT hb12 hm
              refine WO_pure tbok 8 [(0, .slice a_p0 p0.length c_p0), (5, .pointer (some ⟨b1, 0, none⟩)), (6, .bool false), (57, .bool true)] rfl ⟨rfl, rfl, rfl, rfl, trivial⟩ ?_
              refine WO_skip rfl rfl ?_
              refine WO_pure tbok 12 [(6, .bool false), (69, .bool true)] rfl ⟨rfl, rfl, trivial⟩ ?_
              refine WO_skip rfl rfl ?_
              refine WO_pure tbok 3 [(6, .bool true)] rfl ⟨rfl, trivial⟩ ?_
              refine WO_tail ?_
              refine WO_end ?_
              cases hm
              exact WK_ret (ret_out (L := []) (RLc_tmp rfl RLc_nil) (List.nil_sublist _) rfl)
            · have hm := ifF hb12 hm
              refine WO_pure tbok 1 [(0, .slice a_p0 p0.length c_p0), (5, .pointer (some ⟨b1, 0, none⟩)), (6, .bool false), (57, .bool false), (58, .pointer (some ⟨b1, 3, none⟩))] rfl ⟨rfl, rfl, rfl, rfl, rfl, trivial⟩ ?_
              refine WO_loadB tbok 0 rfl rfl rfl rfl (fun _ h => h) rfl rfl ?_
              refine WO_pure tbok 3 [(0, .slice a_p0 p0.length c_p0), (5, .pointer (some ⟨b1, 0, none⟩)), (6, .bool false), (57, .bool false), (59, .slice a_p2_3 p2_3.length c_p2_3), (61, .int .i64 (p0.length : Int)), (62, .slice a_p0 p0.length c_p0)] rfl ⟨rfl, rfl, rfl, rfl, rfl, rfl, rfl, trivial⟩ ?_
              obtain ⟨v_6, hy13, hm⟩ := bind_some hm
              obtain ⟨hc14, hy13⟩ := ix_some hy13
              refine WO_index tbok rfl rfl rfl rfl rfl rfl rfl rfl (SlR.addr h_p0) hc14 ?_
              refine WO_loadR tbok rfl rfl rfl rfl (fun _ h => St.sat h) h_p0 hy13 rfl rfl (fun a15 c16 h17 => ?_)
              refine WO_pure tbok 1 [(0, .slice a_p0 p0.length c_p0), (5, .pointer (some ⟨b1, 0, none⟩)), (6, .bool false), (57, .bool false), (59, .slice a_p2_3 p2_3.length c_p2_3), (61, .int .i64 (p0.length : Int)), (65, .int .i64 ((v_6).length : Int))] rfl ⟨rfl, rfl, rfl, rfl, rfl, rfl, rfl, trivial⟩ ?_
              obtain ⟨y_7, hc18, hm⟩ := bind_some hm
              refine WO_call0 (.int .i64 y_7) rfl rfl St_closed rfl rfl rfl rfl St_closed ⟨16, #[], #[], rfl, callable_16, fun w hw => ⟨_, hw.sat, fiduciallaw45_labelled_walk h_p2_3 hc18⟩⟩ ?_
              refine WO_pure tbok 3 [(0, .slice a_p0 p0.length c_p0), (5, .pointer (some ⟨b1, 0, none⟩)), (6, .bool false), (69, .bool (y_7 != 0))] rfl ⟨rfl, rfl, rfl, rfl, trivial⟩ ?_
              refine WO_split (d := 69) (b := y_7 != 0) rfl (fun hb19 => ?_) (fun hb19 => ?_)
              · have hm := ifT hb19 hm
                refine WO_pure tbok 9 [(6, .bool false), (69, .bool true)] rfl ⟨rfl, rfl, trivial⟩ ?_
                refine WO_skip rfl rfl ?_
                refine WO_pure tbok 3 [(6, .bool true)] rfl ⟨rfl, trivial⟩ ?_
                refine WO_tail ?_
                refine WO_end ?_
                cases hm
                exact WK_ret (ret_out (L := []) (RLc_tmp rfl RLc_nil) (List.nil_sublist _) rfl)
              · have hm := ifF hb19 hm
                refine WO_pure tbok 2 [(5, .pointer (some ⟨b1, 0, none⟩)), (6, .bool false), (69, .bool false), (70, .slice a_p0 p0.length c_p0), (71, .pointer (some ⟨b1, 0, none⟩))] rfl ⟨rfl, rfl, rfl, rfl, rfl, trivial⟩ ?_
                refine WO_loadB tbok 0 rfl rfl rfl rfl (fun _ h => h) rfl rfl ?_
                refine WO_pure tbok 1 [(5, .pointer (some ⟨b1, 0, none⟩)), (6, .bool false), (69, .bool false), (70, .slice a_p0 p0.length c_p0), (72, .int .i64 p2_0), (73, .pointer (some ⟨b1, 1, none⟩))] rfl ⟨rfl, rfl, rfl, rfl, rfl, rfl, trivial⟩ ?_
                refine WO_loadB tbok 0 rfl rfl rfl rfl (fun _ h => h) rfl rfl ?_
                refine WO_pure tbok 1 [(5, .pointer (some ⟨b1, 0, none⟩)), (6, .bool false), (69, .bool false), (70, .slice a_p0 p0.length c_p0), (72, .int .i64 p2_0), (74, .int .i64 p2_1), (75, .pointer (some ⟨b1, 3, none⟩))] rfl ⟨rfl, rfl, rfl, rfl, rfl, rfl, rfl, trivial⟩ ?_
                refine WO_loadB tbok 0 rfl rfl rfl rfl (fun _ h => h) rfl rfl ?_
                refine WO_pure tbok 1 [(6, .bool false), (69, .bool false), (70, .slice a_p0 p0.length c_p0), (72, .int .i64 p2_0), (74, .int .i64 p2_1), (76, .slice a_p2_3 p2_3.length c_p2_3), (78, .pointer (some ⟨b1, 2, none⟩))] rfl ⟨rfl, rfl, rfl, rfl, rfl, rfl, rfl, trivial⟩ ?_
                refine WO_loadB tbok 0 rfl rfl rfl rfl (fun _ h => h) rfl rfl ?_
                obtain ⟨y_8, hc20, hm⟩ := bind_some hm
                refine WO_call0 (.int .i64 y_8) rfl rfl St_closed rfl rfl rfl rfl St_closed ⟨17, #[], #[], rfl, callable_17, fun w hw => ⟨_, hw.sat, fiduciallaw45_energy_walk h_p0 h_p2_3 hc20⟩⟩ ?_
                refine WO_pure tbok 3 [(6, .bool (decide (p2_2 ≤ y_8)))] rfl ⟨rfl, trivial⟩ ?_
                refine WO_tail ?_
                refine WO_end ?_
                cases hm
                exact WK_ret (ret_out (L := []) (RLc_tmp rfl RLc_nil) (List.nil_sublist _) rfl)
        · refine WK_cond (b := y_4 == 0) rfl (fun hb21 => ?_) (fun hb21 => ?_)
          · have hx9 := ifT hb21 hx9
            refine WK_region ?_
            refine WO_pure tbok 2 [(0, .slice a_p0 p0.length c_p0), (1, .slice a_p1 p1.length c_p1), (5, .pointer (some ⟨b1, 0, none⟩)), (6, .bool false), (7, .int .i64 y_3), (8, .int .i64 y_4), (43, .slice a_p0 p0.length c_p0), (44, .pointer (some ⟨b1, 0, none⟩))] rfl ⟨rfl, rfl, rfl, rfl, rfl, rfl, rfl, rfl, trivial⟩ ?_
            refine WO_loadB tbok 0 rfl rfl rfl rfl (fun _ h => h) rfl rfl ?_
            refine WO_pure tbok 1 [(0, .slice a_p0 p0.length c_p0), (1, .slice a_p1 p1.length c_p1), (5, .pointer (some ⟨b1, 0, none⟩)), (6, .bool false), (7, .int .i64 y_3), (8, .int .i64 y_4), (43, .slice a_p0 p0.length c_p0), (45, .int .i64 p2_0), (46, .pointer (some ⟨b1, 1, none⟩))] rfl ⟨rfl, rfl, rfl, rfl, rfl, rfl, rfl, rfl, rfl, trivial⟩ ?_
            refine WO_loadB tbok 0 rfl rfl rfl rfl (fun _ h => h) rfl rfl ?_
            refine WO_pure tbok 2 [(0, .slice a_p0 p0.length c_p0), (5, .pointer (some ⟨b1, 0, none⟩)), (6, .bool false), (7, .int .i64 y_3), (8, .int .i64 y_4), (43, .slice a_p0 p0.length c_p0), (45, .int .i64 p2_0), (47, .int .i64 p2_1), (48, .slice a_p1 p1.length c_p1), (49, .pointer (some ⟨b1, 2, none⟩))] rfl ⟨rfl, rfl, rfl, rfl, rfl, rfl, rfl, rfl, rfl, rfl, trivial⟩ ?_
            refine WO_loadB tbok 0 rfl rfl rfl rfl (fun _ h => h) rfl rfl ?_
            obtain ⟨y_9, hc22, hx9⟩ := bind_some hx9
            refine WO_call0 (.int .i64 y_9) rfl rfl trivial rfl rfl rfl rfl St_closed ⟨14, #[], #[], rfl, callable_14, fun w hw => ⟨_, hw.sat, fiduciallaw45_proves_walk h_p0 h_p1 hc22⟩⟩ ?_
            refine WO_pure tbok 1 [(0, .slice a_p0 p0.length c_p0), (5, .pointer (some ⟨b1, 0, none⟩)), (6, .bool false), (7, .int .i64 y_3), (8, .int .i64 y_9)] rfl ⟨rfl, rfl, rfl, rfl, rfl, trivial⟩ ?_
            refine WO_end ?_
            cases hx9
            refine WK.sub ?_ (WK.cls (fun _ h => h) hk10)
            exact ⟨rfl, rfl, rfl, rfl, rfl, trivial⟩
          · have hx9 := ifF hb21 hx9
            refine WK_skip ?_
            cases hx9
            refine WK.sub ?_ (WK.cls (fun _ h => h) hk10)
            exact ⟨rfl, rfl, rfl, rfl, rfl, trivial⟩
    · refine WK_region ?_
      refine WO_pure tbok 1 [(0, .slice a_p0 p0.length c_p0), (1, .slice a_p1 p1.length c_p1), (5, .pointer (some ⟨b1, 0, none⟩)), (6, .bool false), (11, .slice a_p0 p0.length c_p0)] rfl ⟨rfl, rfl, rfl, rfl, rfl, trivial⟩ ?_
      obtain ⟨y_10, hc23, hx4⟩ := bind_some hx4
      refine WO_call0 (.bool y_10) rfl rfl trivial rfl rfl rfl rfl St_closed ⟨9, #[], #[], rfl, callable_9, fun w hw => ⟨_, hw.sat, fiduciallaw45_few_walk h_p0 hc23⟩⟩ ?_
      refine WO_pure tbok 2 [(0, .slice a_p0 p0.length c_p0), (1, .slice a_p1 p1.length c_p1), (5, .pointer (some ⟨b1, 0, none⟩)), (6, .bool false), (14, .bool (!y_10))] rfl ⟨rfl, rfl, rfl, rfl, rfl, trivial⟩ ?_
      refine WO_split (d := 14) (b := !y_10) rfl (fun hb24 => ?_) (fun hb24 => ?_)
      · have hx4 := ifT hb24 hx4
        refine WO_pure tbok 1 [(0, .slice a_p0 p0.length c_p0), (1, .slice a_p1 p1.length c_p1), (5, .pointer (some ⟨b1, 0, none⟩)), (6, .bool false), (14, .bool true)] rfl ⟨rfl, rfl, rfl, rfl, rfl, trivial⟩ ?_
        refine WO_skip rfl rfl ?_
        refine WO_pure tbok 8 [(0, .slice a_p0 p0.length c_p0), (1, .slice a_p1 p1.length c_p1), (5, .pointer (some ⟨b1, 0, none⟩)), (6, .bool false), (24, .bool true)] rfl ⟨rfl, rfl, rfl, rfl, rfl, trivial⟩ ?_
        refine WO_end ?_
        cases hx4
        refine WK.sub ?_ (WK.cls (fun _ h => h) hk5)
        exact ⟨rfl, rfl, rfl, rfl, rfl, trivial⟩
      · have hx4 := ifF hb24 hx4
        refine WO_pure tbok 1 [(0, .slice a_p0 p0.length c_p0), (1, .slice a_p1 p1.length c_p1), (5, .pointer (some ⟨b1, 0, none⟩)), (6, .bool false), (14, .bool false), (15, .slice a_p1 p1.length c_p1)] rfl ⟨rfl, rfl, rfl, rfl, rfl, rfl, trivial⟩ ?_
        obtain ⟨y_11, hc25, hx4⟩ := bind_some hx4
        refine WO_call0 (.bool y_11) rfl rfl trivial rfl rfl rfl rfl St_closed ⟨9, #[], #[], rfl, callable_9, fun w hw => ⟨_, hw.sat, fiduciallaw45_few_walk h_p1 hc25⟩⟩ ?_
        refine WO_pure tbok 3 [(0, .slice a_p0 p0.length c_p0), (1, .slice a_p1 p1.length c_p1), (5, .pointer (some ⟨b1, 0, none⟩)), (6, .bool false), (19, .bool (!y_11))] rfl ⟨rfl, rfl, rfl, rfl, rfl, trivial⟩ ?_
        refine WO_split (d := 19) (b := !y_11) rfl (fun hb26 => ?_) (fun hb26 => ?_)
        · have hx4 := ifT hb26 hx4
          refine WO_pure tbok 5 [(0, .slice a_p0 p0.length c_p0), (1, .slice a_p1 p1.length c_p1), (5, .pointer (some ⟨b1, 0, none⟩)), (6, .bool false), (24, .bool true)] rfl ⟨rfl, rfl, rfl, rfl, rfl, trivial⟩ ?_
          refine WO_end ?_
          cases hx4
          refine WK.sub ?_ (WK.cls (fun _ h => h) hk5)
          exact ⟨rfl, rfl, rfl, rfl, rfl, trivial⟩
        · have hx4 := ifF hb26 hx4
          refine WO_pure tbok 1 [(0, .slice a_p0 p0.length c_p0), (1, .slice a_p1 p1.length c_p1), (5, .pointer (some ⟨b1, 0, none⟩)), (6, .bool false), (19, .bool false), (20, .pointer (some ⟨b1, 3, none⟩))] rfl ⟨rfl, rfl, rfl, rfl, rfl, rfl, trivial⟩ ?_
          refine WO_loadB tbok 0 rfl rfl rfl rfl (fun _ h => h) rfl rfl ?_
          refine WO_pure tbok 3 [(0, .slice a_p0 p0.length c_p0), (1, .slice a_p1 p1.length c_p1), (5, .pointer (some ⟨b1, 0, none⟩)), (6, .bool false), (24, .bool (decide (30 < (p2_3.length : Int))))] rfl ⟨rfl, rfl, rfl, rfl, rfl, trivial⟩ ?_
          refine WO_end ?_
          cases hx4
          refine WK.sub ?_ (WK.cls (fun _ h => h) hk5)
          exact ⟨rfl, rfl, rfl, rfl, rfl, trivial⟩
theorem aggregate_labelled_c1_walk {m : Mu} {p0 : Int} {q0_0 : Int} {b_q0 : Nat} (hb_q0 : m b_q0 = some (Ent.obj ⟨b_q0, 3, [.int .i64 q0_0]⟩)) {r : Bool} (hm : aggregate_labelled_c1 p0 q0_0 = some r) :
    Go.E.Spec Try.prog 60 [.int .i64 p0, .pointer (some ⟨b_q0, 0, none⟩)] m (fun v _ _ => v = .bool r) := by
  refine Spec_enter Try.func60 rfl rfl rfl (fun w0 => ?_)
  refine WK.sub (e' := [(0, .int .i64 p0), (1, .pointer (some ⟨b_q0, 0, none⟩))]) ⟨rfl, rfl, trivial⟩ ?_
  refine WK.sub (e' := [(0, .int .i64 p0), (1, .pointer (some ⟨b_q0, 0, none⟩))]) ⟨rfl, rfl, trivial⟩ ?_
  unfold aggregate_labelled_c1 at hm
  refine WK_seq ?_
  refine WK_region ?_
  refine WO_pure tbok 1 [(0, .int .i64 p0), (1, .pointer (some ⟨b_q0, 0, none⟩)), (3, .bool false)] rfl ⟨rfl, rfl, rfl, trivial⟩ ?_
  refine WO_end ?_
  refine WK_seq ?_
  refine WK_region ?_
  refine WO_pure tbok 3 [(0, .int .i64 p0), (1, .pointer (some ⟨b_q0, 0, none⟩)), (3, .bool false), (6, .bool (decide (p0 < 0)))] rfl ⟨rfl, rfl, rfl, rfl, trivial⟩ ?_
  refine WO_split (d := 6) (b := decide (p0 < 0)) rfl (fun hb1 => ?_) (fun hb1 => ?_)
  · have hm := ifT hb1 hm
    refine WO_pure tbok 5 [(3, .bool true)] rfl ⟨rfl, trivial⟩ ?_
    refine WO_end ?_
    cases hm
    exact WK_ret (ret_out (L := []) (RLc_tmp rfl RLc_nil) (List.nil_sublist _) rfl)
  · have hm := ifF hb1 hm
    refine WO_pure tbok 1 [(1, .pointer (some ⟨b_q0, 0, none⟩)), (3, .bool false), (6, .bool false), (7, .int .i64 p0)] rfl ⟨rfl, rfl, rfl, rfl, trivial⟩ ?_
    refine WO_loadM tbok rfl rfl rfl rfl (fun _ h => St.sat h) hb_q0 rfl ?_
    refine WO_pure tbok 3 [(3, .bool (decide (q0_0 ≤ p0)))] rfl ⟨rfl, trivial⟩ ?_
    refine WO_end ?_
    cases hm
    exact WK_ret (ret_out (L := []) (RLc_tmp rfl RLc_nil) (List.nil_sublist _) rfl)
theorem aggregate_labelled_walk {m : Mu} {p0 : List Int} {p1 : Int} {p2 : Int} {a_p0 : Option Addr} {q_p0 c_p0 : Nat} (h_p0 : SlR (FE (I1 .i64)) 1 m (.slice a_p0 q_p0 c_p0) p0) {r : Int} (hm : aggregate_labelled p0 p1 p2 = some r) :
    Go.E.Spec Try.prog 46 [.slice a_p0 q_p0 c_p0, .int .i64 p1, .int .i64 p2] m (fun v _ _ => v = .int .i64 r) := by
  refine Spec_enter Try.func46 rfl rfl rfl (fun w0 => ?_)
  refine WK.sub (e' := [(0, .slice a_p0 q_p0 c_p0), (1, .int .i64 p1), (2, .int .i64 p2)]) ⟨rfl, rfl, rfl, trivial⟩ ?_
  obtain rfl := SlR.qlen h_p0
  refine WK.sub (e' := [(0, .slice a_p0 p0.length c_p0), (1, .int .i64 p1), (2, .int .i64 p2)]) ⟨rfl, rfl, rfl, trivial⟩ ?_
  unfold aggregate_labelled at hm
  refine WK_seq ?_
  refine WK_region ?_
  refine WO_box [.int .i64 p2] rfl rfl trivial rfl rfl rfl (fun b1 => ?_)
  refine WO.cls (C' := St w0 m m [[⟨b1, 3, [.int .i64 p2]⟩]]) (fun _ h => h) ?_
  refine WO_pure tbok 1 [(0, .slice a_p0 p0.length c_p0), (1, .int .i64 p1), (5, .pointer (some ⟨b1, 0, none⟩)), (6, .int .i64 0)] rfl ⟨rfl, rfl, rfl, rfl, trivial⟩ ?_
  refine WO_end ?_
  refine WK_seq ?_
  refine WK_block ?_
  refine WK_seq ?_
  refine WK_region ?_
  refine WO_pure tbok 5 [(0, .slice a_p0 p0.length c_p0), (5, .pointer (some ⟨b1, 0, none⟩)), (6, .int .i64 0), (7, .bool ((p0.length : Int) != p1))] rfl ⟨rfl, rfl, rfl, rfl, trivial⟩ ?_
  refine WO_end ?_
  refine WK_cond (b := (p0.length : Int) != p1) rfl (fun hb2 => ?_) (fun hb2 => ?_)
  · have hm := ifT hb2 hm
    refine WK_seq ?_
    refine WK_region ?_
    refine WO_pure tbok 1 [(6, .int .i64 4)] rfl ⟨rfl, trivial⟩ ?_
    refine WO_end ?_
    cases hm
    exact WK_ret (ret_out (L := []) (RLc_tmp rfl RLc_nil) (List.nil_sublist _) rfl)
  · have hm := ifF hb2 hm
    refine WK_seq ?_
    refine WK_region ?_
    refine WO_pure tbok 2 [(6, .int .i64 0), (13, .slice a_p0 p0.length c_p0), (14, .func (.func 60) #[] #[.pointer (some ⟨b1, 0, none⟩)])] rfl ⟨rfl, rfl, rfl, trivial⟩ ?_
    obtain ⟨y_2, hc3, hm⟩ := bind_some hm
    refine WO_call0 (.bool y_2) rfl rfl trivial rfl rfl rfl rfl St_closed ⟨43, #[], #[], rfl, callable_43, fun w hw => ⟨_, hw.satV, slices_ContainsFunc_sint_walk (h_p0.mono (mono_FE _) hw.leV) (fun m1 hm1 z_1 _ h => specV_cap callable_60 (aggregate_labelled_c1_walk (hm1 _ _ (hw.memV (i := 0) rfl (List.mem_singleton.2 rfl))) h)) hc3⟩⟩ ?_
    refine WO_pure tbok 1 [(6, .int .i64 0), (12, .bool y_2)] rfl ⟨rfl, rfl, trivial⟩ ?_
    refine WO_end ?_
    refine WK_cond (b := y_2) rfl (fun hb4 => ?_) (fun hb4 => ?_)
    · have hm := ifT hb4 hm
      refine WK_seq ?_
      refine WK_region ?_
      refine WO_pure tbok 1 [(6, .int .i64 2)] rfl ⟨rfl, trivial⟩ ?_
      refine WO_end ?_
      cases hm
      exact WK_ret (ret_out (L := []) (RLc_tmp rfl RLc_nil) (List.nil_sublist _) rfl)
    · have hm := ifF hb4 hm
      refine WK_skip ?_
      refine WK_blk ?_
      refine WK_seq ?_
      refine WK_region ?_
      refine WO_pure tbok 1 [(6, .int .i64 0)] rfl ⟨rfl, trivial⟩ ?_
      refine WO_end ?_
      cases hm
      exact WK_ret (ret_out (L := []) (RLc_tmp rfl RLc_nil) (List.nil_sublist _) rfl)
theorem aggregate_Energy_walk {m : Mu} {p0 : List (List Int)} {p1 : Int} {p2 : Int} {p3 : List Int} {a_p0 : Option Addr} {q_p0 c_p0 : Nat} {a_p3 : Option Addr} {q_p3 c_p3 : Nat} (h_p0 : SlR (RowE (FE (I1 .i64)) 1) 1 m (.slice a_p0 q_p0 c_p0) p0) (h_p3 : SlR (FE (I1 .i64)) 1 m (.slice a_p3 q_p3 c_p3) p3) {r : Int × Int} (hm : aggregate_Energy p0 p1 p2 p3 = some r) :
    Go.E.Spec Try.prog 22 [.slice a_p0 q_p0 c_p0, .int .i64 p1, .int .i64 p2, .slice a_p3 q_p3 c_p3] m (fun v _ _ => v = .tuple #[.int .i64 r.1, .int .i64 r.2]) := by
  refine Spec_enter Try.func22 rfl rfl rfl (fun w0 => ?_)
  refine WK.sub (e' := [(0, .slice a_p0 q_p0 c_p0), (1, .int .i64 p1), (2, .int .i64 p2), (3, .slice a_p3 q_p3 c_p3)]) ⟨rfl, rfl, rfl, rfl, trivial⟩ ?_
  obtain rfl := SlR.qlen h_p0
  obtain rfl := SlR.qlen h_p3
  refine WK.sub (e' := [(0, .slice a_p0 p0.length c_p0), (1, .int .i64 p1), (2, .int .i64 p2), (3, .slice a_p3 p3.length c_p3)]) ⟨rfl, rfl, rfl, rfl, trivial⟩ ?_
  unfold aggregate_Energy at hm
  refine WK_seq ?_
  refine WK_region ?_
  refine WO_pure tbok 2 [(0, .slice a_p0 p0.length c_p0), (1, .int .i64 p1), (2, .int .i64 p2), (3, .slice a_p3 p3.length c_p3), (8, .int .i64 0), (9, .int .i64 0)] rfl ⟨rfl, rfl, rfl, rfl, rfl, rfl, trivial⟩ ?_
  refine WO_end ?_
  refine WK_seq ?_
  refine WK_seq ?_
  refine WK_region ?_
  refine WO_pure tbok 3 [(0, .slice a_p0 p0.length c_p0), (1, .int .i64 p1), (2, .int .i64 p2), (3, .slice a_p3 p3.length c_p3), (8, .int .i64 0), (9, .int .i64 0), (15, .slice a_p0 p0.length c_p0), (16, .int .i64 p1), (17, .int .i64 p2)] rfl ⟨rfl, rfl, rfl, rfl, rfl, rfl, rfl, rfl, rfl, trivial⟩ ?_
  obtain ⟨y_1, hc1, hm⟩ := bind_some hm
  refine WO_call0 (.int .i64 y_1) rfl rfl trivial rfl rfl rfl rfl St_closed ⟨31, #[], #[], rfl, callable_31, fun w hw => ⟨_, hw.sat, aggregate_checked_walk h_p0 hc1⟩⟩ ?_
  refine WO_pure tbok 1 [(0, .slice a_p0 p0.length c_p0), (1, .int .i64 p1), (2, .int .i64 p2), (3, .slice a_p3 p3.length c_p3), (8, .int .i64 0), (9, .int .i64 0), (10, .int .i64 y_1)] rfl ⟨rfl, rfl, rfl, rfl, rfl, rfl, rfl, trivial⟩ ?_
  refine WO_end ?_
  refine WK_seq ?_
  refine WK_region ?_
  refine WO_pure tbok 2 [(0, .slice a_p0 p0.length c_p0), (1, .int .i64 p1), (2, .int .i64 p2), (3, .slice a_p3 p3.length c_p3), (8, .int .i64 0), (9, .int .i64 0), (10, .int .i64 y_1), (20, .bool (y_1 != 0))] rfl ⟨rfl, rfl, rfl, rfl, rfl, rfl, rfl, rfl, trivial⟩ ?_
  refine WO_end ?_
  refine WK_cond (b := y_1 != 0) rfl (fun hb2 => ?_) (fun hb2 => ?_)
  · have hm := ifT hb2 hm
    refine WK_seq ?_
    refine WK_region ?_
    refine WO_pure tbok 3 [(0, .slice a_p0 p0.length c_p0), (1, .int .i64 p1), (2, .int .i64 p2), (3, .slice a_p3 p3.length c_p3), (8, .int .i64 0), (9, .int .i64 y_1)] rfl ⟨rfl, rfl, rfl, rfl, rfl, rfl, trivial⟩ ?_
    refine WO_end ?_
    cases hm
    exact WK_ret (ret_out (L := []) (RLc_tmp rfl (RLc_tmp rfl RLc_nil)) (List.nil_sublist _) rfl)
  · have hm := ifF hb2 hm
    refine WK_skip ?_
    refine WK_seq ?_
    refine WK_seq ?_
    refine WK_region ?_
    refine WO_pure tbok 4 [(0, .slice a_p0 p0.length c_p0), (1, .int .i64 p1), (2, .int .i64 p2), (3, .slice a_p3 p3.length c_p3), (8, .int .i64 0), (9, .int .i64 0), (22, .slice a_p3 p3.length c_p3), (24, .int .i64 (p0.length : Int)), (25, .slice a_p0 p0.length c_p0)] rfl ⟨rfl, rfl, rfl, rfl, rfl, rfl, rfl, rfl, rfl, trivial⟩ ?_
    obtain ⟨v_2, hy3, hm⟩ := bind_some hm
    obtain ⟨hc4, hy3⟩ := ix_some hy3
    refine WO_index tbok rfl rfl rfl rfl rfl rfl rfl rfl (SlR.addr h_p0) hc4 ?_
    refine WO_loadR tbok rfl rfl rfl rfl (fun _ h => St.sat h) h_p0 hy3 rfl rfl (fun a5 c6 h7 => ?_)
    refine WO_pure tbok 1 [(0, .slice a_p0 p0.length c_p0), (1, .int .i64 p1), (2, .int .i64 p2), (3, .slice a_p3 p3.length c_p3), (8, .int .i64 0), (9, .int .i64 0), (22, .slice a_p3 p3.length c_p3), (24, .int .i64 (p0.length : Int)), (28, .int .i64 ((v_2).length : Int))] rfl ⟨rfl, rfl, rfl, rfl, rfl, rfl, rfl, rfl, rfl, trivial⟩ ?_
    obtain ⟨y_3, hc8, hm⟩ := bind_some hm
    refine WO_call0 (.int .i64 y_3) rfl rfl trivial rfl rfl rfl rfl St_closed ⟨46, #[], #[], rfl, callable_46, fun w hw => ⟨_, hw.sat, aggregate_labelled_walk h_p3 hc8⟩⟩ ?_
    refine WO_pure tbok 1 [(0, .slice a_p0 p0.length c_p0), (1, .int .i64 p1), (2, .int .i64 p2), (3, .slice a_p3 p3.length c_p3), (8, .int .i64 0), (9, .int .i64 0), (11, .int .i64 y_3)] rfl ⟨rfl, rfl, rfl, rfl, rfl, rfl, rfl, trivial⟩ ?_
    refine WO_end ?_
    refine WK_seq ?_
    refine WK_region ?_
    refine WO_pure tbok 2 [(0, .slice a_p0 p0.length c_p0), (1, .int .i64 p1), (2, .int .i64 p2), (3, .slice a_p3 p3.length c_p3), (8, .int .i64 0), (9, .int .i64 0), (11, .int .i64 y_3), (31, .bool (y_3 != 0))] rfl ⟨rfl, rfl, rfl, rfl, rfl, rfl, rfl, rfl, trivial⟩ ?_
    refine WO_end ?_
    refine WK_cond (b := y_3 != 0) rfl (fun hb9 => ?_) (fun hb9 => ?_)
    · have hm := ifT hb9 hm
      refine WK_seq ?_
      refine WK_region ?_
      refine WO_pure tbok 3 [(0, .slice a_p0 p0.length c_p0), (1, .int .i64 p1), (2, .int .i64 p2), (3, .slice a_p3 p3.length c_p3), (8, .int .i64 0), (9, .int .i64 y_3)] rfl ⟨rfl, rfl, rfl, rfl, rfl, rfl, trivial⟩ ?_
      refine WO_end ?_
      cases hm
      exact WK_ret (ret_out (L := []) (RLc_tmp rfl (RLc_tmp rfl RLc_nil)) (List.nil_sublist _) rfl)
    · have hm := ifF hb9 hm
      refine WK_skip ?_
      refine WK_seq ?_
      refine WK_region ?_
      refine WO_pure tbok 1 [(0, .slice a_p0 p0.length c_p0), (1, .int .i64 p1), (2, .int .i64 p2), (3, .slice a_p3 p3.length c_p3), (8, .int .i64 0), (9, .int .i64 0), (12, .int .i64 0)] rfl ⟨rfl, rfl, rfl, rfl, rfl, rfl, rfl, trivial⟩ ?_
      refine WO_end ?_
      refine WK_seq ?_
      refine WK_seq ?_
      refine WK_region ?_
      refine WO_pure tbok 3 [(0, .slice a_p0 p0.length c_p0), (1, .int .i64 p1), (2, .int .i64 p2), (3, .slice a_p3 p3.length c_p3), (8, .int .i64 0), (9, .int .i64 0), (12, .int .i64 0), (33, .slice a_p3 p3.length c_p3), (34, .int .i64 (p3.length : Int)), (35, .int .i64 0)] rfl ⟨rfl, rfl, rfl, rfl, rfl, rfl, rfl, rfl, rfl, rfl, trivial⟩ ?_
      refine WO_end ?_
      obtain ⟨x10, hx11, hm⟩ := bind_some hm
      refine WK_join (β := Int × Unit) (fun p => p.1 = x10) (fun p => [(8, .int .i64 0), (9, .int .i64 0), (12, .int .i64 p.1)]) (fun p => St w0 m m []) ?_ (fun hk12 => ?_)
      · rintro ⟨s_6, ⟨⟩⟩ hq18
        subst hq18
        refine WK.sub (e' := [(8, .int .i64 0), (9, .int .i64 0), (12, .int .i64 s_6)]) ⟨rfl, rfl, rfl, trivial⟩ (WK.cls (C' := St w0 m m []) (fun _ h => h) ?_)
        refine WK_seq ?_
        refine WK_region ?_
        refine WO_pure tbok 3 [(8, .int .i64 s_6), (9, .int .i64 0)] rfl ⟨rfl, rfl, trivial⟩ ?_
        refine WO_end ?_
        cases hm
        exact WK_ret (ret_out (L := []) (RLc_tmp rfl (RLc_tmp rfl RLc_nil)) (List.nil_sublist _) rfl)
      · refine WK_block ?_
        refine WK_loop (S := Int × Int) (G := Unit) (fun s => aggregate_Energy_s1 p0 p1 p2 p3 s.1 s.2) (fun s g => [(0, .slice a_p0 p0.length c_p0), (1, .int .i64 p1), (2, .int .i64 p2), (3, .slice a_p3 p3.length c_p3), (8, .int .i64 0), (9, .int .i64 0), (12, .int .i64 s.1), (33, .slice a_p3 p3.length c_p3), (34, .int .i64 (p3.length : Int)), (35, .int .i64 s.2)]) (fun s g => St w0 m m []) (fun s g => True) FUEL (0, 0) () x10 hx11 trivial ⟨rfl, rfl, rfl, rfl, rfl, rfl, rfl, rfl, rfl, rfl, trivial⟩ (fun _ h => h) ?_
        rintro ⟨s_4, s_5⟩ ⟨⟩ o14 fl15 hm13 - hn16 hd17
        have hm13 : aggregate_Energy_s1 p0 p1 p2 p3 s_4 s_5 = some o14 := hm13
        unfold aggregate_Energy_s1 at hm13
        refine WK.sub (e' := [(0, .slice a_p0 p0.length c_p0), (1, .int .i64 p1), (2, .int .i64 p2), (3, .slice a_p3 p3.length c_p3), (8, .int .i64 0), (9, .int .i64 0), (12, .int .i64 s_4), (33, .slice a_p3 p3.length c_p3), (34, .int .i64 (p3.length : Int)), (35, .int .i64 s_5)]) ⟨rfl, rfl, rfl, rfl, rfl, rfl, rfl, rfl, rfl, rfl, trivial⟩ (WK.cls (C' := St w0 m m []) (fun _ h => h) ?_)
        refine WK_seq ?_
        refine WK_region ?_
        refine WO_pure tbok 1 [(0, .slice a_p0 p0.length c_p0), (1, .int .i64 p1), (2, .int .i64 p2), (3, .slice a_p3 p3.length c_p3), (8, .int .i64 0), (9, .int .i64 0), (12, .int .i64 s_4), (33, .slice a_p3 p3.length c_p3), (34, .int .i64 (p3.length : Int)), (35, .int .i64 s_5), (36, .bool (decide (s_5 < (p3.length : Int))))] rfl ⟨rfl, rfl, rfl, rfl, rfl, rfl, rfl, rfl, rfl, rfl, rfl, trivial⟩ ?_
        refine WO_end ?_
        refine WK_seq ?_
        refine WK_cond (b := decide (s_5 < (p3.length : Int))) rfl (fun hb19 => ?_) (fun hb19 => ?_)
        · have hm13 := ifT hb19 hm13
          refine WK_skip ?_
          refine WK_seq ?_
          refine WK_block ?_
          refine WK_seq ?_
          refine WK_region ?_
          refine WO_pure tbok 1 [(0, .slice a_p0 p0.length c_p0), (1, .int .i64 p1), (2, .int .i64 p2), (3, .slice a_p3 p3.length c_p3), (8, .int .i64 0), (9, .int .i64 0), (12, .int .i64 s_4), (33, .slice a_p3 p3.length c_p3), (34, .int .i64 (p3.length : Int)), (35, .int .i64 s_5), (37, .int .i64 s_5)] rfl ⟨rfl, rfl, rfl, rfl, rfl, rfl, rfl, rfl, rfl, rfl, rfl, trivial⟩ ?_
          obtain ⟨v_7, hy20, hm13⟩ := bind_some hm13
          obtain ⟨hc21, hy20⟩ := ix_some hy20
          refine WO_index tbok rfl rfl rfl rfl rfl rfl rfl rfl (SlR.addr h_p3) hc21 ?_
          refine WO_loadE tbok rfl rfl rfl rfl (fun _ h => St.sat h) h_p3 hy20 rfl ?_
          refine WO_pure tbok 2 [(0, .slice a_p0 p0.length c_p0), (1, .int .i64 p1), (2, .int .i64 p2), (3, .slice a_p3 p3.length c_p3), (8, .int .i64 0), (9, .int .i64 0), (12, .int .i64 s_4), (13, .int .i64 s_5), (14, .int .i64 v_7), (33, .slice a_p3 p3.length c_p3), (34, .int .i64 (p3.length : Int)), (35, .int .i64 s_5)] rfl ⟨rfl, rfl, rfl, rfl, rfl, rfl, rfl, rfl, rfl, rfl, rfl, rfl, trivial⟩ ?_
          refine WO_end ?_
          refine WK_seq ?_
          refine WK_region ?_
          refine WO_pure tbok 3 [(0, .slice a_p0 p0.length c_p0), (1, .int .i64 p1), (2, .int .i64 p2), (3, .slice a_p3 p3.length c_p3), (8, .int .i64 0), (9, .int .i64 0), (12, .int .i64 s_4), (13, .int .i64 s_5), (14, .int .i64 v_7), (33, .slice a_p3 p3.length c_p3), (34, .int .i64 (p3.length : Int)), (35, .int .i64 s_5), (40, .int .i64 s_4), (41, .slice a_p0 p0.length c_p0), (42, .int .i64 s_5)] rfl ⟨rfl, rfl, rfl, rfl, rfl, rfl, rfl, rfl, rfl, rfl, rfl, rfl, rfl, rfl, rfl, trivial⟩ ?_
          obtain ⟨v_8, hy22, hm13⟩ := bind_some hm13
          obtain ⟨hc23, hy22⟩ := ix_some hy22
          refine WO_index tbok rfl rfl rfl rfl rfl rfl rfl rfl (SlR.addr h_p0) hc23 ?_
          refine WO_loadR tbok rfl rfl rfl rfl (fun _ h => St.sat h) h_p0 hy22 rfl rfl (fun a24 c25 h26 => ?_)
          refine WO_pure tbok 1 [(0, .slice a_p0 p0.length c_p0), (1, .int .i64 p1), (2, .int .i64 p2), (3, .slice a_p3 p3.length c_p3), (8, .int .i64 0), (9, .int .i64 0), (12, .int .i64 s_4), (13, .int .i64 s_5), (14, .int .i64 v_7), (33, .slice a_p3 p3.length c_p3), (34, .int .i64 (p3.length : Int)), (35, .int .i64 s_5), (40, .int .i64 s_4), (44, .slice a24 ((v_8).length) c25), (45, .int .i64 v_7)] rfl ⟨rfl, rfl, rfl, rfl, rfl, rfl, rfl, rfl, rfl, rfl, rfl, rfl, rfl, rfl, rfl, trivial⟩ ?_
          obtain ⟨v_9, hy27, hm13⟩ := bind_some hm13
          obtain ⟨hc28, hy27⟩ := ix_some hy27
          refine WO_index tbok rfl rfl rfl rfl rfl rfl rfl rfl (SlR.addr h26) hc28 ?_
          refine WO_loadE tbok rfl rfl rfl rfl (fun _ h => St.sat h) h26 hy27 rfl ?_
          refine WO_pure tbok 2 [(0, .slice a_p0 p0.length c_p0), (1, .int .i64 p1), (2, .int .i64 p2), (3, .slice a_p3 p3.length c_p3), (8, .int .i64 0), (9, .int .i64 0), (12, .int .i64 (w64 (s_4 + v_9))), (13, .int .i64 s_5), (14, .int .i64 v_7), (33, .slice a_p3 p3.length c_p3), (34, .int .i64 (p3.length : Int)), (35, .int .i64 s_5)] rfl ⟨rfl, rfl, rfl, rfl, rfl, rfl, rfl, rfl, rfl, rfl, rfl, rfl, trivial⟩ ?_
          refine WO_end ?_
          refine WK_seq ?_
          refine WK_region ?_
          refine WO_pure tbok 2 [(0, .slice a_p0 p0.length c_p0), (1, .int .i64 p1), (2, .int .i64 p2), (3, .slice a_p3 p3.length c_p3), (8, .int .i64 0), (9, .int .i64 0), (12, .int .i64 (w64 (s_4 + v_9))), (13, .int .i64 s_5), (14, .int .i64 v_7), (33, .slice a_p3 p3.length c_p3), (34, .int .i64 (p3.length : Int)), (35, .int .i64 s_5), (50, .bool (decide (0 < s_5)))] rfl ⟨rfl, rfl, rfl, rfl, rfl, rfl, rfl, rfl, rfl, rfl, rfl, rfl, rfl, trivial⟩ ?_
          refine WO_end ?_
          obtain ⟨s_10, hx29, hm13⟩ := bind_some hm13
          refine WK_meet [(0, .slice a_p0 p0.length c_p0), (1, .int .i64 p1), (2, .int .i64 p2), (3, .slice a_p3 p3.length c_p3), (8, .int .i64 0), (9, .int .i64 0), (12, .int .i64 s_10), (33, .slice a_p3 p3.length c_p3), (34, .int .i64 (p3.length : Int)), (35, .int .i64 s_5)] (St w0 m m []) ?_ (fun hk30 => ?_)
          · refine WK_blk ?_
            refine WK_region ?_
            refine WO_pure tbok 2 [(0, .slice a_p0 p0.length c_p0), (1, .int .i64 p1), (2, .int .i64 p2), (3, .slice a_p3 p3.length c_p3), (8, .int .i64 0), (9, .int .i64 0), (12, .int .i64 s_10), (33, .slice a_p3 p3.length c_p3), (34, .int .i64 (p3.length : Int)), (35, .int .i64 (w64 (s_5 + 1)))] rfl ⟨rfl, rfl, rfl, rfl, rfl, rfl, rfl, rfl, rfl, rfl, trivial⟩ ?_
            refine WO_end ?_
            cases hm13
            refine WK.sub ?_ (WK.cls (fun _ h => h) (hn16 _ () rfl trivial))
            exact ⟨rfl, rfl, rfl, rfl, rfl, rfl, rfl, rfl, rfl, rfl, trivial⟩
          · refine WK_cond (b := decide (0 < s_5)) rfl (fun hb31 => ?_) (fun hb31 => ?_)
            · have hx29 := ifT hb31 hx29
              refine WK_region ?_
              refine WO_pure tbok 5 [(0, .slice a_p0 p0.length c_p0), (1, .int .i64 p1), (2, .int .i64 p2), (3, .slice a_p3 p3.length c_p3), (8, .int .i64 0), (9, .int .i64 0), (12, .int .i64 (w64 (s_4 + v_9))), (33, .slice a_p3 p3.length c_p3), (34, .int .i64 (p3.length : Int)), (35, .int .i64 s_5), (51, .int .i64 (w64 (s_4 + v_9))), (52, .int .i64 v_7), (53, .slice a_p3 p3.length c_p3), (55, .int .i64 (w64 (s_5 - 1)))] rfl ⟨rfl, rfl, rfl, rfl, rfl, rfl, rfl, rfl, rfl, rfl, rfl, rfl, rfl, rfl, trivial⟩ ?_
              obtain ⟨v_11, hy32, hx29⟩ := bind_some hx29
              obtain ⟨hc33, hy32⟩ := ix_some hy32
              refine WO_index tbok rfl rfl rfl rfl rfl rfl rfl rfl (SlR.addr h_p3) hc33 ?_
              refine WO_loadE tbok rfl rfl rfl rfl (fun _ h => St.sat h) h_p3 hy32 rfl ?_
              refine WO_pure tbok 3 [(0, .slice a_p0 p0.length c_p0), (1, .int .i64 p1), (2, .int .i64 p2), (3, .slice a_p3 p3.length c_p3), (8, .int .i64 0), (9, .int .i64 0), (12, .int .i64 (w64 (s_4 + v_9))), (33, .slice a_p3 p3.length c_p3), (34, .int .i64 (p3.length : Int)), (35, .int .i64 s_5), (51, .int .i64 (w64 (s_4 + v_9))), (58, .int .i64 (w64 (v_7 - v_11))), (59, .int .i64 p1), (60, .int .i64 p2)] rfl ⟨rfl, rfl, rfl, rfl, rfl, rfl, rfl, rfl, rfl, rfl, rfl, rfl, rfl, rfl, trivial⟩ ?_
              obtain ⟨y_12, hc34, hx29⟩ := bind_some hx29
              refine WO_call0 (.int .i64 y_12) rfl rfl trivial rfl rfl rfl rfl St_closed ⟨36, #[], #[], rfl, callable_36, fun w hw => ⟨_, hw.sat, aggregate_between_walk hc34⟩⟩ ?_
              refine WO_pure tbok 2 [(0, .slice a_p0 p0.length c_p0), (1, .int .i64 p1), (2, .int .i64 p2), (3, .slice a_p3 p3.length c_p3), (8, .int .i64 0), (9, .int .i64 0), (12, .int .i64 (w64 ((w64 (s_4 + v_9)) + y_12))), (33, .slice a_p3 p3.length c_p3), (34, .int .i64 (p3.length : Int)), (35, .int .i64 s_5)] rfl ⟨rfl, rfl, rfl, rfl, rfl, rfl, rfl, rfl, rfl, rfl, trivial⟩ ?_
              refine WO_end ?_
              cases hx29
              refine WK.sub ?_ (WK.cls (fun _ h => h) hk30)
              exact ⟨rfl, rfl, rfl, rfl, rfl, rfl, rfl, rfl, rfl, rfl, trivial⟩
            · have hx29 := ifF hb31 hx29
              refine WK_skip ?_
              cases hx29
              refine WK.sub ?_ (WK.cls (fun _ h => h) hk30)
              exact ⟨rfl, rfl, rfl, rfl, rfl, rfl, rfl, rfl, rfl, rfl, trivial⟩
        · have hm13 := ifF hb19 hm13
          refine WK_exit rfl ?_
          cases hm13
          refine WK.sub ?_ (WK.cls (fun _ h => h) (hk12 (s_4, ()) (hd17 _ rfl)))
          exact ⟨rfl, rfl, rfl, trivial⟩
theorem fiduciallaw45_AggregateEnergies_walk {m : Mu} {p0 : List (List Int)} {p1_0 : Int} {p1_1 : Int} {p2 : List Int} {a_p0 : Option Addr} {q_p0 c_p0 : Nat} {a_p2 : Option Addr} {q_p2 c_p2 : Nat} (h_p0 : SlR (RowE (FE (I1 .i64)) 1) 1 m (.slice a_p0 q_p0 c_p0) p0) (h_p2 : SlR (FE (I1 .i64)) 1 m (.slice a_p2 q_p2 c_p2) p2) {r : Bool} (hm : fiduciallaw45_AggregateEnergies p0 p1_0 p1_1 p2 = some r) :
    Go.E.Spec Try.prog 6 [.slice a_p0 q_p0 c_p0, .agg #[.int .i64 p1_0, .int .i64 p1_1], .slice a_p2 q_p2 c_p2] m (fun v _ _ => v = .bool r) := by
  refine Spec_enter Try.func6 rfl rfl rfl (fun w0 => ?_)
  refine WK.sub (e' := [(0, .slice a_p0 q_p0 c_p0), (1, .agg #[.int .i64 p1_0, .int .i64 p1_1]), (2, .slice a_p2 q_p2 c_p2)]) ⟨rfl, rfl, rfl, trivial⟩ ?_
  obtain rfl := SlR.qlen h_p0
  obtain rfl := SlR.qlen h_p2
  refine WK.sub (e' := [(0, .slice a_p0 p0.length c_p0), (1, .agg #[.int .i64 p1_0, .int .i64 p1_1]), (2, .slice a_p2 p2.length c_p2)]) ⟨rfl, rfl, rfl, trivial⟩ ?_
  unfold fiduciallaw45_AggregateEnergies at hm
  refine WK_seq ?_
  refine WK_region ?_
  refine WO_box [.int .i64 p1_0, .int .i64 p1_1] rfl rfl trivial rfl rfl rfl (fun b1 => ?_)
  refine WO.cls (C' := St w0 m m [[⟨b1, 23, [.int .i64 p1_0, .int .i64 p1_1]⟩]]) (fun _ h => h) ?_
  refine WO_pure tbok 1 [(0, .slice a_p0 p0.length c_p0), (2, .slice a_p2 p2.length c_p2), (4, .pointer (some ⟨b1, 0, none⟩)), (6, .bool false)] rfl ⟨rfl, rfl, rfl, rfl, trivial⟩ ?_
  refine WO_end ?_
  refine WK_seq ?_
  refine WK_seq ?_
  refine WK_region ?_
  obtain ⟨y_1, hc2, hm⟩ := bind_some hm
  refine WO_call0 (.bool y_1) rfl rfl trivial rfl rfl rfl rfl St_closed ⟨8, #[], #[], rfl, callable_8, fun w hw => ⟨_, hw.sat, fiduciallaw45_known_walk hc2⟩⟩ ?_
  refine WO_pure tbok 1 [(0, .slice a_p0 p0.length c_p0), (2, .slice a_p2 p2.length c_p2), (4, .pointer (some ⟨b1, 0, none⟩)), (6, .bool false), (11, .bool (!y_1))] rfl ⟨rfl, rfl, rfl, rfl, rfl, trivial⟩ ?_
  refine WO_end ?_
  refine WK_cond (b := !y_1) rfl (fun hb3 => ?_) (fun hb3 => ?_)
  · have hm := ifT hb3 hm
    refine WK_seq ?_
    refine WK_region ?_
    refine WO_pure tbok 1 [(0, .slice a_p0 p0.length c_p0), (2, .slice a_p2 p2.length c_p2), (4, .pointer (some ⟨b1, 0, none⟩)), (6, .bool false)] rfl ⟨rfl, rfl, rfl, rfl, trivial⟩ ?_
    refine WO_end ?_
    cases hm
    exact WK_ret (ret_out (L := []) (RLc_tmp rfl RLc_nil) (List.nil_sublist _) rfl)
  · have hm := ifF hb3 hm
    refine WK_skip ?_
    refine WK_seq ?_
    refine WK_seq ?_
    obtain ⟨s_2, hx4, hm⟩ := bind_some hm
    refine WK_meet [(0, .slice a_p0 p0.length c_p0), (2, .slice a_p2 p2.length c_p2), (4, .pointer (some ⟨b1, 0, none⟩)), (6, .bool false), (19, .bool s_2)] (St w0 m m [[⟨b1, 23, [.int .i64 p1_0, .int .i64 p1_1]⟩]]) ?_ (fun hk5 => ?_)
    · refine WK_cond (b := s_2) rfl (fun hb6 => ?_) (fun hb6 => ?_)
      · have hm := ifT hb6 hm
        refine WK_seq ?_
        refine WK_region ?_
        refine WO_pure tbok 1 [(0, .slice a_p0 p0.length c_p0), (2, .slice a_p2 p2.length c_p2), (4, .pointer (some ⟨b1, 0, none⟩)), (6, .bool true)] rfl ⟨rfl, rfl, rfl, rfl, trivial⟩ ?_
        refine WO_end ?_
        cases hm
        exact WK_ret (ret_out (L := []) (RLc_tmp rfl RLc_nil) (List.nil_sublist _) rfl)
      · have hm := ifF hb6 hm
        refine WK_skip ?_
        refine WK_seq ?_
        refine WK_seq ?_
        refine WK_region ?_
        refine WO_pure tbok 1 [(0, .slice a_p0 p0.length c_p0), (2, .slice a_p2 p2.length c_p2), (4, .pointer (some ⟨b1, 0, none⟩)), (6, .bool false), (20, .slice a_p0 p0.length c_p0)] rfl ⟨rfl, rfl, rfl, rfl, rfl, trivial⟩ ?_
        obtain ⟨y_3, hc7, hm⟩ := bind_some hm
        refine WO_call0 (.int .i64 y_3) rfl rfl trivial rfl rfl rfl rfl St_closed ⟨20, #[], #[], rfl, callable_20, fun w hw => ⟨_, hw.sat, aggregate_Check_walk h_p0 hc7⟩⟩ ?_
        refine WO_pure tbok 2 [(0, .slice a_p0 p0.length c_p0), (2, .slice a_p2 p2.length c_p2), (4, .pointer (some ⟨b1, 0, none⟩)), (6, .bool false), (22, .bool (y_3 == 0)), (23, .slice a_p0 p0.length c_p0)] rfl ⟨rfl, rfl, rfl, rfl, rfl, rfl, trivial⟩ ?_
        obtain ⟨y_4, hc8, hm⟩ := bind_some hm
        refine WO_call0 (.bool y_4) rfl rfl trivial rfl rfl rfl rfl St_closed ⟨21, #[], #[], rfl, callable_21, fun w hw => ⟨_, hw.sat, fiduciallaw45_line_walk h_p0 hc8⟩⟩ ?_
        refine WO_pure tbok 1 [(0, .slice a_p0 p0.length c_p0), (2, .slice a_p2 p2.length c_p2), (4, .pointer (some ⟨b1, 0, none⟩)), (6, .bool false), (25, .bool (!((y_3 == 0) == y_4)))] rfl ⟨rfl, rfl, rfl, rfl, rfl, trivial⟩ ?_
        refine WO_end ?_
        refine WK_cond (b := !((y_3 == 0) == y_4)) rfl (fun hb9 => ?_) (fun hb9 => ?_)
        · have hm := ifT hb9 hm
          refine WK_seq ?_
          refine WK_region ?_
          refine WO_pure tbok 1 [(0, .slice a_p0 p0.length c_p0), (2, .slice a_p2 p2.length c_p2), (4, .pointer (some ⟨b1, 0, none⟩)), (6, .bool false)] rfl ⟨rfl, rfl, rfl, rfl, trivial⟩ ?_
          refine WO_end ?_
          cases hm
          exact WK_ret (ret_out (L := []) (RLc_tmp rfl RLc_nil) (List.nil_sublist _) rfl)
        · have hm := ifF hb9 hm
          refine WK_skip ?_
          refine WK_seq ?_
          refine WK_region ?_
          refine WO_pure tbok 2 [(0, .slice a_p0 p0.length c_p0), (2, .slice a_p2 p2.length c_p2), (4, .pointer (some ⟨b1, 0, none⟩)), (6, .bool false), (27, .slice a_p0 p0.length c_p0), (28, .pointer (some ⟨b1, 0, none⟩))] rfl ⟨rfl, rfl, rfl, rfl, rfl, rfl, trivial⟩ ?_
          refine WO_loadB tbok 0 rfl rfl rfl rfl (fun _ h => h) rfl rfl ?_
          refine WO_pure tbok 1 [(0, .slice a_p0 p0.length c_p0), (2, .slice a_p2 p2.length c_p2), (4, .pointer (some ⟨b1, 0, none⟩)), (6, .bool false), (27, .slice a_p0 p0.length c_p0), (29, .int .i64 p1_0), (30, .pointer (some ⟨b1, 1, none⟩))] rfl ⟨rfl, rfl, rfl, rfl, rfl, rfl, rfl, trivial⟩ ?_
          refine WO_loadB tbok 0 rfl rfl rfl rfl (fun _ h => h) rfl rfl ?_
          refine WO_pure tbok 1 [(0, .slice a_p0 p0.length c_p0), (2, .slice a_p2 p2.length c_p2), (4, .pointer (some ⟨b1, 0, none⟩)), (6, .bool false), (27, .slice a_p0 p0.length c_p0), (29, .int .i64 p1_0), (31, .int .i64 p1_1), (32, .slice a_p2 p2.length c_p2)] rfl ⟨rfl, rfl, rfl, rfl, rfl, rfl, rfl, rfl, trivial⟩ ?_
          obtain ⟨⟨y_5, y_6⟩, hc10, hm⟩ := bind_some hm
          refine WO_call0 (.tuple #[.int .i64 y_5, .int .i64 y_6]) rfl rfl trivial rfl rfl rfl rfl St_closed ⟨22, #[], #[], rfl, callable_22, fun w hw => ⟨_, hw.sat, aggregate_Energy_walk h_p0 h_p2 hc10⟩⟩ ?_
          refine WO_pure tbok 5 [(0, .slice a_p0 p0.length c_p0), (2, .slice a_p2 p2.length c_p2), (4, .pointer (some ⟨b1, 0, none⟩)), (6, .bool false), (7, .int .i64 y_5), (8, .int .i64 y_6)] rfl ⟨rfl, rfl, rfl, rfl, rfl, rfl, trivial⟩ ?_
          refine WO_end ?_
          refine WK_seq ?_
          refine WK_region ?_
          refine WO_pure tbok 1 [(0, .slice a_p0 p0.length c_p0), (2, .slice a_p2 p2.length c_p2), (4, .pointer (some ⟨b1, 0, none⟩)), (6, .bool false), (7, .int .i64 y_5), (8, .int .i64 y_6), (36, .slice a_p0 p0.length c_p0)] rfl ⟨rfl, rfl, rfl, rfl, rfl, rfl, rfl, trivial⟩ ?_
          refine WO_loadB tbok 0 rfl rfl rfl rfl (fun _ h => h) rfl rfl ?_
          obtain ⟨y_7, hc11, hm⟩ := bind_some hm
          refine WO_call0 (.int .i64 y_7) rfl rfl trivial rfl rfl rfl rfl St_closed ⟨11, #[], #[], rfl, callable_11, fun w hw => ⟨_, hw.sat, fiduciallaw45_lined_walk h_p0 hc11⟩⟩ ?_
          refine WO_pure tbok 1 [(0, .slice a_p0 p0.length c_p0), (2, .slice a_p2 p2.length c_p2), (4, .pointer (some ⟨b1, 0, none⟩)), (6, .bool false), (7, .int .i64 y_5), (8, .int .i64 y_6), (9, .int .i64 y_7)] rfl ⟨rfl, rfl, rfl, rfl, rfl, rfl, rfl, trivial⟩ ?_
          refine WO_end ?_
          refine WK_seq ?_
          refine WK_seq ?_
          refine WK_region ?_
          refine WO_pure tbok 2 [(0, .slice a_p0 p0.length c_p0), (2, .slice a_p2 p2.length c_p2), (4, .pointer (some ⟨b1, 0, none⟩)), (6, .bool false), (7, .int .i64 y_5), (8, .int .i64 y_6), (9, .int .i64 y_7), (40, .bool (y_7 == 0))] rfl ⟨rfl, rfl, rfl, rfl, rfl, rfl, rfl, rfl, trivial⟩ ?_
          refine WO_end ?_
          obtain ⟨s_8, hx12, hm⟩ := bind_some hm
          refine WK_meet [(0, .slice a_p0 p0.length c_p0), (2, .slice a_p2 p2.length c_p2), (4, .pointer (some ⟨b1, 0, none⟩)), (6, .bool false), (7, .int .i64 y_5), (8, .int .i64 y_6), (9, .int .i64 s_8)] (St w0 m m [[⟨b1, 23, [.int .i64 p1_0, .int .i64 p1_1]⟩]]) ?_ (fun hk13 => ?_)
          · refine WK_seq ?_
            refine WK_seq ?_
            refine WK_region ?_
            refine WO_pure tbok 2 [(0, .slice a_p0 p0.length c_p0), (2, .slice a_p2 p2.length c_p2), (4, .pointer (some ⟨b1, 0, none⟩)), (6, .bool false), (7, .int .i64 y_5), (8, .int .i64 y_6), (9, .int .i64 s_8), (50, .bool (s_8 != 0))] rfl ⟨rfl, rfl, rfl, rfl, rfl, rfl, rfl, rfl, trivial⟩ ?_
            refine WO_end ?_
            refine WK_cond (b := s_8 != 0) rfl (fun hb14 => ?_) (fun hb14 => ?_)
            · have hm := ifT hb14 hm
              refine WK_seq ?_
              refine WK_region ?_
              refine WO_pure tbok 4 [(0, .slice a_p0 p0.length c_p0), (2, .slice a_p2 p2.length c_p2), (4, .pointer (some ⟨b1, 0, none⟩)), (6, .bool false), (7, .int .i64 y_5), (8, .int .i64 y_6), (54, .bool (y_6 == s_8))] rfl ⟨rfl, rfl, rfl, rfl, rfl, rfl, rfl, trivial⟩ ?_
              refine WO_split (d := 54) (b := y_6 == s_8) rfl (fun hb15 => ?_) (fun hb15 => ?_)
              · have hm := ifT hb15 hm
                refine WO_pure tbok 4 [(0, .slice a_p0 p0.length c_p0), (2, .slice a_p2 p2.length c_p2), (4, .pointer (some ⟨b1, 0, none⟩)), (6, .bool (y_5 == 0)), (7, .int .i64 y_5), (8, .int .i64 y_6)] rfl ⟨rfl, rfl, rfl, rfl, rfl, rfl, trivial⟩ ?_
                refine WO_end ?_
                cases hm
                exact WK_ret (ret_out (L := []) (RLc_tmp rfl RLc_nil) (List.nil_sublist _) rfl)
              · have hm := ifF hb15 hm
                refine WO_pure tbok 4 [(0, .slice a_p0 p0.length c_p0), (2, .slice a_p2 p2.length c_p2), (4, .pointer (some ⟨b1, 0, none⟩)), (6, .bool false), (7, .int .i64 y_5), (8, .int .i64 y_6)] rfl ⟨rfl, rfl, rfl, rfl, rfl, rfl, trivial⟩ ?_
                refine WO_end ?_
                cases hm
                exact WK_ret (ret_out (L := []) (RLc_tmp rfl RLc_nil) (List.nil_sublist _) rfl)
            · have hm := ifF hb14 hm
              refine WK_skip ?_
              refine WK_seq ?_
              refine WK_region ?_
              refine WO_pure tbok 3 [(0, .slice a_p0 p0.length c_p0), (2, .slice a_p2 p2.length c_p2), (4, .pointer (some ⟨b1, 0, none⟩)), (6, .bool false), (7, .int .i64 y_5), (60, .bool (y_6 == 0))] rfl ⟨rfl, rfl, rfl, rfl, rfl, rfl, trivial⟩ ?_
              refine WO_split (d := 60) (b := y_6 == 0) rfl (fun hb16 => ?_) (fun hb16 => ?_)
              · have hm := ifT hb16 hm
                refine WO_pure tbok 3 [(2, .slice a_p2 p2.length c_p2), (4, .pointer (some ⟨b1, 0, none⟩)), (6, .bool false), (60, .bool true), (61, .int .i64 y_5), (62, .slice a_p0 p0.length c_p0), (63, .pointer (some ⟨b1, 0, none⟩))] rfl ⟨rfl, rfl, rfl, rfl, rfl, rfl, rfl, trivial⟩ ?_
                refine WO_loadB tbok 0 rfl rfl rfl rfl (fun _ h => h) rfl rfl ?_
                refine WO_pure tbok 1 [(2, .slice a_p2 p2.length c_p2), (6, .bool false), (60, .bool true), (61, .int .i64 y_5), (62, .slice a_p0 p0.length c_p0), (64, .int .i64 p1_0), (65, .pointer (some ⟨b1, 1, none⟩))] rfl ⟨rfl, rfl, rfl, rfl, rfl, rfl, rfl, trivial⟩ ?_
                refine WO_loadB tbok 0 rfl rfl rfl rfl (fun _ h => h) rfl rfl ?_
                refine WO_pure tbok 1 [(6, .bool false), (60, .bool true), (61, .int .i64 y_5), (62, .slice a_p0 p0.length c_p0), (64, .int .i64 p1_0), (66, .int .i64 p1_1), (67, .slice a_p2 p2.length c_p2)] rfl ⟨rfl, rfl, rfl, rfl, rfl, rfl, rfl, trivial⟩ ?_
                obtain ⟨y_9, hc17, hm⟩ := bind_some hm
                refine WO_call0 (.int .i64 y_9) rfl rfl trivial rfl rfl rfl rfl St_closed ⟨17, #[], #[], rfl, callable_17, fun w hw => ⟨_, hw.sat, fiduciallaw45_energy_walk h_p0 h_p2 hc17⟩⟩ ?_
                refine WO_pure tbok 3 [(6, .bool (y_5 == y_9))] rfl ⟨rfl, trivial⟩ ?_
                refine WO_end ?_
                cases hm
                exact WK_ret (ret_out (L := []) (RLc_tmp rfl RLc_nil) (List.nil_sublist _) rfl)
              · have hm := ifF hb16 hm
                refine WO_pure tbok 7 [(6, .bool false), (60, .bool false)] rfl ⟨rfl, rfl, trivial⟩ ?_
                refine WO_skip rfl rfl ?_
                refine WO_pure tbok 3 [(6, .bool false)] rfl ⟨rfl, trivial⟩ ?_
                refine WO_end ?_
                cases hm
                exact WK_ret (ret_out (L := []) (RLc_tmp rfl RLc_nil) (List.nil_sublist _) rfl)
          · refine WK_cond (b := y_7 == 0) rfl (fun hb18 => ?_) (fun hb18 => ?_)
            · have hx12 := ifT hb18 hx12
              refine WK_region ?_
              refine WO_pure tbok 4 [(0, .slice a_p0 p0.length c_p0), (2, .slice a_p2 p2.length c_p2), (4, .pointer (some ⟨b1, 0, none⟩)), (6, .bool false), (7, .int .i64 y_5), (8, .int .i64 y_6), (9, .int .i64 y_7), (41, .slice a_p2 p2.length c_p2), (43, .int .i64 (p0.length : Int)), (44, .slice a_p0 p0.length c_p0)] rfl ⟨rfl, rfl, rfl, rfl, rfl, rfl, rfl, rfl, rfl, rfl, trivial⟩ ?_
              obtain ⟨v_10, hy19, hx12⟩ := bind_some hx12
              obtain ⟨hc20, hy19⟩ := ix_some hy19
              refine WO_index tbok rfl rfl rfl rfl rfl rfl rfl rfl (SlR.addr h_p0) hc20 ?_
              refine WO_loadR tbok rfl rfl rfl rfl (fun _ h => St.sat h) h_p0 hy19 rfl rfl (fun a21 c22 h23 => ?_)
              refine WO_pure tbok 1 [(0, .slice a_p0 p0.length c_p0), (2, .slice a_p2 p2.length c_p2), (4, .pointer (some ⟨b1, 0, none⟩)), (6, .bool false), (7, .int .i64 y_5), (8, .int .i64 y_6), (9, .int .i64 y_7), (41, .slice a_p2 p2.length c_p2), (43, .int .i64 (p0.length : Int)), (47, .int .i64 ((v_10).length : Int))] rfl ⟨rfl, rfl, rfl, rfl, rfl, rfl, rfl, rfl, rfl, rfl, trivial⟩ ?_
              obtain ⟨y_11, hc24, hx12⟩ := bind_some hx12
              refine WO_call0 (.int .i64 y_11) rfl rfl trivial rfl rfl rfl rfl St_closed ⟨16, #[], #[], rfl, callable_16, fun w hw => ⟨_, hw.sat, fiduciallaw45_labelled_walk h_p2 hc24⟩⟩ ?_
              refine WO_pure tbok 1 [(0, .slice a_p0 p0.length c_p0), (2, .slice a_p2 p2.length c_p2), (4, .pointer (some ⟨b1, 0, none⟩)), (6, .bool false), (7, .int .i64 y_5), (8, .int .i64 y_6), (9, .int .i64 y_11)] rfl ⟨rfl, rfl, rfl, rfl, rfl, rfl, rfl, trivial⟩ ?_
              refine WO_end ?_
              cases hx12
              refine WK.sub ?_ (WK.cls (fun _ h => h) hk13)
              exact ⟨rfl, rfl, rfl, rfl, rfl, rfl, rfl, trivial⟩
            · have hx12 := ifF hb18 hx12
              refine WK_skip ?_
              cases hx12
              refine WK.sub ?_ (WK.cls (fun _ h => h) hk13)
              exact ⟨rfl, rfl, rfl, rfl, rfl, rfl, rfl, trivial⟩
    · refine WK_region ?_
      refine WO_pure tbok 1 [(0, .slice a_p0 p0.length c_p0), (2, .slice a_p2 p2.length c_p2), (4, .pointer (some ⟨b1, 0, none⟩)), (6, .bool false), (12, .slice a_p0 p0.length c_p0)] rfl ⟨rfl, rfl, rfl, rfl, rfl, trivial⟩ ?_
      obtain ⟨y_12, hc25, hx4⟩ := bind_some hx4
      refine WO_call0 (.bool y_12) rfl rfl trivial rfl rfl rfl rfl St_closed ⟨9, #[], #[], rfl, callable_9, fun w hw => ⟨_, hw.sat, fiduciallaw45_few_walk h_p0 hc25⟩⟩ ?_
      refine WO_pure tbok 2 [(0, .slice a_p0 p0.length c_p0), (2, .slice a_p2 p2.length c_p2), (4, .pointer (some ⟨b1, 0, none⟩)), (6, .bool false), (15, .bool (!y_12))] rfl ⟨rfl, rfl, rfl, rfl, rfl, trivial⟩ ?_
      refine WO_split (d := 15) (b := !y_12) rfl (fun hb26 => ?_) (fun hb26 => ?_)
      · have hx4 := ifT hb26 hx4
        refine WO_pure tbok 4 [(0, .slice a_p0 p0.length c_p0), (2, .slice a_p2 p2.length c_p2), (4, .pointer (some ⟨b1, 0, none⟩)), (6, .bool false), (19, .bool true)] rfl ⟨rfl, rfl, rfl, rfl, rfl, trivial⟩ ?_
        refine WO_end ?_
        cases hx4
        refine WK.sub ?_ (WK.cls (fun _ h => h) hk5)
        exact ⟨rfl, rfl, rfl, rfl, rfl, trivial⟩
      · have hx4 := ifF hb26 hx4
        refine WO_pure tbok 4 [(0, .slice a_p0 p0.length c_p0), (2, .slice a_p2 p2.length c_p2), (4, .pointer (some ⟨b1, 0, none⟩)), (6, .bool false), (19, .bool (decide (30 < (p2.length : Int))))] rfl ⟨rfl, rfl, rfl, rfl, rfl, trivial⟩ ?_
        refine WO_end ?_
        cases hx4
        refine WK.sub ?_ (WK.cls (fun _ h => h) hk5)
        exact ⟨rfl, rfl, rfl, rfl, rfl, trivial⟩
theorem fiduciallaw45_small_walk {m : Mu} {p0_0 : Int} {p0_1 : Int} {p0_2 : Int} {p0_3 : List Int} {a_p0_3 : Option Addr} {q_p0_3 c_p0_3 : Nat} (h_p0_3 : SlR (FE (I1 .i64)) 1 m (.slice a_p0_3 q_p0_3 c_p0_3) p0_3) {r : Bool} (hm : fiduciallaw45_small p0_0 p0_1 p0_2 p0_3 = some r) :
    Go.E.Spec Try.prog 23 [.agg #[.int .i64 p0_0, .int .i64 p0_1, .int .i64 p0_2, .slice a_p0_3 q_p0_3 c_p0_3]] m (fun v _ _ => v = .bool r) := by
  refine Spec_enter Try.func23 rfl rfl rfl (fun w0 => ?_)
  refine WK.sub (e' := [(0, .agg #[.int .i64 p0_0, .int .i64 p0_1, .int .i64 p0_2, .slice a_p0_3 q_p0_3 c_p0_3])]) ⟨rfl, trivial⟩ ?_
  obtain rfl := SlR.qlen h_p0_3
  refine WK.sub (e' := [(0, .agg #[.int .i64 p0_0, .int .i64 p0_1, .int .i64 p0_2, .slice a_p0_3 p0_3.length c_p0_3])]) ⟨rfl, trivial⟩ ?_
  unfold fiduciallaw45_small at hm
  refine WK_seq ?_
  refine WK_region ?_
  refine WO_box [.int .i64 p0_0, .int .i64 p0_1, .int .i64 p0_2, .slice a_p0_3 p0_3.length c_p0_3] rfl rfl trivial rfl rfl rfl (fun b1 => ?_)
  refine WO.cls (C' := St w0 m m [[⟨b1, 50, [.int .i64 p0_0, .int .i64 p0_1, .int .i64 p0_2, .slice a_p0_3 p0_3.length c_p0_3]⟩]]) (fun _ h => h) ?_
  refine WO_pure tbok 1 [(1, .pointer (some ⟨b1, 0, none⟩)), (2, .bool false)] rfl ⟨rfl, rfl, trivial⟩ ?_
  refine WO_end ?_
  refine WK_seq ?_
  refine WK_region ?_
  refine WO_pure tbok 1 [(2, .bool false), (3, .pointer (some ⟨b1, 3, none⟩))] rfl ⟨rfl, rfl, trivial⟩ ?_
  refine WO_loadB tbok 0 rfl rfl rfl rfl (fun _ h => h) rfl rfl ?_
  refine WO_pure tbok 3 [(2, .bool (decide ((p0_3.length : Int) ≤ 600)))] rfl ⟨rfl, trivial⟩ ?_
  refine WO_end ?_
  cases hm
  exact WK_ret (ret_out (L := []) (RLc_tmp rfl RLc_nil) (List.nil_sublist _) rfl)
theorem census_Check_c1_walk {m : Mu} {p0 : Int}   {r : Bool} (hm : census_Check_c1 p0 = some r) :
    Go.E.Spec Try.prog 62 [.int .i64 p0] m (fun v _ _ => v = .bool r) := by
  refine Spec_enter Try.func62 rfl rfl rfl (fun w0 => ?_)
  refine WK.sub (e' := [(0, .int .i64 p0)]) ⟨rfl, trivial⟩ ?_
  refine WK.sub (e' := [(0, .int .i64 p0)]) ⟨rfl, trivial⟩ ?_
  unfold census_Check_c1 at hm
  refine WK_seq ?_
  refine WK_region ?_
  refine WO_pure tbok 1 [(0, .int .i64 p0), (2, .bool false)] rfl ⟨rfl, rfl, trivial⟩ ?_
  refine WO_end ?_
  refine WK_seq ?_
  refine WK_region ?_
  refine WO_pure tbok 3 [(0, .int .i64 p0), (2, .bool false), (5, .bool (decide (p0 < 0)))] rfl ⟨rfl, rfl, rfl, trivial⟩ ?_
  refine WO_split (d := 5) (b := decide (p0 < 0)) rfl (fun hb1 => ?_) (fun hb1 => ?_)
  · have hm := ifT hb1 hm
    refine WO_pure tbok 4 [(2, .bool true)] rfl ⟨rfl, trivial⟩ ?_
    refine WO_end ?_
    cases hm
    exact WK_ret (ret_out (L := []) (RLc_tmp rfl RLc_nil) (List.nil_sublist _) rfl)
  · have hm := ifF hb1 hm
    refine WO_pure tbok 4 [(2, .bool (decide (1048576 < p0)))] rfl ⟨rfl, trivial⟩ ?_
    refine WO_end ?_
    cases hm
    exact WK_ret (ret_out (L := []) (RLc_tmp rfl RLc_nil) (List.nil_sublist _) rfl)
theorem census_Check_walk {m : Mu} {p0_0 : Int} {p0_1 : Int} {p0_2 : Int} {p0_3 : List Int} {a_p0_3 : Option Addr} {q_p0_3 c_p0_3 : Nat} (h_p0_3 : SlR (FE (I1 .i64)) 1 m (.slice a_p0_3 q_p0_3 c_p0_3) p0_3) {r : Int} (hm : census_Check p0_0 p0_1 p0_2 p0_3 = some r) :
    Go.E.Spec Try.prog 61 [.agg #[.int .i64 p0_0, .int .i64 p0_1, .int .i64 p0_2, .slice a_p0_3 q_p0_3 c_p0_3]] m (fun v _ _ => v = .int .i64 r) := by
  refine Spec_enter Try.func61 rfl rfl rfl (fun w0 => ?_)
  refine WK.sub (e' := [(0, .agg #[.int .i64 p0_0, .int .i64 p0_1, .int .i64 p0_2, .slice a_p0_3 q_p0_3 c_p0_3])]) ⟨rfl, trivial⟩ ?_
  obtain rfl := SlR.qlen h_p0_3
  refine WK.sub (e' := [(0, .agg #[.int .i64 p0_0, .int .i64 p0_1, .int .i64 p0_2, .slice a_p0_3 p0_3.length c_p0_3])]) ⟨rfl, trivial⟩ ?_
  unfold census_Check at hm
  refine WK_seq ?_
  refine WK_region ?_
  refine WO_box [.int .i64 p0_0, .int .i64 p0_1, .int .i64 p0_2, .slice a_p0_3 p0_3.length c_p0_3] rfl rfl trivial rfl rfl rfl (fun b1 => ?_)
  refine WO.cls (C' := St w0 m m [[⟨b1, 50, [.int .i64 p0_0, .int .i64 p0_1, .int .i64 p0_2, .slice a_p0_3 p0_3.length c_p0_3]⟩]]) (fun _ h => h) ?_
  refine WO_pure tbok 1 [(1, .pointer (some ⟨b1, 0, none⟩)), (2, .int .i64 0)] rfl ⟨rfl, rfl, trivial⟩ ?_
  refine WO_end ?_
  refine WK_seq ?_
  refine WK_seq ?_
  obtain ⟨s_1, hx2, hm⟩ := bind_some hm
  refine WK_meet [(1, .pointer (some ⟨b1, 0, none⟩)), (2, .int .i64 0), (44, .bool s_1)] (St w0 m m [[⟨b1, 50, [.int .i64 p0_0, .int .i64 p0_1, .int .i64 p0_2, .slice a_p0_3 p0_3.length c_p0_3]⟩]]) ?_ (fun hk3 => ?_)
  · refine WK_cond (b := s_1) rfl (fun hb4 => ?_) (fun hb4 => ?_)
    · have hm := ifT hb4 hm
      refine WK_seq ?_
      refine WK_region ?_
      refine WO_pure tbok 1 [(1, .pointer (some ⟨b1, 0, none⟩)), (2, .int .i64 1)] rfl ⟨rfl, rfl, trivial⟩ ?_
      refine WO_end ?_
      cases hm
      exact WK_ret (ret_out (L := []) (RLc_tmp rfl RLc_nil) (List.nil_sublist _) rfl)
    · have hm := ifF hb4 hm
      refine WK_skip ?_
      refine WK_seq ?_
      refine WK_seq ?_
      refine WK_region ?_
      refine WO_pure tbok 1 [(2, .int .i64 0), (45, .pointer (some ⟨b1, 3, none⟩))] rfl ⟨rfl, rfl, trivial⟩ ?_
      refine WO_loadB tbok 0 rfl rfl rfl rfl (fun _ h => h) rfl rfl ?_
      obtain ⟨y_3, hc5, hm⟩ := bind_some hm
      refine WO_call0 (.bool y_3) rfl rfl trivial rfl rfl rfl rfl St_closed ⟨43, #[], #[], rfl, callable_43, fun w hw => ⟨_, hw.sat, slices_ContainsFunc_sint_walk h_p0_3 (fun m1 hm1 z_2 _ h => specV_cap callable_62 (census_Check_c1_walk h)) hc5⟩⟩ ?_
      refine WO_end ?_
      refine WK_cond (b := y_3) rfl (fun hb6 => ?_) (fun hb6 => ?_)
      · have hm := ifT hb6 hm
        refine WK_seq ?_
        refine WK_region ?_
        refine WO_pure tbok 1 [(2, .int .i64 1)] rfl ⟨rfl, trivial⟩ ?_
        refine WO_end ?_
        cases hm
        exact WK_ret (ret_out (L := []) (RLc_tmp rfl RLc_nil) (List.nil_sublist _) rfl)
      · have hm := ifF hb6 hm
        refine WK_skip ?_
        refine WK_seq ?_
        refine WK_region ?_
        refine WO_pure tbok 1 [(2, .int .i64 0)] rfl ⟨rfl, trivial⟩ ?_
        refine WO_end ?_
        cases hm
        exact WK_ret (ret_out (L := []) (RLc_tmp rfl RLc_nil) (List.nil_sublist _) rfl)
  · refine WK_region ?_
    refine WO_pure tbok 1 [(1, .pointer (some ⟨b1, 0, none⟩)), (2, .int .i64 0), (3, .pointer (some ⟨b1, 0, none⟩))] rfl ⟨rfl, rfl, rfl, trivial⟩ ?_
    refine WO_loadB tbok 0 rfl rfl rfl rfl (fun _ h => h) rfl rfl ?_
    refine WO_pure tbok 2 [(1, .pointer (some ⟨b1, 0, none⟩)), (2, .int .i64 0), (6, .bool (decide (p0_0 < 1)))] rfl ⟨rfl, rfl, rfl, trivial⟩ ?_
    refine WO_split (d := 6) (b := decide (p0_0 < 1)) rfl (fun hb7 => ?_) (fun hb7 => ?_)
    · have hx2 := ifT hb7 hx2
      refine WO_pure tbok 38 [(1, .pointer (some ⟨b1, 0, none⟩)), (2, .int .i64 0), (44, .bool true)] rfl ⟨rfl, rfl, rfl, trivial⟩ ?_
      refine WO_end ?_
      cases hx2
      refine WK.sub ?_ (WK.cls (fun _ h => h) hk3)
      exact ⟨rfl, rfl, rfl, trivial⟩
    · have hx2 := ifF hb7 hx2
      refine WO_pure tbok 1 [(1, .pointer (some ⟨b1, 0, none⟩)), (2, .int .i64 0), (6, .bool false), (7, .pointer (some ⟨b1, 0, none⟩))] rfl ⟨rfl, rfl, rfl, rfl, trivial⟩ ?_
      refine WO_loadB tbok 0 rfl rfl rfl rfl (fun _ h => h) rfl rfl ?_
      refine WO_pure tbok 3 [(1, .pointer (some ⟨b1, 0, none⟩)), (2, .int .i64 0), (11, .bool (decide (64 < p0_0)))] rfl ⟨rfl, rfl, rfl, trivial⟩ ?_
      refine WO_split (d := 11) (b := decide (64 < p0_0)) rfl (fun hb8 => ?_) (fun hb8 => ?_)
      · have hx2 := ifT hb8 hx2
        refine WO_pure tbok 33 [(1, .pointer (some ⟨b1, 0, none⟩)), (2, .int .i64 0), (44, .bool true)] rfl ⟨rfl, rfl, rfl, trivial⟩ ?_
        refine WO_end ?_
        cases hx2
        refine WK.sub ?_ (WK.cls (fun _ h => h) hk3)
        exact ⟨rfl, rfl, rfl, trivial⟩
      · have hx2 := ifF hb8 hx2
        refine WO_pure tbok 1 [(1, .pointer (some ⟨b1, 0, none⟩)), (2, .int .i64 0), (11, .bool false), (12, .pointer (some ⟨b1, 1, none⟩))] rfl ⟨rfl, rfl, rfl, rfl, trivial⟩ ?_
        refine WO_loadB tbok 0 rfl rfl rfl rfl (fun _ h => h) rfl rfl ?_
        refine WO_pure tbok 3 [(1, .pointer (some ⟨b1, 0, none⟩)), (2, .int .i64 0), (16, .bool (decide (p0_1 < 1)))] rfl ⟨rfl, rfl, rfl, trivial⟩ ?_
        refine WO_split (d := 16) (b := decide (p0_1 < 1)) rfl (fun hb9 => ?_) (fun hb9 => ?_)
        · have hx2 := ifT hb9 hx2
          refine WO_pure tbok 28 [(1, .pointer (some ⟨b1, 0, none⟩)), (2, .int .i64 0), (44, .bool true)] rfl ⟨rfl, rfl, rfl, trivial⟩ ?_
          refine WO_end ?_
          cases hx2
          refine WK.sub ?_ (WK.cls (fun _ h => h) hk3)
          exact ⟨rfl, rfl, rfl, trivial⟩
        · have hx2 := ifF hb9 hx2
          refine WO_pure tbok 1 [(1, .pointer (some ⟨b1, 0, none⟩)), (2, .int .i64 0), (16, .bool false), (17, .pointer (some ⟨b1, 1, none⟩))] rfl ⟨rfl, rfl, rfl, rfl, trivial⟩ ?_
          refine WO_loadB tbok 0 rfl rfl rfl rfl (fun _ h => h) rfl rfl ?_
          refine WO_pure tbok 3 [(1, .pointer (some ⟨b1, 0, none⟩)), (2, .int .i64 0), (21, .bool (decide (64 < p0_1)))] rfl ⟨rfl, rfl, rfl, trivial⟩ ?_
          refine WO_split (d := 21) (b := decide (64 < p0_1)) rfl (fun hb10 => ?_) (fun hb10 => ?_)
          · have hx2 := ifT hb10 hx2
            refine WO_pure tbok 23 [(1, .pointer (some ⟨b1, 0, none⟩)), (2, .int .i64 0), (44, .bool true)] rfl ⟨rfl, rfl, rfl, trivial⟩ ?_
            refine WO_end ?_
            cases hx2
            refine WK.sub ?_ (WK.cls (fun _ h => h) hk3)
            exact ⟨rfl, rfl, rfl, trivial⟩
          · have hx2 := ifF hb10 hx2
            refine WO_pure tbok 1 [(1, .pointer (some ⟨b1, 0, none⟩)), (2, .int .i64 0), (21, .bool false), (22, .pointer (some ⟨b1, 2, none⟩))] rfl ⟨rfl, rfl, rfl, rfl, trivial⟩ ?_
            refine WO_loadB tbok 0 rfl rfl rfl rfl (fun _ h => h) rfl rfl ?_
            refine WO_pure tbok 3 [(1, .pointer (some ⟨b1, 0, none⟩)), (2, .int .i64 0), (26, .bool (decide (p0_2 < 1)))] rfl ⟨rfl, rfl, rfl, trivial⟩ ?_
            refine WO_split (d := 26) (b := decide (p0_2 < 1)) rfl (fun hb11 => ?_) (fun hb11 => ?_)
            · have hx2 := ifT hb11 hx2
              refine WO_pure tbok 18 [(1, .pointer (some ⟨b1, 0, none⟩)), (2, .int .i64 0), (44, .bool true)] rfl ⟨rfl, rfl, rfl, trivial⟩ ?_
              refine WO_end ?_
              cases hx2
              refine WK.sub ?_ (WK.cls (fun _ h => h) hk3)
              exact ⟨rfl, rfl, rfl, trivial⟩
            · have hx2 := ifF hb11 hx2
              refine WO_pure tbok 1 [(1, .pointer (some ⟨b1, 0, none⟩)), (2, .int .i64 0), (26, .bool false), (27, .pointer (some ⟨b1, 2, none⟩))] rfl ⟨rfl, rfl, rfl, rfl, trivial⟩ ?_
              refine WO_loadB tbok 0 rfl rfl rfl rfl (fun _ h => h) rfl rfl ?_
              refine WO_pure tbok 3 [(1, .pointer (some ⟨b1, 0, none⟩)), (2, .int .i64 0), (31, .bool (decide (64 < p0_2)))] rfl ⟨rfl, rfl, rfl, trivial⟩ ?_
              refine WO_split (d := 31) (b := decide (64 < p0_2)) rfl (fun hb12 => ?_) (fun hb12 => ?_)
              · have hx2 := ifT hb12 hx2
                refine WO_pure tbok 13 [(1, .pointer (some ⟨b1, 0, none⟩)), (2, .int .i64 0), (44, .bool true)] rfl ⟨rfl, rfl, rfl, trivial⟩ ?_
                refine WO_end ?_
                cases hx2
                refine WK.sub ?_ (WK.cls (fun _ h => h) hk3)
                exact ⟨rfl, rfl, rfl, trivial⟩
              · have hx2 := ifF hb12 hx2
                refine WO_pure tbok 1 [(1, .pointer (some ⟨b1, 0, none⟩)), (2, .int .i64 0), (31, .bool false), (32, .pointer (some ⟨b1, 3, none⟩))] rfl ⟨rfl, rfl, rfl, rfl, trivial⟩ ?_
                refine WO_loadB tbok 0 rfl rfl rfl rfl (fun _ h => h) rfl rfl ?_
                refine WO_pure tbok 2 [(1, .pointer (some ⟨b1, 0, none⟩)), (2, .int .i64 0), (31, .bool false), (34, .int .i64 (p0_3.length : Int)), (35, .pointer (some ⟨b1, 0, none⟩))] rfl ⟨rfl, rfl, rfl, rfl, rfl, trivial⟩ ?_
                refine WO_loadB tbok 0 rfl rfl rfl rfl (fun _ h => h) rfl rfl ?_
                refine WO_pure tbok 1 [(1, .pointer (some ⟨b1, 0, none⟩)), (2, .int .i64 0), (31, .bool false), (34, .int .i64 (p0_3.length : Int)), (36, .int .i64 p0_0), (37, .pointer (some ⟨b1, 1, none⟩))] rfl ⟨rfl, rfl, rfl, rfl, rfl, rfl, trivial⟩ ?_
                refine WO_loadB tbok 0 rfl rfl rfl rfl (fun _ h => h) rfl rfl ?_
                refine WO_pure tbok 2 [(1, .pointer (some ⟨b1, 0, none⟩)), (2, .int .i64 0), (31, .bool false), (34, .int .i64 (p0_3.length : Int)), (39, .int .i64 (w64 (p0_0 * p0_1))), (40, .pointer (some ⟨b1, 2, none⟩))] rfl ⟨rfl, rfl, rfl, rfl, rfl, rfl, trivial⟩ ?_
                refine WO_loadB tbok 0 rfl rfl rfl rfl (fun _ h => h) rfl rfl ?_
                refine WO_pure tbok 3 [(1, .pointer (some ⟨b1, 0, none⟩)), (2, .int .i64 0), (44, .bool ((p0_3.length : Int) != (w64 ((w64 (p0_0 * p0_1)) * p0_2))))] rfl ⟨rfl, rfl, rfl, trivial⟩ ?_
                refine WO_end ?_
                cases hx2
                refine WK.sub ?_ (WK.cls (fun _ h => h) hk3)
                exact ⟨rfl, rfl, rfl, trivial⟩
end Go.Proofs.Ytgakaghdiodakaa
