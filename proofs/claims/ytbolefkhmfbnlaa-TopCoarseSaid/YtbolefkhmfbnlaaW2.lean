import Derived.Test.YtbolefkhmfbnlaaTab
import Derived.Test.YtbolefkhmfbnlaaM
import Derived.Test.YtbolefkhmfbnlaaIt
import Derived.Test.YtbolefkhmfbnlaaW1
set_option linter.unusedVariables false
set_option maxRecDepth 100000
set_option maxHeartbeats 4000000
namespace Go.Proofs.Ytbolefkhmfbnlaa
open Go.E Go.RowKit
attribute [local irreducible] Go.E.WO Go.E.WK
theorem fiducialref13_Check_walk {m : Mu} {p0_0 : Int} {p0_1 : Int} {p0_2 : Int} {p0_3 : List Int} {a_p0_3 : Option Addr} {q_p0_3 c_p0_3 : Nat} (h_p0_3 : SlR (FE (I1 .i64)) 1 m (.slice a_p0_3 q_p0_3 c_p0_3) p0_3) {r : Int} (hm : fiducialref13_Check p0_0 p0_1 p0_2 p0_3 = some r) :
    Go.E.Spec Try.prog 7 [.agg #[.int .i64 p0_0, .int .i64 p0_1, .int .i64 p0_2, .slice a_p0_3 q_p0_3 c_p0_3]] m (fun v _ _ => v = .int .i64 r) := by
  refine Spec_enter Try.func7 rfl rfl rfl (fun w0 => ?_)
  refine WK.sub (e' := [(0, .agg #[.int .i64 p0_0, .int .i64 p0_1, .int .i64 p0_2, .slice a_p0_3 q_p0_3 c_p0_3])]) ⟨rfl, trivial⟩ ?_
  obtain rfl := SlR.qlen h_p0_3
  refine WK.sub (e' := [(0, .agg #[.int .i64 p0_0, .int .i64 p0_1, .int .i64 p0_2, .slice a_p0_3 p0_3.length c_p0_3])]) ⟨rfl, trivial⟩ ?_
  unfold fiducialref13_Check at hm
  refine WK_seq ?_
  refine WK_region ?_
  refine WO_box [.int .i64 p0_0, .int .i64 p0_1, .int .i64 p0_2, .slice a_p0_3 p0_3.length c_p0_3] rfl rfl trivial rfl rfl rfl (fun b2 => ?_)
  refine WO.cls (C' := St w0 m m [[⟨b2, 24, [.int .i64 p0_0, .int .i64 p0_1, .int .i64 p0_2, .slice a_p0_3 p0_3.length c_p0_3]⟩]]) (fun _ h => h) ?_
  refine WO_pure tbok 1 [(1, .pointer (some ⟨b2, 0, none⟩)), (2, .int .i64 0)] rfl ⟨rfl, rfl, trivial⟩ ?_
  refine WO_end ?_
  refine WK_seq ?_
  refine WK_seq ?_
  obtain ⟨s_1, hx3, hm⟩ := bind_some hm
  refine WK_meet [(1, .pointer (some ⟨b2, 0, none⟩)), (2, .int .i64 0), (42, .bool s_1)] (St w0 m m [[⟨b2, 24, [.int .i64 p0_0, .int .i64 p0_1, .int .i64 p0_2, .slice a_p0_3 p0_3.length c_p0_3]⟩]]) ?_ (fun hk4 => ?_)
  · refine WK_cond (b := s_1) rfl (fun hb5 => ?_) (fun hb5 => ?_)
    · have hm := ifT hb5 hm
      refine WK_seq ?_
      refine WK_region ?_
      refine WO_pure tbok 1 [(1, .pointer (some ⟨b2, 0, none⟩)), (2, .int .i64 1)] rfl ⟨rfl, rfl, trivial⟩ ?_
      refine WO_end ?_
      cases hm
      exact WK_ret (ret_out (L := []) (RLc_tmp rfl RLc_nil) (List.nil_sublist _) rfl)
    · have hm := ifF hb5 hm
      refine WK_skip ?_
      refine WK_seq ?_
      refine WK_seq ?_
      refine WK_region ?_
      refine WO_pure tbok 1 [(1, .pointer (some ⟨b2, 0, none⟩)), (2, .int .i64 0), (3, .int .i64 0)] rfl ⟨rfl, rfl, rfl, trivial⟩ ?_
      refine WO_end ?_
      obtain ⟨x6, hx7, hm⟩ := bind_some hm
      refine WK_join (β := Unit × Unit) (fun p => Sum.inr p.1 = x6) (fun p => [(2, .int .i64 0)]) (fun p => St w0 m m [[⟨b2, 24, [.int .i64 p0_0, .int .i64 p0_1, .int .i64 p0_2, .slice a_p0_3 p0_3.length c_p0_3]⟩]]) ?_ (fun hk8 => ?_)
      · rintro ⟨⟨⟩, ⟨⟩⟩ hq14
        subst hq14
        refine WK.sub (e' := [(2, .int .i64 0)]) ⟨rfl, trivial⟩ (WK.cls (C' := St w0 m m [[⟨b2, 24, [.int .i64 p0_0, .int .i64 p0_1, .int .i64 p0_2, .slice a_p0_3 p0_3.length c_p0_3]⟩]]) (fun _ h => h) ?_)
        refine WK_seq ?_
        refine WK_region ?_
        refine WO_pure tbok 1 [(2, .int .i64 0)] rfl ⟨rfl, trivial⟩ ?_
        refine WO_end ?_
        cases hm
        exact WK_ret (ret_out (L := []) (RLc_tmp rfl RLc_nil) (List.nil_sublist _) rfl)
      · refine WK_block ?_
        refine WK_loop (S := Int) (G := Unit) (fun s => fiducialref13_Check_s1 p0_2 p0_3 s) (fun s g => [(1, .pointer (some ⟨b2, 0, none⟩)), (2, .int .i64 0), (3, .int .i64 s)]) (fun s g => St w0 m m [[⟨b2, 24, [.int .i64 p0_0, .int .i64 p0_1, .int .i64 p0_2, .slice a_p0_3 p0_3.length c_p0_3]⟩]]) (fun s g => True) FUEL 0 () x6 hx7 trivial ⟨rfl, rfl, rfl, trivial⟩ (fun _ h => h) ?_
        rintro s_2 ⟨⟩ o10 fl11 hm9 - hn12 hd13
        have hm9 : fiducialref13_Check_s1 p0_2 p0_3 s_2 = some o10 := hm9
        unfold fiducialref13_Check_s1 at hm9
        refine WK.sub (e' := [(1, .pointer (some ⟨b2, 0, none⟩)), (2, .int .i64 0), (3, .int .i64 s_2)]) ⟨rfl, rfl, rfl, trivial⟩ (WK.cls (C' := St w0 m m [[⟨b2, 24, [.int .i64 p0_0, .int .i64 p0_1, .int .i64 p0_2, .slice a_p0_3 p0_3.length c_p0_3]⟩]]) (fun _ h => h) ?_)
        refine WK_seq ?_
        refine WK_seq ?_
        refine WK_region ?_
        refine WO_pure tbok 2 [(1, .pointer (some ⟨b2, 0, none⟩)), (2, .int .i64 0), (3, .int .i64 s_2), (43, .int .i64 s_2), (44, .pointer (some ⟨b2, 3, none⟩))] rfl ⟨rfl, rfl, rfl, rfl, rfl, trivial⟩ ?_
        refine WO_loadB tbok 0 rfl rfl rfl rfl (fun _ h => h) rfl rfl ?_
        refine WO_pure tbok 2 [(1, .pointer (some ⟨b2, 0, none⟩)), (2, .int .i64 0), (3, .int .i64 s_2), (47, .bool (decide (s_2 < (p0_3.length : Int))))] rfl ⟨rfl, rfl, rfl, rfl, trivial⟩ ?_
        refine WO_end ?_
        refine WK_cond (b := decide (s_2 < (p0_3.length : Int))) rfl (fun hb15 => ?_) (fun hb15 => ?_)
        · have hm9 := ifT hb15 hm9
          refine WK_skip ?_
          refine WK_seq ?_
          refine WK_block ?_
          refine WK_seq ?_
          obtain ⟨s_3, hx16, hm9⟩ := bind_some hm9
          refine WK_meet [(1, .pointer (some ⟨b2, 0, none⟩)), (2, .int .i64 0), (3, .int .i64 s_2), (65, .bool s_3)] (St w0 m m [[⟨b2, 24, [.int .i64 p0_0, .int .i64 p0_1, .int .i64 p0_2, .slice a_p0_3 p0_3.length c_p0_3]⟩]]) ?_ (fun hk17 => ?_)
          · refine WK_cond (b := s_3) rfl (fun hb18 => ?_) (fun hb18 => ?_)
            · have hm9 := ifT hb18 hm9
              refine WK_seq ?_
              refine WK_region ?_
              refine WO_pure tbok 1 [(1, .pointer (some ⟨b2, 0, none⟩)), (2, .int .i64 1), (3, .int .i64 s_2)] rfl ⟨rfl, rfl, rfl, trivial⟩ ?_
              refine WO_end ?_
              cases hm9
              have hq := hd13 _ rfl
              subst hq
              have hm : some _ = some _ := hm
              cases hm
              exact WK_ret (ret_out (L := []) (RLc_tmp rfl RLc_nil) (List.nil_sublist _) rfl)
            · have hm9 := ifF hb18 hm9
              refine WK_skip ?_
              refine WK_blk ?_
              refine WK_region ?_
              refine WO_pure tbok 3 [(1, .pointer (some ⟨b2, 0, none⟩)), (2, .int .i64 0), (3, .int .i64 (w64 (s_2 + 1)))] rfl ⟨rfl, rfl, rfl, trivial⟩ ?_
              refine WO_end ?_
              cases hm9
              refine WK.sub ?_ (WK.cls (fun _ h => h) (hn12 _ () rfl trivial))
              exact ⟨rfl, rfl, rfl, trivial⟩
          · refine WK_draw 16 [0, 1, 2, 3, 4, 5, 6, 7, 8, 9, 10, 11, 12, 13, 14, 15] follows_ok (by kernel_rfl) St_closed ?_
            refine WO_pure tbok 1 [(1, .pointer (some ⟨b2, 0, none⟩)), (2, .int .i64 0), (3, .int .i64 s_2), (50, .pointer (some ⟨b2, 3, none⟩))] rfl ⟨rfl, rfl, rfl, rfl, trivial⟩ ?_
            refine WO_loadB tbok 0 rfl rfl rfl rfl (fun _ h => h) rfl rfl ?_
            refine WO_pure tbok 1 [(1, .pointer (some ⟨b2, 0, none⟩)), (2, .int .i64 0), (3, .int .i64 s_2), (51, .slice a_p0_3 p0_3.length c_p0_3), (52, .int .i64 s_2)] rfl ⟨rfl, rfl, rfl, rfl, rfl, trivial⟩ ?_
            obtain ⟨v_4, hy19, hx16⟩ := bind_some hx16
            obtain ⟨hc20, hy19⟩ := ix_some hy19
            refine WO_index tbok rfl rfl rfl rfl rfl rfl rfl rfl (SlR.addr h_p0_3) hc20 ?_
            refine WO_loadE tbok rfl rfl rfl rfl (fun _ h => St.sat h) h_p0_3 hy19 rfl ?_
            refine WO_pure tbok 2 [(1, .pointer (some ⟨b2, 0, none⟩)), (2, .int .i64 0), (3, .int .i64 s_2), (56, .bool (decide (v_4 < 0)))] rfl ⟨rfl, rfl, rfl, rfl, trivial⟩ ?_
            refine WO_split (d := 56) (b := decide (v_4 < 0)) rfl (fun hb21 => ?_) (fun hb21 => ?_)
            · have hx16 := ifT hb21 hx16
              refine WO_pure tbok 9 [(1, .pointer (some ⟨b2, 0, none⟩)), (2, .int .i64 0), (3, .int .i64 s_2), (65, .bool true)] rfl ⟨rfl, rfl, rfl, rfl, trivial⟩ ?_
              refine WO_tail ?_
              refine WO_end ?_
              cases hx16
              refine WK.sub ?_ (WK.cls (fun _ h => h) hk17)
              exact ⟨rfl, rfl, rfl, rfl, trivial⟩
            · have hx16 := ifF hb21 hx16
              refine WO_pure tbok 1 [(1, .pointer (some ⟨b2, 0, none⟩)), (2, .int .i64 0), (3, .int .i64 s_2), (56, .bool false), (57, .pointer (some ⟨b2, 3, none⟩))] rfl ⟨rfl, rfl, rfl, rfl, rfl, trivial⟩ ?_
              refine WO_loadB tbok 0 rfl rfl rfl rfl (fun _ h => h) rfl rfl ?_
              refine WO_pure tbok 1 [(1, .pointer (some ⟨b2, 0, none⟩)), (2, .int .i64 0), (3, .int .i64 s_2), (56, .bool false), (58, .slice a_p0_3 p0_3.length c_p0_3), (59, .int .i64 s_2)] rfl ⟨rfl, rfl, rfl, rfl, rfl, rfl, trivial⟩ ?_
              obtain ⟨v_5, hy22, hx16⟩ := bind_some hx16
              obtain ⟨hc23, hy22⟩ := ix_some hy22
              refine WO_index tbok rfl rfl rfl rfl rfl rfl rfl rfl (SlR.addr h_p0_3) hc23 ?_
              refine WO_loadE tbok rfl rfl rfl rfl (fun _ h => St.sat h) h_p0_3 hy22 rfl ?_
              refine WO_pure tbok 1 [(1, .pointer (some ⟨b2, 0, none⟩)), (2, .int .i64 0), (3, .int .i64 s_2), (56, .bool false), (61, .int .i64 v_5), (62, .pointer (some ⟨b2, 2, none⟩))] rfl ⟨rfl, rfl, rfl, rfl, rfl, rfl, trivial⟩ ?_
              refine WO_loadB tbok 0 rfl rfl rfl rfl (fun _ h => h) rfl rfl ?_
              refine WO_pure tbok 2 [(1, .pointer (some ⟨b2, 0, none⟩)), (2, .int .i64 0), (3, .int .i64 s_2), (65, .bool (decide (p0_2 < v_5)))] rfl ⟨rfl, rfl, rfl, rfl, trivial⟩ ?_
              refine WO_tail ?_
              refine WO_end ?_
              cases hx16
              refine WK.sub ?_ (WK.cls (fun _ h => h) hk17)
              exact ⟨rfl, rfl, rfl, rfl, trivial⟩
        · have hm9 := ifF hb15 hm9
          refine WK_exit rfl ?_
          cases hm9
          refine WK.sub ?_ (WK.cls (fun _ h => h) (hk8 ((), ()) (hd13 _ rfl)))
          exact ⟨rfl, trivial⟩
  · refine WK_region ?_
    refine WO_pure tbok 1 [(1, .pointer (some ⟨b2, 0, none⟩)), (2, .int .i64 0), (4, .pointer (some ⟨b2, 0, none⟩))] rfl ⟨rfl, rfl, rfl, trivial⟩ ?_
    refine WO_loadB tbok 0 rfl rfl rfl rfl (fun _ h => h) rfl rfl ?_
    refine WO_pure tbok 2 [(1, .pointer (some ⟨b2, 0, none⟩)), (2, .int .i64 0), (7, .bool (decide (p0_0 < 1)))] rfl ⟨rfl, rfl, rfl, trivial⟩ ?_
    refine WO_split (d := 7) (b := decide (p0_0 < 1)) rfl (fun hb24 => ?_) (fun hb24 => ?_)
    · have hx3 := ifT hb24 hx3
      refine WO_pure tbok 35 [(1, .pointer (some ⟨b2, 0, none⟩)), (2, .int .i64 0), (42, .bool true)] rfl ⟨rfl, rfl, rfl, trivial⟩ ?_
      refine WO_end ?_
      cases hx3
      refine WK.sub ?_ (WK.cls (fun _ h => h) hk4)
      exact ⟨rfl, rfl, rfl, trivial⟩
    · have hx3 := ifF hb24 hx3
      refine WO_pure tbok 1 [(1, .pointer (some ⟨b2, 0, none⟩)), (2, .int .i64 0), (7, .bool false), (8, .pointer (some ⟨b2, 0, none⟩))] rfl ⟨rfl, rfl, rfl, rfl, trivial⟩ ?_
      refine WO_loadB tbok 0 rfl rfl rfl rfl (fun _ h => h) rfl rfl ?_
      refine WO_pure tbok 3 [(1, .pointer (some ⟨b2, 0, none⟩)), (2, .int .i64 0), (12, .bool (decide (64 < p0_0)))] rfl ⟨rfl, rfl, rfl, trivial⟩ ?_
      refine WO_split (d := 12) (b := decide (64 < p0_0)) rfl (fun hb25 => ?_) (fun hb25 => ?_)
      · have hx3 := ifT hb25 hx3
        refine WO_pure tbok 30 [(1, .pointer (some ⟨b2, 0, none⟩)), (2, .int .i64 0), (42, .bool true)] rfl ⟨rfl, rfl, rfl, trivial⟩ ?_
        refine WO_end ?_
        cases hx3
        refine WK.sub ?_ (WK.cls (fun _ h => h) hk4)
        exact ⟨rfl, rfl, rfl, trivial⟩
      · have hx3 := ifF hb25 hx3
        refine WO_pure tbok 1 [(1, .pointer (some ⟨b2, 0, none⟩)), (2, .int .i64 0), (12, .bool false), (13, .pointer (some ⟨b2, 1, none⟩))] rfl ⟨rfl, rfl, rfl, rfl, trivial⟩ ?_
        refine WO_loadB tbok 0 rfl rfl rfl rfl (fun _ h => h) rfl rfl ?_
        refine WO_pure tbok 3 [(1, .pointer (some ⟨b2, 0, none⟩)), (2, .int .i64 0), (17, .bool (decide (p0_1 < 1)))] rfl ⟨rfl, rfl, rfl, trivial⟩ ?_
        refine WO_split (d := 17) (b := decide (p0_1 < 1)) rfl (fun hb26 => ?_) (fun hb26 => ?_)
        · have hx3 := ifT hb26 hx3
          refine WO_pure tbok 25 [(1, .pointer (some ⟨b2, 0, none⟩)), (2, .int .i64 0), (42, .bool true)] rfl ⟨rfl, rfl, rfl, trivial⟩ ?_
          refine WO_end ?_
          cases hx3
          refine WK.sub ?_ (WK.cls (fun _ h => h) hk4)
          exact ⟨rfl, rfl, rfl, trivial⟩
        · have hx3 := ifF hb26 hx3
          refine WO_pure tbok 1 [(1, .pointer (some ⟨b2, 0, none⟩)), (2, .int .i64 0), (17, .bool false), (18, .pointer (some ⟨b2, 1, none⟩))] rfl ⟨rfl, rfl, rfl, rfl, trivial⟩ ?_
          refine WO_loadB tbok 0 rfl rfl rfl rfl (fun _ h => h) rfl rfl ?_
          refine WO_pure tbok 3 [(1, .pointer (some ⟨b2, 0, none⟩)), (2, .int .i64 0), (22, .bool (decide (64 < p0_1)))] rfl ⟨rfl, rfl, rfl, trivial⟩ ?_
          refine WO_split (d := 22) (b := decide (64 < p0_1)) rfl (fun hb27 => ?_) (fun hb27 => ?_)
          · have hx3 := ifT hb27 hx3
            refine WO_pure tbok 20 [(1, .pointer (some ⟨b2, 0, none⟩)), (2, .int .i64 0), (42, .bool true)] rfl ⟨rfl, rfl, rfl, trivial⟩ ?_
            refine WO_end ?_
            cases hx3
            refine WK.sub ?_ (WK.cls (fun _ h => h) hk4)
            exact ⟨rfl, rfl, rfl, trivial⟩
          · have hx3 := ifF hb27 hx3
            refine WO_pure tbok 1 [(1, .pointer (some ⟨b2, 0, none⟩)), (2, .int .i64 0), (22, .bool false), (23, .pointer (some ⟨b2, 2, none⟩))] rfl ⟨rfl, rfl, rfl, rfl, trivial⟩ ?_
            refine WO_loadB tbok 0 rfl rfl rfl rfl (fun _ h => h) rfl rfl ?_
            refine WO_pure tbok 3 [(1, .pointer (some ⟨b2, 0, none⟩)), (2, .int .i64 0), (27, .bool (decide (p0_2 < 1)))] rfl ⟨rfl, rfl, rfl, trivial⟩ ?_
            refine WO_split (d := 27) (b := decide (p0_2 < 1)) rfl (fun hb28 => ?_) (fun hb28 => ?_)
            · have hx3 := ifT hb28 hx3
              refine WO_pure tbok 15 [(1, .pointer (some ⟨b2, 0, none⟩)), (2, .int .i64 0), (42, .bool true)] rfl ⟨rfl, rfl, rfl, trivial⟩ ?_
              refine WO_end ?_
              cases hx3
              refine WK.sub ?_ (WK.cls (fun _ h => h) hk4)
              exact ⟨rfl, rfl, rfl, trivial⟩
            · have hx3 := ifF hb28 hx3
              refine WO_pure tbok 1 [(1, .pointer (some ⟨b2, 0, none⟩)), (2, .int .i64 0), (27, .bool false), (28, .pointer (some ⟨b2, 2, none⟩))] rfl ⟨rfl, rfl, rfl, rfl, trivial⟩ ?_
              refine WO_loadB tbok 0 rfl rfl rfl rfl (fun _ h => h) rfl rfl ?_
              refine WO_pure tbok 3 [(1, .pointer (some ⟨b2, 0, none⟩)), (2, .int .i64 0), (32, .bool (decide (65535 < p0_2)))] rfl ⟨rfl, rfl, rfl, trivial⟩ ?_
              refine WO_split (d := 32) (b := decide (65535 < p0_2)) rfl (fun hb29 => ?_) (fun hb29 => ?_)
              · have hx3 := ifT hb29 hx3
                refine WO_pure tbok 10 [(1, .pointer (some ⟨b2, 0, none⟩)), (2, .int .i64 0), (42, .bool true)] rfl ⟨rfl, rfl, rfl, trivial⟩ ?_
                refine WO_end ?_
                cases hx3
                refine WK.sub ?_ (WK.cls (fun _ h => h) hk4)
                exact ⟨rfl, rfl, rfl, trivial⟩
              · have hx3 := ifF hb29 hx3
                refine WO_pure tbok 1 [(1, .pointer (some ⟨b2, 0, none⟩)), (2, .int .i64 0), (32, .bool false), (33, .pointer (some ⟨b2, 3, none⟩))] rfl ⟨rfl, rfl, rfl, rfl, trivial⟩ ?_
                refine WO_loadB tbok 0 rfl rfl rfl rfl (fun _ h => h) rfl rfl ?_
                refine WO_pure tbok 2 [(1, .pointer (some ⟨b2, 0, none⟩)), (2, .int .i64 0), (32, .bool false), (35, .int .i64 (p0_3.length : Int)), (36, .pointer (some ⟨b2, 0, none⟩))] rfl ⟨rfl, rfl, rfl, rfl, rfl, trivial⟩ ?_
                refine WO_loadB tbok 0 rfl rfl rfl rfl (fun _ h => h) rfl rfl ?_
                refine WO_pure tbok 1 [(1, .pointer (some ⟨b2, 0, none⟩)), (2, .int .i64 0), (32, .bool false), (35, .int .i64 (p0_3.length : Int)), (37, .int .i64 p0_0), (38, .pointer (some ⟨b2, 1, none⟩))] rfl ⟨rfl, rfl, rfl, rfl, rfl, rfl, trivial⟩ ?_
                refine WO_loadB tbok 0 rfl rfl rfl rfl (fun _ h => h) rfl rfl ?_
                refine WO_pure tbok 3 [(1, .pointer (some ⟨b2, 0, none⟩)), (2, .int .i64 0), (42, .bool ((p0_3.length : Int) != (w64 (p0_0 * p0_1))))] rfl ⟨rfl, rfl, rfl, trivial⟩ ?_
                refine WO_end ?_
                cases hx3
                refine WK.sub ?_ (WK.cls (fun _ h => h) hk4)
                exact ⟨rfl, rfl, rfl, trivial⟩
theorem census_Check_c1_walk {m : Mu} {p0 : Int}   {r : Bool} (hm : census_Check_c1 p0 = some r) :
    Go.E.Spec Try.prog 64 [.int .i64 p0] m (fun v _ _ => v = .bool r) := by
  refine Spec_enter Try.func64 rfl rfl rfl (fun w0 => ?_)
  refine WK.sub (e' := [(0, .int .i64 p0)]) ⟨rfl, trivial⟩ ?_
  refine WK.sub (e' := [(0, .int .i64 p0)]) ⟨rfl, trivial⟩ ?_
  unfold census_Check_c1 at hm
  refine WK_seq ?_
  refine WK_region ?_
  refine WO_pure tbok 1 [(0, .int .i64 p0), (2, .bool false)] rfl ⟨rfl, rfl, trivial⟩ ?_
  refine WO_end ?_
  refine WK_seq ?_
  refine WK_region ?_
  refine WO_pure tbok 3 [(0, .int .i64 p0), (2, .bool false), (5, .bool (decide (p0 < 0)))] rfl ⟨rfl, rfl, rfl, trivial⟩ ?_
  refine WO_split (d := 5) (b := decide (p0 < 0)) rfl (fun hb1 => ?_) (fun hb1 => ?_)
  · have hm := ifT hb1 hm
    refine WO_pure tbok 4 [(2, .bool true)] rfl ⟨rfl, trivial⟩ ?_
    refine WO_end ?_
    cases hm
    exact WK_ret (ret_out (L := []) (RLc_tmp rfl RLc_nil) (List.nil_sublist _) rfl)
  · have hm := ifF hb1 hm
    refine WO_pure tbok 4 [(2, .bool (decide (1048576 < p0)))] rfl ⟨rfl, trivial⟩ ?_
    refine WO_end ?_
    cases hm
    exact WK_ret (ret_out (L := []) (RLc_tmp rfl RLc_nil) (List.nil_sublist _) rfl)
theorem census_Check_walk {m : Mu} {p0_0 : Int} {p0_1 : Int} {p0_2 : Int} {p0_3 : List Int} {a_p0_3 : Option Addr} {q_p0_3 c_p0_3 : Nat} (h_p0_3 : SlR (FE (I1 .i64)) 1 m (.slice a_p0_3 q_p0_3 c_p0_3) p0_3) {r : Int} (hm : census_Check p0_0 p0_1 p0_2 p0_3 = some r) :
    Go.E.Spec Try.prog 30 [.agg #[.int .i64 p0_0, .int .i64 p0_1, .int .i64 p0_2, .slice a_p0_3 q_p0_3 c_p0_3]] m (fun v _ _ => v = .int .i64 r) := by
  refine Spec_enter Try.func30 rfl rfl rfl (fun w0 => ?_)
  refine WK.sub (e' := [(0, .agg #[.int .i64 p0_0, .int .i64 p0_1, .int .i64 p0_2, .slice a_p0_3 q_p0_3 c_p0_3])]) ⟨rfl, trivial⟩ ?_
  obtain rfl := SlR.qlen h_p0_3
  refine WK.sub (e' := [(0, .agg #[.int .i64 p0_0, .int .i64 p0_1, .int .i64 p0_2, .slice a_p0_3 p0_3.length c_p0_3])]) ⟨rfl, trivial⟩ ?_
  unfold census_Check at hm
  refine WK_seq ?_
  refine WK_region ?_
  refine WO_box [.int .i64 p0_0, .int .i64 p0_1, .int .i64 p0_2, .slice a_p0_3 p0_3.length c_p0_3] rfl rfl trivial rfl rfl rfl (fun b2 => ?_)
  refine WO.cls (C' := St w0 m m [[⟨b2, 32, [.int .i64 p0_0, .int .i64 p0_1, .int .i64 p0_2, .slice a_p0_3 p0_3.length c_p0_3]⟩]]) (fun _ h => h) ?_
  refine WO_pure tbok 1 [(1, .pointer (some ⟨b2, 0, none⟩)), (2, .int .i64 0)] rfl ⟨rfl, rfl, trivial⟩ ?_
  refine WO_end ?_
  refine WK_seq ?_
  refine WK_seq ?_
  obtain ⟨s_1, hx3, hm⟩ := bind_some hm
  refine WK_meet [(1, .pointer (some ⟨b2, 0, none⟩)), (2, .int .i64 0), (44, .bool s_1)] (St w0 m m [[⟨b2, 32, [.int .i64 p0_0, .int .i64 p0_1, .int .i64 p0_2, .slice a_p0_3 p0_3.length c_p0_3]⟩]]) ?_ (fun hk4 => ?_)
  · refine WK_cond (b := s_1) rfl (fun hb5 => ?_) (fun hb5 => ?_)
    · have hm := ifT hb5 hm
      refine WK_seq ?_
      refine WK_region ?_
      refine WO_pure tbok 1 [(1, .pointer (some ⟨b2, 0, none⟩)), (2, .int .i64 1)] rfl ⟨rfl, rfl, trivial⟩ ?_
      refine WO_end ?_
      cases hm
      exact WK_ret (ret_out (L := []) (RLc_tmp rfl RLc_nil) (List.nil_sublist _) rfl)
    · have hm := ifF hb5 hm
      refine WK_skip ?_
      refine WK_seq ?_
      refine WK_seq ?_
      refine WK_region ?_
      refine WO_pure tbok 1 [(2, .int .i64 0), (45, .pointer (some ⟨b2, 3, none⟩))] rfl ⟨rfl, rfl, trivial⟩ ?_
      refine WO_loadB tbok 0 rfl rfl rfl rfl (fun _ h => h) rfl rfl ?_
      obtain ⟨y_3, hc6, hm⟩ := bind_some hm
      refine WO_call0 (.bool y_3) rfl rfl trivial rfl rfl rfl rfl St_closed ⟨40, #[], #[], rfl, callable_40, fun w hw => ⟨_, hw.sat, slices_ContainsFunc_sint_walk h_p0_3 (fun m1 hm1 z_2 _ h => specV_cap callable_64 (census_Check_c1_walk h)) hc6⟩⟩ ?_
      refine WO_end ?_
      refine WK_cond (b := y_3) rfl (fun hb7 => ?_) (fun hb7 => ?_)
      · have hm := ifT hb7 hm
        refine WK_seq ?_
        refine WK_region ?_
        refine WO_pure tbok 1 [(2, .int .i64 1)] rfl ⟨rfl, trivial⟩ ?_
        refine WO_end ?_
        cases hm
        exact WK_ret (ret_out (L := []) (RLc_tmp rfl RLc_nil) (List.nil_sublist _) rfl)
      · have hm := ifF hb7 hm
        refine WK_skip ?_
        refine WK_seq ?_
        refine WK_region ?_
        refine WO_pure tbok 1 [(2, .int .i64 0)] rfl ⟨rfl, trivial⟩ ?_
        refine WO_end ?_
        cases hm
        exact WK_ret (ret_out (L := []) (RLc_tmp rfl RLc_nil) (List.nil_sublist _) rfl)
  · refine WK_region ?_
    refine WO_pure tbok 1 [(1, .pointer (some ⟨b2, 0, none⟩)), (2, .int .i64 0), (3, .pointer (some ⟨b2, 0, none⟩))] rfl ⟨rfl, rfl, rfl, trivial⟩ ?_
    refine WO_loadB tbok 0 rfl rfl rfl rfl (fun _ h => h) rfl rfl ?_
    refine WO_pure tbok 2 [(1, .pointer (some ⟨b2, 0, none⟩)), (2, .int .i64 0), (6, .bool (decide (p0_0 < 1)))] rfl ⟨rfl, rfl, rfl, trivial⟩ ?_
    refine WO_split (d := 6) (b := decide (p0_0 < 1)) rfl (fun hb8 => ?_) (fun hb8 => ?_)
    · have hx3 := ifT hb8 hx3
      refine WO_pure tbok 38 [(1, .pointer (some ⟨b2, 0, none⟩)), (2, .int .i64 0), (44, .bool true)] rfl ⟨rfl, rfl, rfl, trivial⟩ ?_
      refine WO_end ?_
      cases hx3
      refine WK.sub ?_ (WK.cls (fun _ h => h) hk4)
      exact ⟨rfl, rfl, rfl, trivial⟩
    · have hx3 := ifF hb8 hx3
      refine WO_pure tbok 1 [(1, .pointer (some ⟨b2, 0, none⟩)), (2, .int .i64 0), (6, .bool false), (7, .pointer (some ⟨b2, 0, none⟩))] rfl ⟨rfl, rfl, rfl, rfl, trivial⟩ ?_
      refine WO_loadB tbok 0 rfl rfl rfl rfl (fun _ h => h) rfl rfl ?_
      refine WO_pure tbok 3 [(1, .pointer (some ⟨b2, 0, none⟩)), (2, .int .i64 0), (11, .bool (decide (64 < p0_0)))] rfl ⟨rfl, rfl, rfl, trivial⟩ ?_
      refine WO_split (d := 11) (b := decide (64 < p0_0)) rfl (fun hb9 => ?_) (fun hb9 => ?_)
      · have hx3 := ifT hb9 hx3
        refine WO_pure tbok 33 [(1, .pointer (some ⟨b2, 0, none⟩)), (2, .int .i64 0), (44, .bool true)] rfl ⟨rfl, rfl, rfl, trivial⟩ ?_
        refine WO_end ?_
        cases hx3
        refine WK.sub ?_ (WK.cls (fun _ h => h) hk4)
        exact ⟨rfl, rfl, rfl, trivial⟩
      · have hx3 := ifF hb9 hx3
        refine WO_pure tbok 1 [(1, .pointer (some ⟨b2, 0, none⟩)), (2, .int .i64 0), (11, .bool false), (12, .pointer (some ⟨b2, 1, none⟩))] rfl ⟨rfl, rfl, rfl, rfl, trivial⟩ ?_
        refine WO_loadB tbok 0 rfl rfl rfl rfl (fun _ h => h) rfl rfl ?_
        refine WO_pure tbok 3 [(1, .pointer (some ⟨b2, 0, none⟩)), (2, .int .i64 0), (16, .bool (decide (p0_1 < 1)))] rfl ⟨rfl, rfl, rfl, trivial⟩ ?_
        refine WO_split (d := 16) (b := decide (p0_1 < 1)) rfl (fun hb10 => ?_) (fun hb10 => ?_)
        · have hx3 := ifT hb10 hx3
          refine WO_pure tbok 28 [(1, .pointer (some ⟨b2, 0, none⟩)), (2, .int .i64 0), (44, .bool true)] rfl ⟨rfl, rfl, rfl, trivial⟩ ?_
          refine WO_end ?_
          cases hx3
          refine WK.sub ?_ (WK.cls (fun _ h => h) hk4)
          exact ⟨rfl, rfl, rfl, trivial⟩
        · have hx3 := ifF hb10 hx3
          refine WO_pure tbok 1 [(1, .pointer (some ⟨b2, 0, none⟩)), (2, .int .i64 0), (16, .bool false), (17, .pointer (some ⟨b2, 1, none⟩))] rfl ⟨rfl, rfl, rfl, rfl, trivial⟩ ?_
          refine WO_loadB tbok 0 rfl rfl rfl rfl (fun _ h => h) rfl rfl ?_
          refine WO_pure tbok 3 [(1, .pointer (some ⟨b2, 0, none⟩)), (2, .int .i64 0), (21, .bool (decide (64 < p0_1)))] rfl ⟨rfl, rfl, rfl, trivial⟩ ?_
          refine WO_split (d := 21) (b := decide (64 < p0_1)) rfl (fun hb11 => ?_) (fun hb11 => ?_)
          · have hx3 := ifT hb11 hx3
            refine WO_pure tbok 23 [(1, .pointer (some ⟨b2, 0, none⟩)), (2, .int .i64 0), (44, .bool true)] rfl ⟨rfl, rfl, rfl, trivial⟩ ?_
            refine WO_end ?_
            cases hx3
            refine WK.sub ?_ (WK.cls (fun _ h => h) hk4)
            exact ⟨rfl, rfl, rfl, trivial⟩
          · have hx3 := ifF hb11 hx3
            refine WO_pure tbok 1 [(1, .pointer (some ⟨b2, 0, none⟩)), (2, .int .i64 0), (21, .bool false), (22, .pointer (some ⟨b2, 2, none⟩))] rfl ⟨rfl, rfl, rfl, rfl, trivial⟩ ?_
            refine WO_loadB tbok 0 rfl rfl rfl rfl (fun _ h => h) rfl rfl ?_
            refine WO_pure tbok 3 [(1, .pointer (some ⟨b2, 0, none⟩)), (2, .int .i64 0), (26, .bool (decide (p0_2 < 1)))] rfl ⟨rfl, rfl, rfl, trivial⟩ ?_
            refine WO_split (d := 26) (b := decide (p0_2 < 1)) rfl (fun hb12 => ?_) (fun hb12 => ?_)
            · have hx3 := ifT hb12 hx3
              refine WO_pure tbok 18 [(1, .pointer (some ⟨b2, 0, none⟩)), (2, .int .i64 0), (44, .bool true)] rfl ⟨rfl, rfl, rfl, trivial⟩ ?_
              refine WO_end ?_
              cases hx3
              refine WK.sub ?_ (WK.cls (fun _ h => h) hk4)
              exact ⟨rfl, rfl, rfl, trivial⟩
            · have hx3 := ifF hb12 hx3
              refine WO_pure tbok 1 [(1, .pointer (some ⟨b2, 0, none⟩)), (2, .int .i64 0), (26, .bool false), (27, .pointer (some ⟨b2, 2, none⟩))] rfl ⟨rfl, rfl, rfl, rfl, trivial⟩ ?_
              refine WO_loadB tbok 0 rfl rfl rfl rfl (fun _ h => h) rfl rfl ?_
              refine WO_pure tbok 3 [(1, .pointer (some ⟨b2, 0, none⟩)), (2, .int .i64 0), (31, .bool (decide (64 < p0_2)))] rfl ⟨rfl, rfl, rfl, trivial⟩ ?_
              refine WO_split (d := 31) (b := decide (64 < p0_2)) rfl (fun hb13 => ?_) (fun hb13 => ?_)
              · have hx3 := ifT hb13 hx3
                refine WO_pure tbok 13 [(1, .pointer (some ⟨b2, 0, none⟩)), (2, .int .i64 0), (44, .bool true)] rfl ⟨rfl, rfl, rfl, trivial⟩ ?_
                refine WO_end ?_
                cases hx3
                refine WK.sub ?_ (WK.cls (fun _ h => h) hk4)
                exact ⟨rfl, rfl, rfl, trivial⟩
              · have hx3 := ifF hb13 hx3
                refine WO_pure tbok 1 [(1, .pointer (some ⟨b2, 0, none⟩)), (2, .int .i64 0), (31, .bool false), (32, .pointer (some ⟨b2, 3, none⟩))] rfl ⟨rfl, rfl, rfl, rfl, trivial⟩ ?_
                refine WO_loadB tbok 0 rfl rfl rfl rfl (fun _ h => h) rfl rfl ?_
                refine WO_pure tbok 2 [(1, .pointer (some ⟨b2, 0, none⟩)), (2, .int .i64 0), (31, .bool false), (34, .int .i64 (p0_3.length : Int)), (35, .pointer (some ⟨b2, 0, none⟩))] rfl ⟨rfl, rfl, rfl, rfl, rfl, trivial⟩ ?_
                refine WO_loadB tbok 0 rfl rfl rfl rfl (fun _ h => h) rfl rfl ?_
                refine WO_pure tbok 1 [(1, .pointer (some ⟨b2, 0, none⟩)), (2, .int .i64 0), (31, .bool false), (34, .int .i64 (p0_3.length : Int)), (36, .int .i64 p0_0), (37, .pointer (some ⟨b2, 1, none⟩))] rfl ⟨rfl, rfl, rfl, rfl, rfl, rfl, trivial⟩ ?_
                refine WO_loadB tbok 0 rfl rfl rfl rfl (fun _ h => h) rfl rfl ?_
                refine WO_pure tbok 2 [(1, .pointer (some ⟨b2, 0, none⟩)), (2, .int .i64 0), (31, .bool false), (34, .int .i64 (p0_3.length : Int)), (39, .int .i64 (w64 (p0_0 * p0_1))), (40, .pointer (some ⟨b2, 2, none⟩))] rfl ⟨rfl, rfl, rfl, rfl, rfl, rfl, trivial⟩ ?_
                refine WO_loadB tbok 0 rfl rfl rfl rfl (fun _ h => h) rfl rfl ?_
                refine WO_pure tbok 3 [(1, .pointer (some ⟨b2, 0, none⟩)), (2, .int .i64 0), (44, .bool ((p0_3.length : Int) != (w64 ((w64 (p0_0 * p0_1)) * p0_2))))] rfl ⟨rfl, rfl, rfl, trivial⟩ ?_
                refine WO_end ?_
                cases hx3
                refine WK.sub ?_ (WK.cls (fun _ h => h) hk4)
                exact ⟨rfl, rfl, rfl, trivial⟩
theorem slices_Min_sint_walk {m : Mu} {p0 : List Int} {a_p0 : Option Addr} {q_p0 c_p0 : Nat} (h_p0 : SlR (FE (I1 .i64)) 1 m (.slice a_p0 q_p0 c_p0) p0) {r : Int} (hm : slices_Min_sint p0 = some r) :
    Go.E.Spec Try.prog 33 [.slice a_p0 q_p0 c_p0] m (fun v _ _ => v = .int .i64 r) := by
  refine Spec_enter Try.func33 rfl rfl rfl (fun w0 => ?_)
  refine WK.sub (e' := [(0, .slice a_p0 q_p0 c_p0)]) ⟨rfl, trivial⟩ ?_
  obtain rfl := SlR.qlen h_p0
  refine WK.sub (e' := [(0, .slice a_p0 p0.length c_p0)]) ⟨rfl, trivial⟩ ?_
  unfold slices_Min_sint at hm
  refine WK_seq ?_
  refine WK_region ?_
  refine WO_pure tbok 1 [(0, .slice a_p0 p0.length c_p0), (2, .int .i64 0)] rfl ⟨rfl, rfl, trivial⟩ ?_
  refine WO_end ?_
  refine WK_seq ?_
  refine WK_seq ?_
  refine WK_region ?_
  refine WO_pure tbok 3 [(0, .slice a_p0 p0.length c_p0), (2, .int .i64 0), (7, .bool (decide ((p0.length : Int) < 1)))] rfl ⟨rfl, rfl, rfl, trivial⟩ ?_
  refine WO_end ?_
  refine WK_cond (b := decide ((p0.length : Int) < 1)) rfl (fun hb2 => ?_) (fun hb2 => ?_)
  · have hm := ifT hb2 hm
    refine WK_region ?_
    cases hm
  · have hm := ifF hb2 hm
    refine WK_skip ?_
    refine WK_seq ?_
    refine WK_region ?_
    refine WO_pure tbok 1 [(0, .slice a_p0 p0.length c_p0), (2, .int .i64 0), (9, .slice a_p0 p0.length c_p0)] rfl ⟨rfl, rfl, rfl, trivial⟩ ?_
    obtain ⟨v_1, hy3, hm⟩ := bind_some hm
    obtain ⟨hc4, hy3⟩ := ix_some hy3
    refine WO_index tbok rfl rfl rfl rfl rfl rfl rfl rfl (SlR.addr h_p0) hc4 ?_
    refine WO_loadE tbok rfl rfl rfl rfl (fun _ h => St.sat h) h_p0 hy3 rfl ?_
    refine WO_pure tbok 1 [(0, .slice a_p0 p0.length c_p0), (2, .int .i64 0), (3, .int .i64 v_1)] rfl ⟨rfl, rfl, rfl, trivial⟩ ?_
    refine WO_end ?_
    refine WK_seq ?_
    refine WK_seq ?_
    refine WK_region ?_
    refine WO_pure tbok 1 [(0, .slice a_p0 p0.length c_p0), (2, .int .i64 0), (3, .int .i64 v_1), (4, .int .i64 1)] rfl ⟨rfl, rfl, rfl, rfl, trivial⟩ ?_
    refine WO_end ?_
    obtain ⟨x5, hx6, hm⟩ := bind_some hm
    refine WK_join (β := Int × Unit) (fun p => p.1 = x5) (fun p => [(2, .int .i64 0), (3, .int .i64 p.1)]) (fun p => St w0 m m []) ?_ (fun hk7 => ?_)
    · rintro ⟨s_4, ⟨⟩⟩ hq13
      subst hq13
      refine WK.sub (e' := [(2, .int .i64 0), (3, .int .i64 s_4)]) ⟨rfl, rfl, trivial⟩ (WK.cls (C' := St w0 m m []) (fun _ h => h) ?_)
      refine WK_seq ?_
      refine WK_region ?_
      refine WO_pure tbok 2 [(2, .int .i64 s_4)] rfl ⟨rfl, trivial⟩ ?_
      refine WO_end ?_
      cases hm
      exact WK_ret (ret_out (L := []) (RLc_tmp rfl RLc_nil) (List.nil_sublist _) rfl)
    · refine WK_block ?_
      refine WK_loop (S := Int × Int) (G := Unit) (fun s => slices_Min_sint_s1 p0 s.1 s.2) (fun s g => [(0, .slice a_p0 p0.length c_p0), (2, .int .i64 0), (3, .int .i64 s.1), (4, .int .i64 s.2)]) (fun s g => St w0 m m []) (fun s g => True) FUEL (v_1, 1) () x5 hx6 trivial ⟨rfl, rfl, rfl, rfl, trivial⟩ (fun _ h => h) ?_
      rintro ⟨s_2, s_3⟩ ⟨⟩ o9 fl10 hm8 - hn11 hd12
      have hm8 : slices_Min_sint_s1 p0 s_2 s_3 = some o9 := hm8
      unfold slices_Min_sint_s1 at hm8
      refine WK.sub (e' := [(0, .slice a_p0 p0.length c_p0), (2, .int .i64 0), (3, .int .i64 s_2), (4, .int .i64 s_3)]) ⟨rfl, rfl, rfl, rfl, trivial⟩ (WK.cls (C' := St w0 m m []) (fun _ h => h) ?_)
      refine WK_seq ?_
      refine WK_seq ?_
      refine WK_region ?_
      refine WO_pure tbok 4 [(0, .slice a_p0 p0.length c_p0), (2, .int .i64 0), (3, .int .i64 s_2), (4, .int .i64 s_3), (15, .bool (decide (s_3 < (p0.length : Int))))] rfl ⟨rfl, rfl, rfl, rfl, rfl, trivial⟩ ?_
      refine WO_end ?_
      refine WK_cond (b := decide (s_3 < (p0.length : Int))) rfl (fun hb14 => ?_) (fun hb14 => ?_)
      · have hm8 := ifT hb14 hm8
        refine WK_skip ?_
        refine WK_seq ?_
        refine WK_block ?_
        refine WK_region ?_
        refine WO_pure tbok 3 [(0, .slice a_p0 p0.length c_p0), (2, .int .i64 0), (3, .int .i64 s_2), (4, .int .i64 s_3), (18, .int .i64 s_2), (19, .slice a_p0 p0.length c_p0), (20, .int .i64 s_3)] rfl ⟨rfl, rfl, rfl, rfl, rfl, rfl, rfl, trivial⟩ ?_
        obtain ⟨v_5, hy15, hm8⟩ := bind_some hm8
        obtain ⟨hc16, hy15⟩ := ix_some hy15
        refine WO_index tbok rfl rfl rfl rfl rfl rfl rfl rfl (SlR.addr h_p0) hc16 ?_
        refine WO_loadE tbok rfl rfl rfl rfl (fun _ h => St.sat h) h_p0 hy15 rfl ?_
        refine WO_pure tbok 2 [(0, .slice a_p0 p0.length c_p0), (2, .int .i64 0), (3, .int .i64 (if v_5 < s_2 then v_5 else s_2)), (4, .int .i64 s_3)] rfl ⟨rfl, rfl, rfl, rfl, trivial⟩ ?_
        refine WO_end ?_
        refine WK_blk ?_
        refine WK_region ?_
        refine WO_pure tbok 3 [(0, .slice a_p0 p0.length c_p0), (2, .int .i64 0), (3, .int .i64 (if v_5 < s_2 then v_5 else s_2)), (4, .int .i64 (w64 (s_3 + 1)))] rfl ⟨rfl, rfl, rfl, rfl, trivial⟩ ?_
        refine WO_end ?_
        cases hm8
        refine WK.sub ?_ (WK.cls (fun _ h => h) (hn11 _ () rfl trivial))
        exact ⟨rfl, rfl, rfl, rfl, trivial⟩
      · have hm8 := ifF hb14 hm8
        refine WK_exit rfl ?_
        cases hm8
        refine WK.sub ?_ (WK.cls (fun _ h => h) (hk7 (s_2, ()) (hd12 _ rfl)))
        exact ⟨rfl, rfl, trivial⟩
theorem slices_Index_sint_walk {m : Mu} {p0 : List Int} {p1 : Int} {a_p0 : Option Addr} {q_p0 c_p0 : Nat} (h_p0 : SlR (FE (I1 .i64)) 1 m (.slice a_p0 q_p0 c_p0) p0) {r : Int} (hm : slices_Index_sint p0 p1 = some r) :
    Go.E.Spec Try.prog 32 [.slice a_p0 q_p0 c_p0, .int .i64 p1] m (fun v _ _ => v = .int .i64 r) := by
  refine Spec_enter Try.func32 rfl rfl rfl (fun w0 => ?_)
  refine WK.sub (e' := [(0, .slice a_p0 q_p0 c_p0), (1, .int .i64 p1)]) ⟨rfl, rfl, trivial⟩ ?_
  obtain rfl := SlR.qlen h_p0
  refine WK.sub (e' := [(0, .slice a_p0 p0.length c_p0), (1, .int .i64 p1)]) ⟨rfl, rfl, trivial⟩ ?_
  unfold slices_Index_sint at hm
  refine WK_seq ?_
  refine WK_region ?_
  refine WO_pure tbok 1 [(0, .slice a_p0 p0.length c_p0), (1, .int .i64 p1), (4, .int .i64 0)] rfl ⟨rfl, rfl, rfl, trivial⟩ ?_
  refine WO_end ?_
  refine WK_seq ?_
  refine WK_seq ?_
  refine WK_region ?_
  refine WO_pure tbok 3 [(0, .slice a_p0 p0.length c_p0), (1, .int .i64 p1), (4, .int .i64 0), (7, .int .i64 (p0.length : Int)), (8, .int .i64 0)] rfl ⟨rfl, rfl, rfl, rfl, rfl, trivial⟩ ?_
  refine WO_end ?_
  obtain ⟨x2, hx3, hm⟩ := bind_some hm
  refine WK_join (β := Unit × Unit) (fun p => Sum.inr p.1 = x2) (fun p => [(4, .int .i64 0)]) (fun p => St w0 m m []) ?_ (fun hk4 => ?_)
  · rintro ⟨⟨⟩, ⟨⟩⟩ hq10
    subst hq10
    refine WK.sub (e' := [(4, .int .i64 0)]) ⟨rfl, trivial⟩ (WK.cls (C' := St w0 m m []) (fun _ h => h) ?_)
    refine WK_seq ?_
    refine WK_region ?_
    refine WO_pure tbok 1 [(4, .int .i64 (-1))] rfl ⟨rfl, trivial⟩ ?_
    refine WO_end ?_
    cases hm
    exact WK_ret (ret_out (L := []) (RLc_tmp rfl RLc_nil) (List.nil_sublist _) rfl)
  · refine WK_block ?_
    refine WK_loop (S := Int) (G := Unit) (fun s => slices_Index_sint_s1 p0 p1 s) (fun s g => [(0, .slice a_p0 p0.length c_p0), (1, .int .i64 p1), (4, .int .i64 0), (7, .int .i64 (p0.length : Int)), (8, .int .i64 s)]) (fun s g => St w0 m m []) (fun s g => True) FUEL 0 () x2 hx3 trivial ⟨rfl, rfl, rfl, rfl, rfl, trivial⟩ (fun _ h => h) ?_
    rintro s_1 ⟨⟩ o6 fl7 hm5 - hn8 hd9
    have hm5 : slices_Index_sint_s1 p0 p1 s_1 = some o6 := hm5
    unfold slices_Index_sint_s1 at hm5
    refine WK.sub (e' := [(0, .slice a_p0 p0.length c_p0), (1, .int .i64 p1), (4, .int .i64 0), (7, .int .i64 (p0.length : Int)), (8, .int .i64 s_1)]) ⟨rfl, rfl, rfl, rfl, rfl, trivial⟩ (WK.cls (C' := St w0 m m []) (fun _ h => h) ?_)
    refine WK_seq ?_
    refine WK_region ?_
    refine WO_pure tbok 1 [(0, .slice a_p0 p0.length c_p0), (1, .int .i64 p1), (4, .int .i64 0), (7, .int .i64 (p0.length : Int)), (8, .int .i64 s_1), (9, .bool (decide (s_1 < (p0.length : Int))))] rfl ⟨rfl, rfl, rfl, rfl, rfl, rfl, trivial⟩ ?_
    refine WO_end ?_
    refine WK_seq ?_
    refine WK_cond (b := decide (s_1 < (p0.length : Int))) rfl (fun hb11 => ?_) (fun hb11 => ?_)
    · have hm5 := ifT hb11 hm5
      refine WK_skip ?_
      refine WK_seq ?_
      refine WK_block ?_
      refine WK_seq ?_
      refine WK_region ?_
      refine WO_pure tbok 2 [(0, .slice a_p0 p0.length c_p0), (1, .int .i64 p1), (4, .int .i64 0), (5, .int .i64 s_1), (7, .int .i64 (p0.length : Int)), (8, .int .i64 s_1)] rfl ⟨rfl, rfl, rfl, rfl, rfl, rfl, trivial⟩ ?_
      refine WO_end ?_
      refine WK_seq ?_
      refine WK_region ?_
      refine WO_pure tbok 3 [(0, .slice a_p0 p0.length c_p0), (1, .int .i64 p1), (4, .int .i64 0), (5, .int .i64 s_1), (7, .int .i64 (p0.length : Int)), (8, .int .i64 s_1), (11, .int .i64 p1), (12, .slice a_p0 p0.length c_p0), (13, .int .i64 s_1)] rfl ⟨rfl, rfl, rfl, rfl, rfl, rfl, rfl, rfl, rfl, trivial⟩ ?_
      obtain ⟨v_2, hy12, hm5⟩ := bind_some hm5
      obtain ⟨hc13, hy12⟩ := ix_some hy12
      refine WO_index tbok rfl rfl rfl rfl rfl rfl rfl rfl (SlR.addr h_p0) hc13 ?_
      refine WO_loadE tbok rfl rfl rfl rfl (fun _ h => St.sat h) h_p0 hy12 rfl ?_
      refine WO_pure tbok 1 [(0, .slice a_p0 p0.length c_p0), (1, .int .i64 p1), (4, .int .i64 0), (5, .int .i64 s_1), (7, .int .i64 (p0.length : Int)), (8, .int .i64 s_1), (16, .bool (p1 == v_2))] rfl ⟨rfl, rfl, rfl, rfl, rfl, rfl, rfl, trivial⟩ ?_
      refine WO_end ?_
      refine WK_cond (b := p1 == v_2) rfl (fun hb14 => ?_) (fun hb14 => ?_)
      · have hm5 := ifT hb14 hm5
        refine WK_seq ?_
        refine WK_region ?_
        refine WO_pure tbok 2 [(0, .slice a_p0 p0.length c_p0), (1, .int .i64 p1), (4, .int .i64 s_1), (7, .int .i64 (p0.length : Int)), (8, .int .i64 s_1)] rfl ⟨rfl, rfl, rfl, rfl, rfl, trivial⟩ ?_
        refine WO_end ?_
        cases hm5
        have hq := hd9 _ rfl
        subst hq
        have hm : some _ = some _ := hm
        cases hm
        exact WK_ret (ret_out (L := []) (RLc_tmp rfl RLc_nil) (List.nil_sublist _) rfl)
      · have hm5 := ifF hb14 hm5
        refine WK_skip ?_
        refine WK_blk ?_
        refine WK_region ?_
        refine WO_pure tbok 2 [(0, .slice a_p0 p0.length c_p0), (1, .int .i64 p1), (4, .int .i64 0), (7, .int .i64 (p0.length : Int)), (8, .int .i64 (w64 (s_1 + 1)))] rfl ⟨rfl, rfl, rfl, rfl, rfl, trivial⟩ ?_
        refine WO_end ?_
        cases hm5
        refine WK.sub ?_ (WK.cls (fun _ h => h) (hn8 _ () rfl trivial))
        exact ⟨rfl, rfl, rfl, rfl, rfl, trivial⟩
    · have hm5 := ifF hb11 hm5
      refine WK_exit rfl ?_
      cases hm5
      refine WK.sub ?_ (WK.cls (fun _ h => h) (hk4 ((), ()) (hd9 _ rfl)))
      exact ⟨rfl, trivial⟩
def census_Best_Q (r : List Int × Int) : Value → List Ent → Prop := fun v L => ∃ (a0 : Option Addr) (q0 c0 : Nat), v = .tuple #[.slice a0 q0 c0, .int .i64 r.2] ∧ OwnE 3 1 (I1 .i64) (.slice a0 q0 c0) r.1 L
theorem census_Best_walk {m : Mu} {p0_0 : Int} {p0_1 : Int} {p0_2 : Int} {p0_3 : List Int} {a_p0_3 : Option Addr} {q_p0_3 c_p0_3 : Nat} (h_p0_3 : SlR (FE (I1 .i64)) 1 m (.slice a_p0_3 q_p0_3 c_p0_3) p0_3) {r : List Int × Int} (hm : census_Best p0_0 p0_1 p0_2 p0_3 = some r) :
    Go.E.Spec Try.prog 10 [.agg #[.int .i64 p0_0, .int .i64 p0_1, .int .i64 p0_2, .slice a_p0_3 q_p0_3 c_p0_3]] m (fun v _ L => census_Best_Q r v L) := by
  refine Spec_enterM Try.func10 rfl rfl rfl (fun w0 => ?_)
  refine WK.sub (e' := [(0, .agg #[.int .i64 p0_0, .int .i64 p0_1, .int .i64 p0_2, .slice a_p0_3 q_p0_3 c_p0_3])]) ⟨rfl, trivial⟩ ?_
  obtain rfl := SlR.qlen h_p0_3
  refine WK.sub (e' := [(0, .agg #[.int .i64 p0_0, .int .i64 p0_1, .int .i64 p0_2, .slice a_p0_3 p0_3.length c_p0_3])]) ⟨rfl, trivial⟩ ?_
  unfold census_Best at hm
  refine WK_seq ?_
  refine WK_region ?_
  refine WO_box [.int .i64 p0_0, .int .i64 p0_1, .int .i64 p0_2, .slice a_p0_3 p0_3.length c_p0_3] rfl rfl trivial rfl rfl rfl (fun b2 => ?_)
  refine WO.cls (C' := St w0 m m [[⟨b2, 32, [.int .i64 p0_0, .int .i64 p0_1, .int .i64 p0_2, .slice a_p0_3 p0_3.length c_p0_3]⟩]]) (fun _ h => h) ?_
  refine WO_pure tbok 2 [(1, .pointer (some ⟨b2, 0, none⟩)), (2, .slice none 0 0), (3, .int .i64 0)] rfl ⟨rfl, rfl, rfl, trivial⟩ ?_
  refine WO_end ?_
  refine WK_seq ?_
  refine WK_seq ?_
  refine WK_region ?_
  refine WO_loadB tbok 0 rfl rfl rfl rfl (fun _ h => h) rfl rfl ?_
  obtain ⟨y_1, hc3, hm⟩ := bind_some hm
  refine WO_call0 (.int .i64 y_1) rfl rfl trivial rfl rfl rfl rfl St_closed ⟨30, #[], #[], rfl, callable_30, fun w hw => ⟨_, hw.sat, census_Check_walk h_p0_3 hc3⟩⟩ ?_
  refine WO_pure tbok 1 [(1, .pointer (some ⟨b2, 0, none⟩)), (2, .slice none 0 0), (3, .int .i64 0), (4, .int .i64 y_1)] rfl ⟨rfl, rfl, rfl, rfl, trivial⟩ ?_
  refine WO_end ?_
  refine WK_seq ?_
  refine WK_region ?_
  refine WO_pure tbok 2 [(1, .pointer (some ⟨b2, 0, none⟩)), (2, .slice none 0 0), (3, .int .i64 0), (4, .int .i64 y_1), (10, .bool (y_1 != 0))] rfl ⟨rfl, rfl, rfl, rfl, rfl, trivial⟩ ?_
  refine WO_end ?_
  refine WK_cond (b := y_1 != 0) rfl (fun hb4 => ?_) (fun hb4 => ?_)
  · have hm := ifT hb4 hm
    refine WK_seq ?_
    refine WK_region ?_
    refine WO_pure tbok 3 [(1, .pointer (some ⟨b2, 0, none⟩)), (2, .slice none 0 0), (3, .int .i64 y_1)] rfl ⟨rfl, rfl, rfl, trivial⟩ ?_
    refine WO_end ?_
    cases hm
    exact WK_ret (ret_out0 (L := []) (RLc_tmp rfl (RLc_tmp rfl RLc_nil)) (List.nil_sublist _) ⟨none, 0, 0, rfl, (OwnE.nil none)⟩)
  · have hm := ifF hb4 hm
    refine WK_skip ?_
    refine WK_seq ?_
    refine WK_region ?_
    refine WO_alloc tbok [.slice none 0 0] rfl rfl trivial rfl rfl rfl rfl (fun b5 => ?_)
    refine WO.cls (C' := St w0 m m [[⟨b2, 32, [.int .i64 p0_0, .int .i64 p0_1, .int .i64 p0_2, .slice a_p0_3 p0_3.length c_p0_3]⟩], [⟨b5, 22, [.slice none 0 0]⟩]]) (fun _ h => h) ?_
    refine WO_end ?_
    refine WK_seq ?_
    refine WK_seq ?_
    refine WK_region ?_
    refine WO_pure tbok 1 [(1, .pointer (some ⟨b2, 0, none⟩)), (2, .slice none 0 0), (3, .int .i64 0), (5, .pointer (some ⟨b5, 0, none⟩)), (12, .pointer (some ⟨b2, 3, none⟩))] rfl ⟨rfl, rfl, rfl, rfl, rfl, trivial⟩ ?_
    refine WO_loadB tbok 0 rfl rfl rfl rfl (fun _ h => h) rfl rfl ?_
    refine WO_pure tbok 1 [(2, .slice none 0 0), (3, .int .i64 0), (5, .pointer (some ⟨b5, 0, none⟩)), (13, .slice a_p0_3 p0_3.length c_p0_3), (14, .pointer (some ⟨b2, 2, none⟩))] rfl ⟨rfl, rfl, rfl, rfl, rfl, trivial⟩ ?_
    refine WO_loadB tbok 0 rfl rfl rfl rfl (fun _ h => h) rfl rfl ?_
    refine WO_inline rfl rfl rfl rfl rfl rfl callable_31 Try.func31 rfl rfl rfl ?_
    refine WK.sub (e' := [(0, .slice a_p0_3 p0_3.length c_p0_3), (1, .int .i64 p0_2)]) ⟨rfl, rfl, trivial⟩ ?_
    refine WK_seq ?_
    refine WK_region ?_
    refine WO_box [.slice a_p0_3 p0_3.length c_p0_3] rfl rfl trivial rfl rfl rfl (fun b6 => ?_)
    refine WO.cls (C' := St w0 m m [[⟨b2, 32, [.int .i64 p0_0, .int .i64 p0_1, .int .i64 p0_2, .slice a_p0_3 p0_3.length c_p0_3]⟩], [⟨b5, 22, [.slice none 0 0]⟩], [⟨b6, 22, [.slice a_p0_3 p0_3.length c_p0_3]⟩]]) (fun _ h => h) ?_
    refine WO_box [.int .i64 p0_2] rfl rfl trivial rfl rfl rfl (fun b7 => ?_)
    refine WO.cls (C' := St w0 m m [[⟨b2, 32, [.int .i64 p0_0, .int .i64 p0_1, .int .i64 p0_2, .slice a_p0_3 p0_3.length c_p0_3]⟩], [⟨b5, 22, [.slice none 0 0]⟩], [⟨b6, 22, [.slice a_p0_3 p0_3.length c_p0_3]⟩], [⟨b7, 3, [.int .i64 p0_2]⟩]]) (fun _ h => h) ?_
    refine WO_pure tbok 1 [(2, .pointer (some ⟨b6, 0, none⟩)), (3, .pointer (some ⟨b7, 0, none⟩)), (4, .nilFunc)] rfl ⟨rfl, rfl, rfl, trivial⟩ ?_
    refine WO_end ?_
    refine WK_seq ?_
    refine WK_seq ?_
    refine WK_region ?_
    refine WO_loadB tbok 3 rfl rfl rfl rfl (fun _ h => h) rfl rfl ?_
    refine WO_pure tbok 1 [(2, .pointer (some ⟨b6, 0, none⟩)), (3, .pointer (some ⟨b7, 0, none⟩)), (4, .nilFunc), (6, .bool (decide (p0_2 < 1)))] rfl ⟨rfl, rfl, rfl, rfl, trivial⟩ ?_
    refine WO_end ?_
    refine WK_cond (b := decide (p0_2 < 1)) rfl (fun hb8 => ?_) (fun hb8 => ?_)
    · have hm := ifT hb8 hm
      refine WK_region ?_
      cases hm
    · have hm := ifF hb8 hm
      refine WK_skip ?_
      refine WK_seq ?_
      refine WK_region ?_
      refine WO_pure tbok 2 [(4, .func (.func 65) #[] #[.pointer (some ⟨b6, 0, none⟩), .pointer (some ⟨b7, 0, none⟩)])] rfl ⟨rfl, trivial⟩ ?_
      refine WO_end ?_
      refine WK_retI (RLc_tmp rfl RLc_nil) (fun _ _ => trivial) ?_
      refine WO_end ?_
      refine WK_block ?_
      refine WK_freeze 2 rfl (fun m9 hle10 hmm11 => ?_)
      refine WK.cls (C' := St w0 m m9 [[⟨b2, 32, [.int .i64 p0_0, .int .i64 p0_1, .int .i64 p0_2, .slice a_p0_3 p0_3.length c_p0_3]⟩], [⟨b5, 22, [.slice none 0 0]⟩], [], [⟨b7, 3, [.int .i64 p0_2]⟩]]) (fun _ h => h) ?_
      refine WK_freeze 3 rfl (fun m13 hle14 hmm15 => ?_)
      refine WK.cls (C' := St w0 m m13 [[⟨b2, 32, [.int .i64 p0_0, .int .i64 p0_1, .int .i64 p0_2, .slice a_p0_3 p0_3.length c_p0_3]⟩], [⟨b5, 22, [.slice none 0 0]⟩], [], []]) (fun _ h => h) ?_
      obtain ⟨hc17, hm⟩ := chk_some hm
      refine WK_pad ?_
      obtain ⟨l_3, hx30, hm⟩ := bind_some hm
      refine WK.sub (e' := [(2, .slice none 0 0), (3, .int .i64 0), (5, .pointer (some ⟨b5, 0, none⟩)), (16, .func (.func 65) #[] #[.pointer (some ⟨b6, 0, none⟩), .pointer (some ⟨b7, 0, none⟩)])]) ⟨rfl, rfl, rfl, rfl, trivial⟩ (WK.cls (C' := St w0 m m13 [[⟨b2, 32, [.int .i64 p0_0, .int .i64 p0_1, .int .i64 p0_2, .slice a_p0_3 p0_3.length c_p0_3]⟩], [⟨b5, 22, [.slice none 0 0]⟩], [], [], []]) (fun _ h => h) ?_)
      refine WK_range (S := List Int) (G := Option Addr × Nat × Nat × List Ent) (gf := 65) (lb := [.pointer (some ⟨b6, 0, none⟩), .pointer (some ⟨b7, 0, none⟩)]) (chunksOf p0_2.toNat p0_3) (EvSl (FE (I1 .i64)) 1 m13) (fun (s : List Int) (x : List Int) => census_Best_s1 s x) (fun s g => [[⟨b2, 32, [.int .i64 p0_0, .int .i64 p0_1, .int .i64 p0_2, .slice a_p0_3 p0_3.length c_p0_3]⟩], [⟨b5, 22, [.slice g.1 ((s).length) g.2.2.1]⟩], [], [], g.2.2.2]) (fun s g => OwnE 3 1 (I1 .i64) (.slice g.1 g.2.1 g.2.2.1) s g.2.2.2) (fun v => [(5, .pointer (some ⟨b5, 0, none⟩)), (6, v)]) rfl callable_65 rfl (chunk_iter (hle14 _ _ (hmm11 _ (List.mem_singleton.2 rfl))) (hmm15 _ (List.mem_singleton.2 rfl)) ((h_p0_3.mono (mono_FE _) hle10).mono (mono_FE _) hle14) hc17) ([] : List Int) (none, 0, 0, []) l_3 hx30 (OwnE.nil (T := 3) (k := 1) (E := (I1 .i64)) none) ?_ ?_
      · rintro D31 m32 ⟨a27, q28, c29, L26⟩ hD33 hDn34 hle35 hmD36 hL26
        have hqq : q28 = l_3.length := OwnE.qlen hL26
        subst hqq
        refine WKx.sub (e' := [(2, .slice none 0 0), (3, .int .i64 0), (5, .pointer (some ⟨b5, 0, none⟩))]) ⟨rfl, rfl, rfl, trivial⟩ (WKx.cls (C' := St w0 m m32 [[⟨b2, 32, [.int .i64 p0_0, .int .i64 p0_1, .int .i64 p0_2, .slice a_p0_3 p0_3.length c_p0_3]⟩], [⟨b5, 22, [.slice a27 ((l_3).length) c29]⟩], [], [], L26]) (fun _ h => h) ?_)
        refine WKx_blk ?_
        refine WKx_seq ?_
        refine WKx_region (by kernel_rfl) ?_
        refine WO_loadB tbok 1 rfl rfl rfl rfl (fun _ h => h) rfl rfl ?_
        refine WO_pure tbok 2 [(2, .slice a27 ((l_3).length) c29), (3, .int .i64 0)] rfl ⟨rfl, rfl, trivial⟩ ?_
        refine WO_end ?_
        refine WK_back ?_
        cases hm
        exact WKx_ret (ret_outM (L := L26) hD33 hmD36 (none_le (hle10.trans hle14) hDn34) (fun _ => (RLc_tmp rfl (RLc_tmp rfl RLc_nil))) (seg_sub 4 rfl) (fun _ => ⟨a27, _, c29, rfl, hL26⟩))
      · rintro lp37 x_4 _ l_2 o ⟨a22, q23, c24, L21⟩ hmem41 ⟨a38, q39, c40, rfl, h42⟩ hs43 hL21
        obtain rfl := SlR.qlen h42
        have hs43 : census_Best_s1 l_2 x_4 = some o := hs43
        unfold census_Best_s1 at hs43
        have hqq : q23 = l_2.length := OwnE.qlen hL21
        subst hqq
        refine ⟨fun mb44 Ra hle45 hk46 => ?_, fun mb44 Rb hle45 hk46 => ?_⟩
        · refine WKx.sub (e' := [(2, .slice none 0 0), (3, .int .i64 0), (5, .pointer (some ⟨b5, 0, none⟩)), (16, .func (.func 65) #[] #[.pointer (some ⟨b6, 0, none⟩), .pointer (some ⟨b7, 0, none⟩)]), (17, .slice a38 x_4.length c40)]) ⟨rfl, rfl, rfl, rfl, rfl, trivial⟩ (WKx.cls (C' := St w0 m mb44 [[⟨b2, 32, [.int .i64 p0_0, .int .i64 p0_1, .int .i64 p0_2, .slice a_p0_3 p0_3.length c_p0_3]⟩], [⟨b5, 22, [.slice a22 ((l_2).length) c24]⟩], [], [], L21]) (fun _ h => h) ?_)
          refine WKx_region (by kernel_rfl) ?_
          refine WO_pure tbok 1 [(2, .slice none 0 0), (3, .int .i64 0), (5, .pointer (some ⟨b5, 0, none⟩)), (6, .slice a38 x_4.length c40)] rfl ⟨rfl, rfl, rfl, rfl, trivial⟩ ?_
          refine WO_end ?_
          refine WK_back ?_
          refine WKx.sub ?_ hk46
          exact ⟨rfl, rfl, trivial⟩
        · refine WKx.sub (e' := [(5, .pointer (some ⟨b5, 0, none⟩)), (6, .slice a38 x_4.length c40)]) ⟨rfl, rfl, trivial⟩ (WKx.cls (C' := St w0 m mb44 [[⟨b2, 32, [.int .i64 p0_0, .int .i64 p0_1, .int .i64 p0_2, .slice a_p0_3 p0_3.length c_p0_3]⟩], [⟨b5, 22, [.slice a22 ((l_2).length) c24]⟩], [], [], L21]) (fun _ h => h) ?_)
          refine WKx_block ?_
          refine WKx_draw (by kernel_rfl) 6 [0, 1, 2, 3, 4, 5] follows_ok (by kernel_rfl) St_closed ?_
          refine WO_loadB tbok 1 rfl rfl rfl rfl (fun _ h => h) rfl rfl ?_
          refine WO_pure tbok 2 [(5, .pointer (some ⟨b5, 0, none⟩)), (18, .slice a22 ((l_2).length) c24), (19, .slice a38 x_4.length c40), (20, .slice a38 x_4.length c40)] rfl ⟨rfl, rfl, rfl, rfl, trivial⟩ ?_
          obtain ⟨y_5, hc47, hs43⟩ := bind_some hs43
          refine WO_call0 (.int .i64 y_5) rfl rfl St_closed rfl rfl rfl rfl St_closed ⟨33, #[], #[], rfl, callable_33, fun w hw => ⟨_, hw.sat, slices_Min_sint_walk (h42.mono (mono_FE _) hle45) hc47⟩⟩ ?_
          obtain ⟨y_6, hc48, hs43⟩ := bind_some hs43
          refine WO_call0 (.int .i64 y_6) rfl rfl St_closed rfl rfl rfl rfl St_closed ⟨32, #[], #[], rfl, callable_32, fun w hw => ⟨_, hw.sat, slices_Index_sint_walk (h42.mono (mono_FE _) hle45) hc48⟩⟩ ?_
          refine WO_bslice (E := (I1 .i64)) tbok (fun _ => rfl) (by decide) [.int .i64 y_6] ([y_6] : List Int) rfl rfl St_closed rfl rfl rfl rfl rfl rfl rfl rfl rfl rfl rfl rfl (fun b49 hb49 => ?_)
          refine WO.cls (C' := St w0 m mb44 [[⟨b2, 32, [.int .i64 p0_0, .int .i64 p0_1, .int .i64 p0_2, .slice a_p0_3 p0_3.length c_p0_3]⟩], [⟨b5, 22, [.slice a22 ((l_2).length) c24]⟩], [], [], L21, [⟨b49, 3, ([y_6] : List Int).flatMap (I1 .i64)⟩]]) (fun _ h => h) ?_
          refine WO_tail ?_
          obtain ⟨hc51, hs43⟩ := chk_some hs43
          refine WO_append (E := (I1 .i64)) tbok (fun _ => rfl) 4 ([y_6] : List Int) (fun _ _ => rfl) rfl rfl rfl rfl rfl rfl rfl rfl rfl rfl rfl rfl hL21 rfl (src_seg (j := 5) rfl) (ap_ok (by decide) hc51) (ap_max hc51) (fun a52 c53 L54 hL54 => ?_)
          refine WO.cls (C' := St w0 m mb44 [[⟨b2, 32, [.int .i64 p0_0, .int .i64 p0_1, .int .i64 p0_2, .slice a_p0_3 p0_3.length c_p0_3]⟩], [⟨b5, 22, [.slice a22 ((l_2).length) c24]⟩], [], [], L54, [⟨b49, 3, ([y_6] : List Int).flatMap (I1 .i64)⟩]]) (fun _ h => h) ?_
          refine WO_storeB tbok 1 [.slice a52 ((l_2 ++ ([y_6] : List Int)).length) c53] rfl rfl rfl rfl rfl rfl rfl ?_
          refine WO.cls (C' := St w0 m mb44 [[⟨b2, 32, [.int .i64 p0_0, .int .i64 p0_1, .int .i64 p0_2, .slice a_p0_3 p0_3.length c_p0_3]⟩], [⟨b5, 22, [.slice a52 ((l_2 ++ ([y_6] : List Int)).length) c53]⟩], [], [], L54, [⟨b49, 3, ([y_6] : List Int).flatMap (I1 .i64)⟩]]) (fun _ h => h) ?_
          refine WO_end ?_
          refine WK_back ?_
          refine WKx_blk ?_
          cases hs43
          refine WKx.sub ?_ (WKx.cls (fun _ h => St.take 5 h) (hk46 (a52, (l_2 ++ ([y_6] : List Int)).length, c53, L54) hL54))
          exact trivial
theorem fiducialtop_TopCoarse_walk {m : Mu} {p0_0 : Int} {p0_1 : Int} {p0_2 : Int} {p0_3 : List Int} {p1 : Int} {p2 : List Int} {a_p0_3 : Option Addr} {q_p0_3 c_p0_3 : Nat} {a_p2 : Option Addr} {q_p2 c_p2 : Nat} (h_p0_3 : SlR (FE (I1 .i64)) 1 m (.slice a_p0_3 q_p0_3 c_p0_3) p0_3) (h_p2 : SlR (FE (I1 .u8)) 1 m (.slice a_p2 q_p2 c_p2) p2) {r : Bool} (hm : fiducialtop_TopCoarse p0_0 p0_1 p0_2 p0_3 p1 p2 = some r) :
    Go.E.Spec Try.prog 3 [.agg #[.int .i64 p0_0, .int .i64 p0_1, .int .i64 p0_2, .slice a_p0_3 q_p0_3 c_p0_3], .int .u8 p1, .slice a_p2 q_p2 c_p2] m (fun v _ _ => v = .bool r) := by
  refine Spec_enter Try.func3 rfl rfl rfl (fun w0 => ?_)
  refine WK.sub (e' := [(0, .agg #[.int .i64 p0_0, .int .i64 p0_1, .int .i64 p0_2, .slice a_p0_3 q_p0_3 c_p0_3]), (1, .int .u8 p1), (2, .slice a_p2 q_p2 c_p2)]) ⟨rfl, rfl, rfl, trivial⟩ ?_
  obtain rfl := SlR.qlen h_p0_3
  obtain rfl := SlR.qlen h_p2
  refine WK.sub (e' := [(0, .agg #[.int .i64 p0_0, .int .i64 p0_1, .int .i64 p0_2, .slice a_p0_3 p0_3.length c_p0_3]), (1, .int .u8 p1), (2, .slice a_p2 p2.length c_p2)]) ⟨rfl, rfl, rfl, trivial⟩ ?_
  unfold fiducialtop_TopCoarse at hm
  refine WK_seq ?_
  refine WK_region ?_
  refine WO_box [.int .i64 p0_0, .int .i64 p0_1, .int .i64 p0_2, .slice a_p0_3 p0_3.length c_p0_3] rfl rfl trivial rfl rfl rfl (fun b3 => ?_)
  refine WO.cls (C' := St w0 m m [[⟨b3, 24, [.int .i64 p0_0, .int .i64 p0_1, .int .i64 p0_2, .slice a_p0_3 p0_3.length c_p0_3]⟩]]) (fun _ h => h) ?_
  refine WO_pure tbok 1 [(1, .int .u8 p1), (2, .slice a_p2 p2.length c_p2), (3, .pointer (some ⟨b3, 0, none⟩)), (6, .bool false)] rfl ⟨rfl, rfl, rfl, rfl, trivial⟩ ?_
  refine WO_end ?_
  refine WK_seq ?_
  refine WK_seq ?_
  refine WK_region ?_
  obtain ⟨y_1, hc4, hm⟩ := bind_some hm
  refine WO_call0 (.bool y_1) rfl rfl trivial rfl rfl rfl rfl St_closed ⟨6, #[], #[], rfl, callable_6, fun w hw => ⟨_, hw.sat, fiducialtop_dCoarseAwake_walk hc4⟩⟩ ?_
  refine WO_pure tbok 1 [(1, .int .u8 p1), (2, .slice a_p2 p2.length c_p2), (3, .pointer (some ⟨b3, 0, none⟩)), (6, .bool false), (22, .bool (!y_1))] rfl ⟨rfl, rfl, rfl, rfl, rfl, trivial⟩ ?_
  refine WO_end ?_
  refine WK_cond (b := !y_1) rfl (fun hb5 => ?_) (fun hb5 => ?_)
  · have hm := ifT hb5 hm
    refine WK_seq ?_
    refine WK_region ?_
    refine WO_pure tbok 1 [(1, .int .u8 p1), (2, .slice a_p2 p2.length c_p2), (3, .pointer (some ⟨b3, 0, none⟩)), (6, .bool false)] rfl ⟨rfl, rfl, rfl, rfl, trivial⟩ ?_
    refine WO_end ?_
    cases hm
    exact WK_ret (ret_out (L := []) (RLc_tmp rfl RLc_nil) (List.nil_sublist _) rfl)
  · have hm := ifF hb5 hm
    refine WK_skip ?_
    refine WK_seq ?_
    refine WK_seq ?_
    obtain ⟨s_2, hx6, hm⟩ := bind_some hm
    refine WK_meet [(1, .int .u8 p1), (2, .slice a_p2 p2.length c_p2), (3, .pointer (some ⟨b3, 0, none⟩)), (6, .bool false), (36, .bool s_2)] (St w0 m m [[⟨b3, 24, [.int .i64 p0_0, .int .i64 p0_1, .int .i64 p0_2, .slice a_p0_3 p0_3.length c_p0_3]⟩]]) ?_ (fun hk7 => ?_)
    · refine WK_cond (b := s_2) rfl (fun hb8 => ?_) (fun hb8 => ?_)
      · have hm := ifT hb8 hm
        refine WK_seq ?_
        refine WK_region ?_
        refine WO_pure tbok 1 [(1, .int .u8 p1), (2, .slice a_p2 p2.length c_p2), (3, .pointer (some ⟨b3, 0, none⟩)), (6, .bool true)] rfl ⟨rfl, rfl, rfl, rfl, trivial⟩ ?_
        refine WO_end ?_
        cases hm
        exact WK_ret (ret_out (L := []) (RLc_tmp rfl RLc_nil) (List.nil_sublist _) rfl)
      · have hm := ifF hb8 hm
        refine WK_skip ?_
        refine WK_seq ?_
        refine WK_region ?_
        refine WO_pure tbok 4 [(2, .slice a_p2 p2.length c_p2), (3, .pointer (some ⟨b3, 0, none⟩)), (6, .bool false), (7, .int .i64 (Int.tmod (w64 (p1)) 4))] rfl ⟨rfl, rfl, rfl, rfl, trivial⟩ ?_
        refine WO_end ?_
        refine WK_seq ?_
        refine WK_region ?_
        refine WO_pure tbok 1 [(2, .slice a_p2 p2.length c_p2), (3, .pointer (some ⟨b3, 0, none⟩)), (6, .bool false), (7, .int .i64 (Int.tmod (w64 (p1)) 4)), (40, .pointer (some ⟨b3, 0, none⟩))] rfl ⟨rfl, rfl, rfl, rfl, rfl, trivial⟩ ?_
        refine WO_loadB tbok 0 rfl rfl rfl rfl (fun _ h => h) rfl rfl ?_
        refine WO_pure tbok 1 [(2, .slice a_p2 p2.length c_p2), (3, .pointer (some ⟨b3, 0, none⟩)), (6, .bool false), (7, .int .i64 (Int.tmod (w64 (p1)) 4)), (41, .int .i64 p0_0), (42, .pointer (some ⟨b3, 1, none⟩))] rfl ⟨rfl, rfl, rfl, rfl, rfl, rfl, trivial⟩ ?_
        refine WO_loadB tbok 0 rfl rfl rfl rfl (fun _ h => h) rfl rfl ?_
        refine WO_pure tbok 1 [(2, .slice a_p2 p2.length c_p2), (3, .pointer (some ⟨b3, 0, none⟩)), (6, .bool false), (7, .int .i64 (Int.tmod (w64 (p1)) 4)), (41, .int .i64 p0_0), (43, .int .i64 p0_1), (44, .pointer (some ⟨b3, 2, none⟩))] rfl ⟨rfl, rfl, rfl, rfl, rfl, rfl, rfl, trivial⟩ ?_
        refine WO_loadB tbok 0 rfl rfl rfl rfl (fun _ h => h) rfl rfl ?_
        refine WO_pure tbok 1 [(2, .slice a_p2 p2.length c_p2), (3, .pointer (some ⟨b3, 0, none⟩)), (6, .bool false), (7, .int .i64 (Int.tmod (w64 (p1)) 4)), (46, .agg #[.int .i64 p0_0, .int .i64 p0_1, .int .i64 p0_2, .slice none 0 0])] rfl ⟨rfl, rfl, rfl, rfl, rfl, trivial⟩ ?_
        refine WO_alloc tbok [.int .i64 0, .int .i64 0, .int .i64 0, .slice none 0 0] rfl rfl trivial rfl rfl rfl rfl (fun b9 => ?_)
        refine WO.cls (C' := St w0 m m [[⟨b3, 24, [.int .i64 p0_0, .int .i64 p0_1, .int .i64 p0_2, .slice a_p0_3 p0_3.length c_p0_3]⟩], [⟨b9, 24, [.int .i64 0, .int .i64 0, .int .i64 0, .slice none 0 0]⟩]]) (fun _ h => h) ?_
        refine WO_storeB tbok 1 [.int .i64 p0_0, .int .i64 p0_1, .int .i64 p0_2, .slice none 0 0] rfl rfl rfl rfl rfl rfl rfl ?_
        refine WO.cls (C' := St w0 m m [[⟨b3, 24, [.int .i64 p0_0, .int .i64 p0_1, .int .i64 p0_2, .slice a_p0_3 p0_3.length c_p0_3]⟩], [⟨b9, 24, [.int .i64 p0_0, .int .i64 p0_1, .int .i64 p0_2, .slice none 0 0]⟩]]) (fun _ h => h) ?_
        refine WO_end ?_
        refine WK_seq ?_
        refine WK_seq ?_
        refine WK_region ?_
        refine WO_pure tbok 1 [(2, .slice a_p2 p2.length c_p2), (3, .pointer (some ⟨b3, 0, none⟩)), (6, .bool false), (7, .int .i64 (Int.tmod (w64 (p1)) 4)), (8, .pointer (some ⟨b9, 0, none⟩)), (47, .pointer (some ⟨b3, 3, none⟩))] rfl ⟨rfl, rfl, rfl, rfl, rfl, rfl, trivial⟩ ?_
        refine WO_loadB tbok 0 rfl rfl rfl rfl (fun _ h => h) rfl rfl ?_
        refine WO_pure tbok 2 [(2, .slice a_p2 p2.length c_p2), (3, .pointer (some ⟨b3, 0, none⟩)), (6, .bool false), (7, .int .i64 (Int.tmod (w64 (p1)) 4)), (8, .pointer (some ⟨b9, 0, none⟩)), (49, .int .i64 (p0_3.length : Int)), (50, .int .i64 0)] rfl ⟨rfl, rfl, rfl, rfl, rfl, rfl, rfl, trivial⟩ ?_
        refine WO_end ?_
        refine WK_pad ?_
        obtain ⟨x21, hx22, hm⟩ := bind_some hm
        refine WK_join (β := (List Int) × (Option Addr × Nat × Nat × List Ent)) (fun p => p.1 = x21 ∧ OwnE 3 1 (I1 .i64) (.slice p.2.1 p.2.2.1 p.2.2.2.1) p.1 p.2.2.2.2) (fun p => [(3, .pointer (some ⟨b3, 0, none⟩)), (6, .bool false), (7, .int .i64 (Int.tmod (w64 (p1)) 4)), (8, .pointer (some ⟨b9, 0, none⟩))]) (fun p => St w0 m m [[⟨b3, 24, [.int .i64 p0_0, .int .i64 p0_1, .int .i64 p0_2, .slice a_p0_3 p0_3.length c_p0_3]⟩], [⟨b9, 24, [.int .i64 p0_0, .int .i64 p0_1, .int .i64 p0_2, .slice p.2.1 p.2.2.1 p.2.2.2.1]⟩], p.2.2.2.2]) ?_ (fun hk23 => ?_)
        · rintro ⟨l_5, ⟨a18, q19, c20, L17⟩⟩ ⟨hq29, hL17⟩
          subst hq29
          have hqq : q19 = l_5.length := OwnE.qlen hL17
          subst hqq
          refine WK.sub (e' := [(3, .pointer (some ⟨b3, 0, none⟩)), (6, .bool false), (7, .int .i64 (Int.tmod (w64 (p1)) 4)), (8, .pointer (some ⟨b9, 0, none⟩))]) ⟨rfl, rfl, rfl, rfl, trivial⟩ (WK.cls (C' := St w0 m m [[⟨b3, 24, [.int .i64 p0_0, .int .i64 p0_1, .int .i64 p0_2, .slice a_p0_3 p0_3.length c_p0_3]⟩], [⟨b9, 24, [.int .i64 p0_0, .int .i64 p0_1, .int .i64 p0_2, .slice a18 ((l_5).length) c20]⟩], L17]) (fun _ h => h) ?_)
          refine WK_seq ?_
          refine WK_region ?_
          refine WO_loadB tbok 0 rfl rfl rfl rfl (fun _ h => h) rfl rfl ?_
          obtain ⟨⟨y_6, y_7, y_8, y_9, y_10⟩, hc30, hm⟩ := bind_some hm
          refine WO_call1 (pyramid_Reduce_Q (y_6, y_7, y_8, y_9, y_10)) rfl rfl trivial rfl rfl rfl rfl ⟨8, #[], #[], rfl, callable_8, fun w hw => ⟨_, hw.sat, pyramid_Reduce_walk h_p0_3 hc30⟩⟩ (fun v35 L34 hq => ?_)
          obtain ⟨a31, qa31, c32, rfl, hL34⟩ := hq
          obtain rfl := OwnE.qlen hL34
          refine WO.cls (C' := St w0 m m [[⟨b3, 24, [.int .i64 p0_0, .int .i64 p0_1, .int .i64 p0_2, .slice a_p0_3 p0_3.length c_p0_3]⟩], [⟨b9, 24, [.int .i64 p0_0, .int .i64 p0_1, .int .i64 p0_2, .slice a18 ((l_5).length) c20]⟩], L17, L34]) (fun _ h => h) ?_
          refine WO_pure tbok 3 [(3, .pointer (some ⟨b3, 0, none⟩)), (6, .bool false), (7, .int .i64 (Int.tmod (w64 (p1)) 4)), (8, .pointer (some ⟨b9, 0, none⟩)), (94, .agg #[.int .i64 y_6, .int .i64 y_7, .int .i64 y_8, .slice a31 ((y_9).length) c32]), (95, .int .i64 y_10)] rfl ⟨rfl, rfl, rfl, rfl, rfl, rfl, trivial⟩ ?_
          refine WO_alloc tbok [.int .i64 0, .int .i64 0, .int .i64 0, .slice none 0 0] rfl rfl trivial rfl rfl rfl rfl (fun b36 => ?_)
          refine WO.cls (C' := St w0 m m [[⟨b3, 24, [.int .i64 p0_0, .int .i64 p0_1, .int .i64 p0_2, .slice a_p0_3 p0_3.length c_p0_3]⟩], [⟨b9, 24, [.int .i64 p0_0, .int .i64 p0_1, .int .i64 p0_2, .slice a18 ((l_5).length) c20]⟩], L17, L34, [⟨b36, 24, [.int .i64 0, .int .i64 0, .int .i64 0, .slice none 0 0]⟩]]) (fun _ h => h) ?_
          refine WO_storeB tbok 4 [.int .i64 y_6, .int .i64 y_7, .int .i64 y_8, .slice a31 ((y_9).length) c32] rfl rfl rfl rfl rfl rfl rfl ?_
          refine WO.cls (C' := St w0 m m [[⟨b3, 24, [.int .i64 p0_0, .int .i64 p0_1, .int .i64 p0_2, .slice a_p0_3 p0_3.length c_p0_3]⟩], [⟨b9, 24, [.int .i64 p0_0, .int .i64 p0_1, .int .i64 p0_2, .slice a18 ((l_5).length) c20]⟩], L17, L34, [⟨b36, 24, [.int .i64 y_6, .int .i64 y_7, .int .i64 y_8, .slice a31 ((y_9).length) c32]⟩]]) (fun _ h => h) ?_
          refine WO_pure tbok 1 [(3, .pointer (some ⟨b3, 0, none⟩)), (6, .bool false), (7, .int .i64 (Int.tmod (w64 (p1)) 4)), (8, .pointer (some ⟨b9, 0, none⟩)), (11, .pointer (some ⟨b36, 0, none⟩)), (12, .int .i64 y_10)] rfl ⟨rfl, rfl, rfl, rfl, rfl, rfl, trivial⟩ ?_
          refine WO_end ?_
          refine WK_seq ?_
          refine WK_region ?_
          refine WO_loadB tbok 1 rfl rfl rfl rfl (fun _ h => h) rfl rfl ?_
          obtain ⟨⟨y_11, y_12, y_13, y_14, y_15⟩, hc37, hm⟩ := bind_some hm
          refine WO_call1 (pyramid_Reduce_Q (y_11, y_12, y_13, y_14, y_15)) rfl rfl trivial rfl rfl rfl rfl ⟨8, #[], #[], rfl, callable_8, fun w hw => ⟨_, hw.satV, pyramid_Reduce_walk (OwnE.rd (E := (I1 .i64)) (k := 1) (fun _ => rfl) hL17 (fun _ hx => hw.memV (i := 2) rfl hx)) hc37⟩⟩ (fun v42 L41 hq => ?_)
          obtain ⟨a38, qa38, c39, rfl, hL41⟩ := hq
          obtain rfl := OwnE.qlen hL41
          refine WO.cls (C' := St w0 m m [[⟨b3, 24, [.int .i64 p0_0, .int .i64 p0_1, .int .i64 p0_2, .slice a_p0_3 p0_3.length c_p0_3]⟩], [⟨b9, 24, [.int .i64 p0_0, .int .i64 p0_1, .int .i64 p0_2, .slice a18 ((l_5).length) c20]⟩], L17, L34, [⟨b36, 24, [.int .i64 y_6, .int .i64 y_7, .int .i64 y_8, .slice a31 ((y_9).length) c32]⟩], L41]) (fun _ h => h) ?_
          refine WO_pure tbok 3 [(3, .pointer (some ⟨b3, 0, none⟩)), (6, .bool false), (7, .int .i64 (Int.tmod (w64 (p1)) 4)), (11, .pointer (some ⟨b36, 0, none⟩)), (12, .int .i64 y_10), (99, .agg #[.int .i64 y_11, .int .i64 y_12, .int .i64 y_13, .slice a38 ((y_14).length) c39]), (100, .int .i64 y_15)] rfl ⟨rfl, rfl, rfl, rfl, rfl, rfl, rfl, trivial⟩ ?_
          refine WO_alloc tbok [.int .i64 0, .int .i64 0, .int .i64 0, .slice none 0 0] rfl rfl trivial rfl rfl rfl rfl (fun b43 => ?_)
          refine WO.cls (C' := St w0 m m [[⟨b3, 24, [.int .i64 p0_0, .int .i64 p0_1, .int .i64 p0_2, .slice a_p0_3 p0_3.length c_p0_3]⟩], [⟨b9, 24, [.int .i64 p0_0, .int .i64 p0_1, .int .i64 p0_2, .slice a18 ((l_5).length) c20]⟩], L17, L34, [⟨b36, 24, [.int .i64 y_6, .int .i64 y_7, .int .i64 y_8, .slice a31 ((y_9).length) c32]⟩], L41, [⟨b43, 24, [.int .i64 0, .int .i64 0, .int .i64 0, .slice none 0 0]⟩]]) (fun _ h => h) ?_
          refine WO_storeB tbok 6 [.int .i64 y_11, .int .i64 y_12, .int .i64 y_13, .slice a38 ((y_14).length) c39] rfl rfl rfl rfl rfl rfl rfl ?_
          refine WO.cls (C' := St w0 m m [[⟨b3, 24, [.int .i64 p0_0, .int .i64 p0_1, .int .i64 p0_2, .slice a_p0_3 p0_3.length c_p0_3]⟩], [⟨b9, 24, [.int .i64 p0_0, .int .i64 p0_1, .int .i64 p0_2, .slice a18 ((l_5).length) c20]⟩], L17, L34, [⟨b36, 24, [.int .i64 y_6, .int .i64 y_7, .int .i64 y_8, .slice a31 ((y_9).length) c32]⟩], L41, [⟨b43, 24, [.int .i64 y_11, .int .i64 y_12, .int .i64 y_13, .slice a38 ((y_14).length) c39]⟩]]) (fun _ h => h) ?_
          refine WO_pure tbok 1 [(3, .pointer (some ⟨b3, 0, none⟩)), (6, .bool false), (7, .int .i64 (Int.tmod (w64 (p1)) 4)), (11, .pointer (some ⟨b36, 0, none⟩)), (12, .int .i64 y_10), (13, .pointer (some ⟨b43, 0, none⟩)), (14, .int .i64 y_15)] rfl ⟨rfl, rfl, rfl, rfl, rfl, rfl, rfl, trivial⟩ ?_
          refine WO_end ?_
          refine WK_seq ?_
          refine WK_region ?_
          refine WO_loadB tbok 4 rfl rfl rfl rfl (fun _ h => h) rfl rfl ?_
          refine WO_loadB tbok 6 rfl rfl rfl rfl (fun _ h => h) rfl rfl ?_
          obtain ⟨⟨y_16, y_17, y_18, y_19, y_20⟩, hc44, hm⟩ := bind_some hm
          refine WO_call1 (census_Plain_Q (y_16, y_17, y_18, y_19, y_20)) rfl rfl trivial rfl rfl rfl rfl ⟨9, #[], #[], rfl, callable_9, fun w hw => ⟨_, hw.satV, census_Plain_walk (OwnE.rd (E := (I1 .i64)) (k := 1) (fun _ => rfl) hL34 (fun _ hx => hw.memV (i := 3) rfl hx)) (OwnE.rd (E := (I1 .i64)) (k := 1) (fun _ => rfl) hL41 (fun _ hx => hw.memV (i := 5) rfl hx)) hc44⟩⟩ (fun v49 L48 hq => ?_)
          obtain ⟨a45, qa45, c46, rfl, hL48⟩ := hq
          obtain rfl := OwnE.qlen hL48
          refine WO.cls (C' := St w0 m m [[⟨b3, 24, [.int .i64 p0_0, .int .i64 p0_1, .int .i64 p0_2, .slice a_p0_3 p0_3.length c_p0_3]⟩], [⟨b9, 24, [.int .i64 p0_0, .int .i64 p0_1, .int .i64 p0_2, .slice a18 ((l_5).length) c20]⟩], L17, L34, [⟨b36, 24, [.int .i64 y_6, .int .i64 y_7, .int .i64 y_8, .slice a31 ((y_9).length) c32]⟩], L41, [⟨b43, 24, [.int .i64 y_11, .int .i64 y_12, .int .i64 y_13, .slice a38 ((y_14).length) c39]⟩], L48]) (fun _ h => h) ?_
          refine WO_pure tbok 3 [(3, .pointer (some ⟨b3, 0, none⟩)), (6, .bool false), (7, .int .i64 (Int.tmod (w64 (p1)) 4)), (11, .pointer (some ⟨b36, 0, none⟩)), (12, .int .i64 y_10), (14, .int .i64 y_15), (105, .agg #[.int .i64 y_16, .int .i64 y_17, .int .i64 y_18, .slice a45 ((y_19).length) c46]), (106, .int .i64 y_20)] rfl ⟨rfl, rfl, rfl, rfl, rfl, rfl, rfl, rfl, trivial⟩ ?_
          refine WO_alloc tbok [.int .i64 0, .int .i64 0, .int .i64 0, .slice none 0 0] rfl rfl trivial rfl rfl rfl rfl (fun b50 => ?_)
          refine WO.cls (C' := St w0 m m [[⟨b3, 24, [.int .i64 p0_0, .int .i64 p0_1, .int .i64 p0_2, .slice a_p0_3 p0_3.length c_p0_3]⟩], [⟨b9, 24, [.int .i64 p0_0, .int .i64 p0_1, .int .i64 p0_2, .slice a18 ((l_5).length) c20]⟩], L17, L34, [⟨b36, 24, [.int .i64 y_6, .int .i64 y_7, .int .i64 y_8, .slice a31 ((y_9).length) c32]⟩], L41, [⟨b43, 24, [.int .i64 y_11, .int .i64 y_12, .int .i64 y_13, .slice a38 ((y_14).length) c39]⟩], L48, [⟨b50, 32, [.int .i64 0, .int .i64 0, .int .i64 0, .slice none 0 0]⟩]]) (fun _ h => h) ?_
          refine WO_storeB tbok 8 [.int .i64 y_16, .int .i64 y_17, .int .i64 y_18, .slice a45 ((y_19).length) c46] rfl rfl rfl rfl rfl rfl rfl ?_
          refine WO.cls (C' := St w0 m m [[⟨b3, 24, [.int .i64 p0_0, .int .i64 p0_1, .int .i64 p0_2, .slice a_p0_3 p0_3.length c_p0_3]⟩], [⟨b9, 24, [.int .i64 p0_0, .int .i64 p0_1, .int .i64 p0_2, .slice a18 ((l_5).length) c20]⟩], L17, L34, [⟨b36, 24, [.int .i64 y_6, .int .i64 y_7, .int .i64 y_8, .slice a31 ((y_9).length) c32]⟩], L41, [⟨b43, 24, [.int .i64 y_11, .int .i64 y_12, .int .i64 y_13, .slice a38 ((y_14).length) c39]⟩], L48, [⟨b50, 32, [.int .i64 y_16, .int .i64 y_17, .int .i64 y_18, .slice a45 ((y_19).length) c46]⟩]]) (fun _ h => h) ?_
          refine WO_pure tbok 1 [(3, .pointer (some ⟨b3, 0, none⟩)), (6, .bool false), (7, .int .i64 (Int.tmod (w64 (p1)) 4)), (11, .pointer (some ⟨b36, 0, none⟩)), (12, .int .i64 y_10), (14, .int .i64 y_15), (15, .pointer (some ⟨b50, 0, none⟩)), (16, .int .i64 y_20)] rfl ⟨rfl, rfl, rfl, rfl, rfl, rfl, rfl, rfl, trivial⟩ ?_
          refine WO_end ?_
          refine WK_seq ?_
          refine WK_region ?_
          refine WO_loadB tbok 8 rfl rfl rfl rfl (fun _ h => h) rfl rfl ?_
          obtain ⟨⟨y_21, y_22⟩, hc51, hm⟩ := bind_some hm
          refine WO_call1 (census_Best_Q (y_21, y_22)) rfl rfl trivial rfl rfl rfl rfl ⟨10, #[], #[], rfl, callable_10, fun w hw => ⟨_, hw.satV, census_Best_walk (OwnE.rd (E := (I1 .i64)) (k := 1) (fun _ => rfl) hL48 (fun _ hx => hw.memV (i := 7) rfl hx)) hc51⟩⟩ (fun v56 L55 hq => ?_)
          obtain ⟨a52, qa52, c53, rfl, hL55⟩ := hq
          obtain rfl := OwnE.qlen hL55
          refine WO.cls (C' := St w0 m m [[⟨b3, 24, [.int .i64 p0_0, .int .i64 p0_1, .int .i64 p0_2, .slice a_p0_3 p0_3.length c_p0_3]⟩], [⟨b9, 24, [.int .i64 p0_0, .int .i64 p0_1, .int .i64 p0_2, .slice a18 ((l_5).length) c20]⟩], L17, L34, [⟨b36, 24, [.int .i64 y_6, .int .i64 y_7, .int .i64 y_8, .slice a31 ((y_9).length) c32]⟩], L41, [⟨b43, 24, [.int .i64 y_11, .int .i64 y_12, .int .i64 y_13, .slice a38 ((y_14).length) c39]⟩], L48, [⟨b50, 32, [.int .i64 y_16, .int .i64 y_17, .int .i64 y_18, .slice a45 ((y_19).length) c46]⟩], L55]) (fun _ h => h) ?_
          refine WO_pure tbok 5 [(3, .pointer (some ⟨b3, 0, none⟩)), (6, .bool false), (7, .int .i64 (Int.tmod (w64 (p1)) 4)), (11, .pointer (some ⟨b36, 0, none⟩)), (12, .int .i64 y_10), (14, .int .i64 y_15), (15, .pointer (some ⟨b50, 0, none⟩)), (16, .int .i64 y_20), (17, .slice a52 ((y_21).length) c53), (18, .int .i64 y_22)] rfl ⟨rfl, rfl, rfl, rfl, rfl, rfl, rfl, rfl, rfl, rfl, trivial⟩ ?_
          refine WO_end ?_
          refine WK_seq ?_
          refine WK_seq ?_
          obtain ⟨s_23, hx57, hm⟩ := bind_some hm
          refine WK_meet [(3, .pointer (some ⟨b3, 0, none⟩)), (6, .bool false), (7, .int .i64 (Int.tmod (w64 (p1)) 4)), (11, .pointer (some ⟨b36, 0, none⟩)), (15, .pointer (some ⟨b50, 0, none⟩)), (17, .slice a52 ((y_21).length) c53), (137, .bool s_23)] (St w0 m m [[⟨b3, 24, [.int .i64 p0_0, .int .i64 p0_1, .int .i64 p0_2, .slice a_p0_3 p0_3.length c_p0_3]⟩], [⟨b9, 24, [.int .i64 p0_0, .int .i64 p0_1, .int .i64 p0_2, .slice a18 ((l_5).length) c20]⟩], L17, L34, [⟨b36, 24, [.int .i64 y_6, .int .i64 y_7, .int .i64 y_8, .slice a31 ((y_9).length) c32]⟩], L41, [⟨b43, 24, [.int .i64 y_11, .int .i64 y_12, .int .i64 y_13, .slice a38 ((y_14).length) c39]⟩], L48, [⟨b50, 32, [.int .i64 y_16, .int .i64 y_17, .int .i64 y_18, .slice a45 ((y_19).length) c46]⟩], L55]) ?_ (fun hk58 => ?_)
          · refine WK_cond (b := s_23) rfl (fun hb59 => ?_) (fun hb59 => ?_)
            · have hm := ifT hb59 hm
              refine WK_seq ?_
              refine WK_region ?_
              refine WO_pure tbok 1 [(3, .pointer (some ⟨b3, 0, none⟩)), (6, .bool false), (7, .int .i64 (Int.tmod (w64 (p1)) 4)), (11, .pointer (some ⟨b36, 0, none⟩)), (15, .pointer (some ⟨b50, 0, none⟩)), (17, .slice a52 ((y_21).length) c53)] rfl ⟨rfl, rfl, rfl, rfl, rfl, rfl, trivial⟩ ?_
              refine WO_end ?_
              cases hm
              exact WK_ret (ret_out (L := []) (RLc_tmp rfl RLc_nil) (List.nil_sublist _) rfl)
            · have hm := ifF hb59 hm
              refine WK_skip ?_
              refine WK_seq ?_
              refine WK_seq ?_
              refine WK_region ?_
              refine WO_pure tbok 1 [(3, .pointer (some ⟨b3, 0, none⟩)), (6, .bool false), (7, .int .i64 (Int.tmod (w64 (p1)) 4)), (11, .pointer (some ⟨b36, 0, none⟩)), (15, .pointer (some ⟨b50, 0, none⟩)), (17, .slice a52 ((y_21).length) c53), (138, .pointer (some ⟨b36, 3, none⟩))] rfl ⟨rfl, rfl, rfl, rfl, rfl, rfl, rfl, trivial⟩ ?_
              refine WO_loadB tbok 4 rfl rfl rfl rfl (fun _ h => h) rfl rfl ?_
              refine WO_pure tbok 2 [(3, .pointer (some ⟨b3, 0, none⟩)), (6, .bool false), (7, .int .i64 (Int.tmod (w64 (p1)) 4)), (11, .pointer (some ⟨b36, 0, none⟩)), (15, .pointer (some ⟨b50, 0, none⟩)), (17, .slice a52 ((y_21).length) c53), (140, .int .i64 ((y_9).length : Int)), (141, .int .i64 0)] rfl ⟨rfl, rfl, rfl, rfl, rfl, rfl, rfl, rfl, trivial⟩ ?_
              refine WO_end ?_
              obtain ⟨x60, hx61, hm⟩ := bind_some hm
              refine WK_join (β := Unit × Unit) (fun p => Sum.inr p.1 = x60) (fun p => [(6, .bool false)]) (fun p => St w0 m m [[⟨b3, 24, [.int .i64 p0_0, .int .i64 p0_1, .int .i64 p0_2, .slice a_p0_3 p0_3.length c_p0_3]⟩], [⟨b9, 24, [.int .i64 p0_0, .int .i64 p0_1, .int .i64 p0_2, .slice a18 ((l_5).length) c20]⟩], L17, L34, [⟨b36, 24, [.int .i64 y_6, .int .i64 y_7, .int .i64 y_8, .slice a31 ((y_9).length) c32]⟩], L41, [⟨b43, 24, [.int .i64 y_11, .int .i64 y_12, .int .i64 y_13, .slice a38 ((y_14).length) c39]⟩], L48, [⟨b50, 32, [.int .i64 y_16, .int .i64 y_17, .int .i64 y_18, .slice a45 ((y_19).length) c46]⟩], L55]) ?_ (fun hk62 => ?_)
              · rintro ⟨⟨⟩, ⟨⟩⟩ hq68
                subst hq68
                refine WK.sub (e' := [(6, .bool false)]) ⟨rfl, trivial⟩ (WK.cls (C' := St w0 m m [[⟨b3, 24, [.int .i64 p0_0, .int .i64 p0_1, .int .i64 p0_2, .slice a_p0_3 p0_3.length c_p0_3]⟩], [⟨b9, 24, [.int .i64 p0_0, .int .i64 p0_1, .int .i64 p0_2, .slice a18 ((l_5).length) c20]⟩], L17, L34, [⟨b36, 24, [.int .i64 y_6, .int .i64 y_7, .int .i64 y_8, .slice a31 ((y_9).length) c32]⟩], L41, [⟨b43, 24, [.int .i64 y_11, .int .i64 y_12, .int .i64 y_13, .slice a38 ((y_14).length) c39]⟩], L48, [⟨b50, 32, [.int .i64 y_16, .int .i64 y_17, .int .i64 y_18, .slice a45 ((y_19).length) c46]⟩], L55]) (fun _ h => h) ?_)
                refine WK_seq ?_
                refine WK_region ?_
                refine WO_pure tbok 1 [(6, .bool true)] rfl ⟨rfl, trivial⟩ ?_
                refine WO_end ?_
                cases hm
                exact WK_ret (ret_out (L := []) (RLc_tmp rfl RLc_nil) (List.nil_sublist _) rfl)
              · refine WK_block ?_
                refine WK_loop (S := Int) (G := Unit) (fun s => fiducialtop_TopCoarse_s2 p0_0 p1 y_6 y_9 y_19 y_21 s) (fun s g => [(3, .pointer (some ⟨b3, 0, none⟩)), (6, .bool false), (7, .int .i64 (Int.tmod (w64 (p1)) 4)), (11, .pointer (some ⟨b36, 0, none⟩)), (15, .pointer (some ⟨b50, 0, none⟩)), (17, .slice a52 ((y_21).length) c53), (140, .int .i64 ((y_9).length : Int)), (141, .int .i64 s)]) (fun s g => St w0 m m [[⟨b3, 24, [.int .i64 p0_0, .int .i64 p0_1, .int .i64 p0_2, .slice a_p0_3 p0_3.length c_p0_3]⟩], [⟨b9, 24, [.int .i64 p0_0, .int .i64 p0_1, .int .i64 p0_2, .slice a18 ((l_5).length) c20]⟩], L17, L34, [⟨b36, 24, [.int .i64 y_6, .int .i64 y_7, .int .i64 y_8, .slice a31 ((y_9).length) c32]⟩], L41, [⟨b43, 24, [.int .i64 y_11, .int .i64 y_12, .int .i64 y_13, .slice a38 ((y_14).length) c39]⟩], L48, [⟨b50, 32, [.int .i64 y_16, .int .i64 y_17, .int .i64 y_18, .slice a45 ((y_19).length) c46]⟩], L55]) (fun s g => True) FUEL 0 () x60 hx61 trivial ⟨rfl, rfl, rfl, rfl, rfl, rfl, rfl, rfl, trivial⟩ (fun _ h => h) ?_
                rintro s_24 ⟨⟩ o64 fl65 hm63 - hn66 hd67
                have hm63 : fiducialtop_TopCoarse_s2 p0_0 p1 y_6 y_9 y_19 y_21 s_24 = some o64 := hm63
                unfold fiducialtop_TopCoarse_s2 at hm63
                refine WK.sub (e' := [(3, .pointer (some ⟨b3, 0, none⟩)), (6, .bool false), (7, .int .i64 (Int.tmod (w64 (p1)) 4)), (11, .pointer (some ⟨b36, 0, none⟩)), (15, .pointer (some ⟨b50, 0, none⟩)), (17, .slice a52 ((y_21).length) c53), (140, .int .i64 ((y_9).length : Int)), (141, .int .i64 s_24)]) ⟨rfl, rfl, rfl, rfl, rfl, rfl, rfl, rfl, trivial⟩ (WK.cls (C' := St w0 m m [[⟨b3, 24, [.int .i64 p0_0, .int .i64 p0_1, .int .i64 p0_2, .slice a_p0_3 p0_3.length c_p0_3]⟩], [⟨b9, 24, [.int .i64 p0_0, .int .i64 p0_1, .int .i64 p0_2, .slice a18 ((l_5).length) c20]⟩], L17, L34, [⟨b36, 24, [.int .i64 y_6, .int .i64 y_7, .int .i64 y_8, .slice a31 ((y_9).length) c32]⟩], L41, [⟨b43, 24, [.int .i64 y_11, .int .i64 y_12, .int .i64 y_13, .slice a38 ((y_14).length) c39]⟩], L48, [⟨b50, 32, [.int .i64 y_16, .int .i64 y_17, .int .i64 y_18, .slice a45 ((y_19).length) c46]⟩], L55]) (fun _ h => h) ?_)
                refine WK_seq ?_
                refine WK_region ?_
                refine WO_pure tbok 1 [(3, .pointer (some ⟨b3, 0, none⟩)), (6, .bool false), (7, .int .i64 (Int.tmod (w64 (p1)) 4)), (11, .pointer (some ⟨b36, 0, none⟩)), (15, .pointer (some ⟨b50, 0, none⟩)), (17, .slice a52 ((y_21).length) c53), (140, .int .i64 ((y_9).length : Int)), (141, .int .i64 s_24), (142, .bool (decide (s_24 < ((y_9).length : Int))))] rfl ⟨rfl, rfl, rfl, rfl, rfl, rfl, rfl, rfl, rfl, trivial⟩ ?_
                refine WO_end ?_
                refine WK_seq ?_
                refine WK_cond (b := decide (s_24 < ((y_9).length : Int))) rfl (fun hb69 => ?_) (fun hb69 => ?_)
                · have hm63 := ifT hb69 hm63
                  refine WK_skip ?_
                  refine WK_seq ?_
                  refine WK_block ?_
                  refine WK_seq ?_
                  refine WK_region ?_
                  refine WO_pure tbok 2 [(3, .pointer (some ⟨b3, 0, none⟩)), (6, .bool false), (7, .int .i64 (Int.tmod (w64 (p1)) 4)), (11, .pointer (some ⟨b36, 0, none⟩)), (15, .pointer (some ⟨b50, 0, none⟩)), (17, .slice a52 ((y_21).length) c53), (19, .int .i64 s_24), (140, .int .i64 ((y_9).length : Int)), (141, .int .i64 s_24)] rfl ⟨rfl, rfl, rfl, rfl, rfl, rfl, rfl, rfl, rfl, trivial⟩ ?_
                  refine WO_end ?_
                  refine WK_seq ?_
                  refine WK_region ?_
                  refine WO_pure tbok 2 [(3, .pointer (some ⟨b3, 0, none⟩)), (6, .bool false), (7, .int .i64 (Int.tmod (w64 (p1)) 4)), (11, .pointer (some ⟨b36, 0, none⟩)), (15, .pointer (some ⟨b50, 0, none⟩)), (17, .slice a52 ((y_21).length) c53), (19, .int .i64 s_24), (140, .int .i64 ((y_9).length : Int)), (141, .int .i64 s_24), (144, .int .i64 s_24), (145, .pointer (some ⟨b36, 0, none⟩))] rfl ⟨rfl, rfl, rfl, rfl, rfl, rfl, rfl, rfl, rfl, rfl, rfl, trivial⟩ ?_
                  refine WO_loadB tbok 4 rfl rfl rfl rfl (fun _ h => h) rfl rfl ?_
                  obtain ⟨hc70, hm63⟩ := chk_some hm63
                  refine WO_rem rfl rfl rfl rfl rfl hc70 ?_
                  refine WO_pure tbok 1 [(3, .pointer (some ⟨b3, 0, none⟩)), (6, .bool false), (7, .int .i64 (Int.tmod (w64 (p1)) 4)), (11, .pointer (some ⟨b36, 0, none⟩)), (15, .pointer (some ⟨b50, 0, none⟩)), (17, .slice a52 ((y_21).length) c53), (19, .int .i64 s_24), (20, .int .i64 (Int.tmod s_24 y_6)), (140, .int .i64 ((y_9).length : Int)), (141, .int .i64 s_24)] rfl ⟨rfl, rfl, rfl, rfl, rfl, rfl, rfl, rfl, rfl, rfl, trivial⟩ ?_
                  refine WO_end ?_
                  refine WK_seq ?_
                  refine WK_seq ?_
                  obtain ⟨s_25, hx71, hm63⟩ := bind_some hm63
                  refine WK_meet [(3, .pointer (some ⟨b3, 0, none⟩)), (6, .bool false), (7, .int .i64 (Int.tmod (w64 (p1)) 4)), (11, .pointer (some ⟨b36, 0, none⟩)), (15, .pointer (some ⟨b50, 0, none⟩)), (17, .slice a52 ((y_21).length) c53), (19, .int .i64 s_24), (140, .int .i64 ((y_9).length : Int)), (141, .int .i64 s_24), (160, .bool s_25)] (St w0 m m [[⟨b3, 24, [.int .i64 p0_0, .int .i64 p0_1, .int .i64 p0_2, .slice a_p0_3 p0_3.length c_p0_3]⟩], [⟨b9, 24, [.int .i64 p0_0, .int .i64 p0_1, .int .i64 p0_2, .slice a18 ((l_5).length) c20]⟩], L17, L34, [⟨b36, 24, [.int .i64 y_6, .int .i64 y_7, .int .i64 y_8, .slice a31 ((y_9).length) c32]⟩], L41, [⟨b43, 24, [.int .i64 y_11, .int .i64 y_12, .int .i64 y_13, .slice a38 ((y_14).length) c39]⟩], L48, [⟨b50, 32, [.int .i64 y_16, .int .i64 y_17, .int .i64 y_18, .slice a45 ((y_19).length) c46]⟩], L55]) ?_ (fun hk72 => ?_)
                  · refine WK_cond (b := s_25) rfl (fun hb73 => ?_) (fun hb73 => ?_)
                    · have hm63 := ifT hb73 hm63
                      refine WK_exit rfl ?_
                      refine WK_region ?_
                      refine WO_pure tbok 2 [(3, .pointer (some ⟨b3, 0, none⟩)), (6, .bool false), (7, .int .i64 (Int.tmod (w64 (p1)) 4)), (11, .pointer (some ⟨b36, 0, none⟩)), (15, .pointer (some ⟨b50, 0, none⟩)), (17, .slice a52 ((y_21).length) c53), (140, .int .i64 ((y_9).length : Int)), (141, .int .i64 (w64 (s_24 + 1)))] rfl ⟨rfl, rfl, rfl, rfl, rfl, rfl, rfl, rfl, trivial⟩ ?_
                      refine WO_end ?_
                      cases hm63
                      refine WK.sub ?_ (WK.cls (fun _ h => h) (hn66 _ () rfl trivial))
                      exact ⟨rfl, rfl, rfl, rfl, rfl, rfl, rfl, rfl, trivial⟩
                    · have hm63 := ifF hb73 hm63
                      refine WK_skip ?_
                      refine WK_seq ?_
                      obtain ⟨s_26, hx74, hm63⟩ := bind_some hm63
                      refine WK_meet [(3, .pointer (some ⟨b3, 0, none⟩)), (6, .bool false), (7, .int .i64 (Int.tmod (w64 (p1)) 4)), (11, .pointer (some ⟨b36, 0, none⟩)), (15, .pointer (some ⟨b50, 0, none⟩)), (17, .slice a52 ((y_21).length) c53), (140, .int .i64 ((y_9).length : Int)), (141, .int .i64 s_24), (191, .bool s_26)] (St w0 m m [[⟨b3, 24, [.int .i64 p0_0, .int .i64 p0_1, .int .i64 p0_2, .slice a_p0_3 p0_3.length c_p0_3]⟩], [⟨b9, 24, [.int .i64 p0_0, .int .i64 p0_1, .int .i64 p0_2, .slice a18 ((l_5).length) c20]⟩], L17, L34, [⟨b36, 24, [.int .i64 y_6, .int .i64 y_7, .int .i64 y_8, .slice a31 ((y_9).length) c32]⟩], L41, [⟨b43, 24, [.int .i64 y_11, .int .i64 y_12, .int .i64 y_13, .slice a38 ((y_14).length) c39]⟩], L48, [⟨b50, 32, [.int .i64 y_16, .int .i64 y_17, .int .i64 y_18, .slice a45 ((y_19).length) c46]⟩], L55]) ?_ (fun hk75 => ?_)
                      · refine WK_cond (b := s_26) rfl (fun hb76 => ?_) (fun hb76 => ?_)
                        · have hm63 := ifT hb76 hm63
                          refine WK_seq ?_
                          refine WK_region ?_
                          refine WO_pure tbok 1 [(3, .pointer (some ⟨b3, 0, none⟩)), (6, .bool false), (7, .int .i64 (Int.tmod (w64 (p1)) 4)), (11, .pointer (some ⟨b36, 0, none⟩)), (15, .pointer (some ⟨b50, 0, none⟩)), (17, .slice a52 ((y_21).length) c53), (140, .int .i64 ((y_9).length : Int)), (141, .int .i64 s_24)] rfl ⟨rfl, rfl, rfl, rfl, rfl, rfl, rfl, rfl, trivial⟩ ?_
                          refine WO_end ?_
                          cases hm63
                          have hq := hd67 _ rfl
                          subst hq
                          have hm : some _ = some _ := hm
                          cases hm
                          exact WK_ret (ret_out (L := []) (RLc_tmp rfl RLc_nil) (List.nil_sublist _) rfl)
                        · have hm63 := ifF hb76 hm63
                          refine WK_skip ?_
                          refine WK_blk ?_
                          refine WK_region ?_
                          refine WO_pure tbok 2 [(3, .pointer (some ⟨b3, 0, none⟩)), (6, .bool false), (7, .int .i64 (Int.tmod (w64 (p1)) 4)), (11, .pointer (some ⟨b36, 0, none⟩)), (15, .pointer (some ⟨b50, 0, none⟩)), (17, .slice a52 ((y_21).length) c53), (140, .int .i64 ((y_9).length : Int)), (141, .int .i64 (w64 (s_24 + 1)))] rfl ⟨rfl, rfl, rfl, rfl, rfl, rfl, rfl, rfl, trivial⟩ ?_
                          refine WO_end ?_
                          cases hm63
                          refine WK.sub ?_ (WK.cls (fun _ h => h) (hn66 _ () rfl trivial))
                          exact ⟨rfl, rfl, rfl, rfl, rfl, rfl, rfl, rfl, trivial⟩
                      · refine WK_draw 31 [0, 1, 2, 3, 4, 5, 6, 7, 8, 9, 10, 11, 12, 13, 14, 15, 16, 17, 18, 19, 20, 21, 22, 23, 24, 25, 26, 27, 28, 29, 30] follows_ok (by kernel_rfl) St_closed ?_
                        refine WO_pure tbok 1 [(3, .pointer (some ⟨b3, 0, none⟩)), (6, .bool false), (7, .int .i64 (Int.tmod (w64 (p1)) 4)), (11, .pointer (some ⟨b36, 0, none⟩)), (15, .pointer (some ⟨b50, 0, none⟩)), (17, .slice a52 ((y_21).length) c53), (19, .int .i64 s_24), (140, .int .i64 ((y_9).length : Int)), (141, .int .i64 s_24), (161, .pointer (some ⟨b50, 3, none⟩))] rfl ⟨rfl, rfl, rfl, rfl, rfl, rfl, rfl, rfl, rfl, rfl, trivial⟩ ?_
                        refine WO_loadB tbok 8 rfl rfl rfl rfl (fun _ h => h) rfl rfl ?_
                        refine WO_pure tbok 4 [(3, .pointer (some ⟨b3, 0, none⟩)), (6, .bool false), (7, .int .i64 (Int.tmod (w64 (p1)) 4)), (11, .pointer (some ⟨b36, 0, none⟩)), (15, .pointer (some ⟨b50, 0, none⟩)), (17, .slice a52 ((y_21).length) c53), (19, .int .i64 s_24), (140, .int .i64 ((y_9).length : Int)), (141, .int .i64 s_24), (162, .slice a45 ((y_19).length) c46), (166, .int .i64 (w64 ((w64 (5 * s_24)) + (Int.tmod (w64 (p1)) 4))))] rfl ⟨rfl, rfl, rfl, rfl, rfl, rfl, rfl, rfl, rfl, rfl, rfl, trivial⟩ ?_
                        obtain ⟨v_27, hy77, hx74⟩ := bind_some hx74
                        obtain ⟨hc78, hy77⟩ := ix_some hy77
                        refine WO_index tbok rfl rfl rfl rfl rfl rfl rfl rfl (OwnE.addr hL48) (by simpa using hc78) ?_
                        refine WO_loadO (E := (I1 .i64)) tbok (fun _ => rfl) 7 rfl rfl rfl rfl (fun _ h => h) hL48 rfl hy77 rfl ?_
                        refine WO_pure tbok 2 [(3, .pointer (some ⟨b3, 0, none⟩)), (6, .bool false), (7, .int .i64 (Int.tmod (w64 (p1)) 4)), (11, .pointer (some ⟨b36, 0, none⟩)), (15, .pointer (some ⟨b50, 0, none⟩)), (17, .slice a52 ((y_21).length) c53), (19, .int .i64 s_24), (140, .int .i64 ((y_9).length : Int)), (141, .int .i64 s_24), (170, .bool (v_27 != 0))] rfl ⟨rfl, rfl, rfl, rfl, rfl, rfl, rfl, rfl, rfl, rfl, trivial⟩ ?_
                        refine WO_split (d := 170) (b := v_27 != 0) rfl (fun hb79 => ?_) (fun hb79 => ?_)
                        · have hx74 := ifT hb79 hx74
                          refine WO_pure tbok 21 [(3, .pointer (some ⟨b3, 0, none⟩)), (6, .bool false), (7, .int .i64 (Int.tmod (w64 (p1)) 4)), (11, .pointer (some ⟨b36, 0, none⟩)), (15, .pointer (some ⟨b50, 0, none⟩)), (17, .slice a52 ((y_21).length) c53), (140, .int .i64 ((y_9).length : Int)), (141, .int .i64 s_24), (191, .bool true)] rfl ⟨rfl, rfl, rfl, rfl, rfl, rfl, rfl, rfl, rfl, trivial⟩ ?_
                          refine WO_tail ?_
                          refine WO_end ?_
                          cases hx74
                          refine WK.sub ?_ (WK.cls (fun _ h => h) hk75)
                          exact ⟨rfl, rfl, rfl, rfl, rfl, rfl, rfl, rfl, rfl, trivial⟩
                        · have hx74 := ifF hb79 hx74
                          refine WO_pure tbok 1 [(3, .pointer (some ⟨b3, 0, none⟩)), (6, .bool false), (7, .int .i64 (Int.tmod (w64 (p1)) 4)), (11, .pointer (some ⟨b36, 0, none⟩)), (15, .pointer (some ⟨b50, 0, none⟩)), (17, .slice a52 ((y_21).length) c53), (19, .int .i64 s_24), (140, .int .i64 ((y_9).length : Int)), (141, .int .i64 s_24), (170, .bool false), (171, .pointer (some ⟨b50, 3, none⟩))] rfl ⟨rfl, rfl, rfl, rfl, rfl, rfl, rfl, rfl, rfl, rfl, rfl, trivial⟩ ?_
                          refine WO_loadB tbok 8 rfl rfl rfl rfl (fun _ h => h) rfl rfl ?_
                          refine WO_pure tbok 4 [(3, .pointer (some ⟨b3, 0, none⟩)), (6, .bool false), (7, .int .i64 (Int.tmod (w64 (p1)) 4)), (11, .pointer (some ⟨b36, 0, none⟩)), (15, .pointer (some ⟨b50, 0, none⟩)), (17, .slice a52 ((y_21).length) c53), (19, .int .i64 s_24), (140, .int .i64 ((y_9).length : Int)), (141, .int .i64 s_24), (170, .bool false), (172, .slice a45 ((y_19).length) c46), (174, .int .i64 (w64 (5 * s_24))), (175, .slice a52 ((y_21).length) c53), (176, .int .i64 s_24)] rfl ⟨rfl, rfl, rfl, rfl, rfl, rfl, rfl, rfl, rfl, rfl, rfl, rfl, rfl, rfl, trivial⟩ ?_
                          obtain ⟨v_28, hy80, hx74⟩ := bind_some hx74
                          obtain ⟨hc81, hy80⟩ := ix_some hy80
                          refine WO_index tbok rfl rfl rfl rfl rfl rfl rfl rfl (OwnE.addr hL55) (by simpa using hc81) ?_
                          refine WO_loadO (E := (I1 .i64)) tbok (fun _ => rfl) 9 rfl rfl rfl rfl (fun _ h => h) hL55 rfl hy80 rfl ?_
                          refine WO_pure tbok 1 [(3, .pointer (some ⟨b3, 0, none⟩)), (6, .bool false), (7, .int .i64 (Int.tmod (w64 (p1)) 4)), (11, .pointer (some ⟨b36, 0, none⟩)), (15, .pointer (some ⟨b50, 0, none⟩)), (17, .slice a52 ((y_21).length) c53), (19, .int .i64 s_24), (140, .int .i64 ((y_9).length : Int)), (141, .int .i64 s_24), (170, .bool false), (172, .slice a45 ((y_19).length) c46), (179, .int .i64 (w64 ((w64 (5 * s_24)) + v_28)))] rfl ⟨rfl, rfl, rfl, rfl, rfl, rfl, rfl, rfl, rfl, rfl, rfl, rfl, trivial⟩ ?_
                          obtain ⟨v_29, hy82, hx74⟩ := bind_some hx74
                          obtain ⟨hc83, hy82⟩ := ix_some hy82
                          refine WO_index tbok rfl rfl rfl rfl rfl rfl rfl rfl (OwnE.addr hL48) (by simpa using hc83) ?_
                          refine WO_loadO (E := (I1 .i64)) tbok (fun _ => rfl) 7 rfl rfl rfl rfl (fun _ h => h) hL48 rfl hy82 rfl ?_
                          refine WO_pure tbok 3 [(3, .pointer (some ⟨b3, 0, none⟩)), (6, .bool false), (7, .int .i64 (Int.tmod (w64 (p1)) 4)), (11, .pointer (some ⟨b36, 0, none⟩)), (15, .pointer (some ⟨b50, 0, none⟩)), (17, .slice a52 ((y_21).length) c53), (19, .int .i64 s_24), (140, .int .i64 ((y_9).length : Int)), (141, .int .i64 s_24), (184, .bool (v_29 != 0))] rfl ⟨rfl, rfl, rfl, rfl, rfl, rfl, rfl, rfl, rfl, rfl, trivial⟩ ?_
                          refine WO_split (d := 184) (b := v_29 != 0) rfl (fun hb84 => ?_) (fun hb84 => ?_)
                          · have hx74 := ifT hb84 hx74
                            refine WO_pure tbok 7 [(3, .pointer (some ⟨b3, 0, none⟩)), (6, .bool false), (7, .int .i64 (Int.tmod (w64 (p1)) 4)), (11, .pointer (some ⟨b36, 0, none⟩)), (15, .pointer (some ⟨b50, 0, none⟩)), (17, .slice a52 ((y_21).length) c53), (140, .int .i64 ((y_9).length : Int)), (141, .int .i64 s_24), (191, .bool true)] rfl ⟨rfl, rfl, rfl, rfl, rfl, rfl, rfl, rfl, rfl, trivial⟩ ?_
                            refine WO_tail ?_
                            refine WO_end ?_
                            cases hx74
                            refine WK.sub ?_ (WK.cls (fun _ h => h) hk75)
                            exact ⟨rfl, rfl, rfl, rfl, rfl, rfl, rfl, rfl, rfl, trivial⟩
                          · have hx74 := ifF hb84 hx74
                            refine WO_pure tbok 2 [(3, .pointer (some ⟨b3, 0, none⟩)), (6, .bool false), (7, .int .i64 (Int.tmod (w64 (p1)) 4)), (11, .pointer (some ⟨b36, 0, none⟩)), (15, .pointer (some ⟨b50, 0, none⟩)), (17, .slice a52 ((y_21).length) c53), (140, .int .i64 ((y_9).length : Int)), (141, .int .i64 s_24), (184, .bool false), (185, .slice a52 ((y_21).length) c53), (186, .int .i64 s_24)] rfl ⟨rfl, rfl, rfl, rfl, rfl, rfl, rfl, rfl, rfl, rfl, rfl, trivial⟩ ?_
                            obtain ⟨v_30, hy85, hx74⟩ := bind_some hx74
                            obtain ⟨hc86, hy85⟩ := ix_some hy85
                            refine WO_index tbok rfl rfl rfl rfl rfl rfl rfl rfl (OwnE.addr hL55) (by simpa using hc86) ?_
                            refine WO_loadO (E := (I1 .i64)) tbok (fun _ => rfl) 9 rfl rfl rfl rfl (fun _ h => h) hL55 rfl hy85 rfl ?_
                            refine WO_pure tbok 3 [(3, .pointer (some ⟨b3, 0, none⟩)), (6, .bool false), (7, .int .i64 (Int.tmod (w64 (p1)) 4)), (11, .pointer (some ⟨b36, 0, none⟩)), (15, .pointer (some ⟨b50, 0, none⟩)), (17, .slice a52 ((y_21).length) c53), (140, .int .i64 ((y_9).length : Int)), (141, .int .i64 s_24), (191, .bool (decide ((Int.tmod (w64 (p1)) 4) < v_30)))] rfl ⟨rfl, rfl, rfl, rfl, rfl, rfl, rfl, rfl, rfl, trivial⟩ ?_
                            refine WO_tail ?_
                            refine WO_end ?_
                            cases hx74
                            refine WK.sub ?_ (WK.cls (fun _ h => h) hk75)
                            exact ⟨rfl, rfl, rfl, rfl, rfl, rfl, rfl, rfl, rfl, trivial⟩
                  · refine WK_region ?_
                    refine WO_pure tbok 5 [(3, .pointer (some ⟨b3, 0, none⟩)), (6, .bool false), (7, .int .i64 (Int.tmod (w64 (p1)) 4)), (11, .pointer (some ⟨b36, 0, none⟩)), (15, .pointer (some ⟨b50, 0, none⟩)), (17, .slice a52 ((y_21).length) c53), (19, .int .i64 s_24), (20, .int .i64 (Int.tmod s_24 y_6)), (140, .int .i64 ((y_9).length : Int)), (141, .int .i64 s_24), (152, .bool (decide ((w64 ((Int.tmod s_24 y_6) - (Int.tmod (w64 (p1)) 4))) < 1)))] rfl ⟨rfl, rfl, rfl, rfl, rfl, rfl, rfl, rfl, rfl, rfl, rfl, trivial⟩ ?_
                    refine WO_split (d := 152) (b := decide ((w64 ((Int.tmod s_24 y_6) - (Int.tmod (w64 (p1)) 4))) < 1)) rfl (fun hb87 => ?_) (fun hb87 => ?_)
                    · have hx71 := ifT hb87 hx71
                      refine WO_pure tbok 8 [(3, .pointer (some ⟨b3, 0, none⟩)), (6, .bool false), (7, .int .i64 (Int.tmod (w64 (p1)) 4)), (11, .pointer (some ⟨b36, 0, none⟩)), (15, .pointer (some ⟨b50, 0, none⟩)), (17, .slice a52 ((y_21).length) c53), (19, .int .i64 s_24), (140, .int .i64 ((y_9).length : Int)), (141, .int .i64 s_24), (160, .bool true)] rfl ⟨rfl, rfl, rfl, rfl, rfl, rfl, rfl, rfl, rfl, rfl, trivial⟩ ?_
                      refine WO_end ?_
                      cases hx71
                      refine WK.sub ?_ (WK.cls (fun _ h => h) hk72)
                      exact ⟨rfl, rfl, rfl, rfl, rfl, rfl, rfl, rfl, rfl, rfl, trivial⟩
                    · have hx71 := ifF hb87 hx71
                      refine WO_pure tbok 4 [(3, .pointer (some ⟨b3, 0, none⟩)), (6, .bool false), (7, .int .i64 (Int.tmod (w64 (p1)) 4)), (11, .pointer (some ⟨b36, 0, none⟩)), (15, .pointer (some ⟨b50, 0, none⟩)), (17, .slice a52 ((y_21).length) c53), (19, .int .i64 s_24), (140, .int .i64 ((y_9).length : Int)), (141, .int .i64 s_24), (152, .bool false), (155, .int .i64 (w64 ((w64 (2 * (Int.tmod s_24 y_6))) + 1))), (156, .pointer (some ⟨b3, 0, none⟩))] rfl ⟨rfl, rfl, rfl, rfl, rfl, rfl, rfl, rfl, rfl, rfl, rfl, rfl, trivial⟩ ?_
                      refine WO_loadB tbok 0 rfl rfl rfl rfl (fun _ h => h) rfl rfl ?_
                      refine WO_pure tbok 3 [(3, .pointer (some ⟨b3, 0, none⟩)), (6, .bool false), (7, .int .i64 (Int.tmod (w64 (p1)) 4)), (11, .pointer (some ⟨b36, 0, none⟩)), (15, .pointer (some ⟨b50, 0, none⟩)), (17, .slice a52 ((y_21).length) c53), (19, .int .i64 s_24), (140, .int .i64 ((y_9).length : Int)), (141, .int .i64 s_24), (160, .bool (decide ((w64 (p0_0 - 1)) < (w64 ((w64 (2 * (Int.tmod s_24 y_6))) + 1)))))] rfl ⟨rfl, rfl, rfl, rfl, rfl, rfl, rfl, rfl, rfl, rfl, trivial⟩ ?_
                      refine WO_end ?_
                      cases hx71
                      refine WK.sub ?_ (WK.cls (fun _ h => h) hk72)
                      exact ⟨rfl, rfl, rfl, rfl, rfl, rfl, rfl, rfl, rfl, rfl, trivial⟩
                · have hm63 := ifF hb69 hm63
                  refine WK_exit rfl ?_
                  cases hm63
                  refine WK.sub ?_ (WK.cls (fun _ h => h) (hk62 ((), ()) (hd67 _ rfl)))
                  exact ⟨rfl, trivial⟩
          · refine WK_region ?_
            refine WO_pure tbok 9 [(3, .pointer (some ⟨b3, 0, none⟩)), (6, .bool false), (7, .int .i64 (Int.tmod (w64 (p1)) 4)), (11, .pointer (some ⟨b36, 0, none⟩)), (15, .pointer (some ⟨b50, 0, none⟩)), (17, .slice a52 ((y_21).length) c53), (120, .bool ((w64 ((w64 ((w64 (y_10 + y_15)) + y_20)) + y_22)) != 0))] rfl ⟨rfl, rfl, rfl, rfl, rfl, rfl, rfl, trivial⟩ ?_
            refine WO_split (d := 120) (b := (w64 ((w64 ((w64 (y_10 + y_15)) + y_20)) + y_22)) != 0) rfl (fun hb88 => ?_) (fun hb88 => ?_)
            · have hx57 := ifT hb88 hx57
              refine WO_pure tbok 17 [(3, .pointer (some ⟨b3, 0, none⟩)), (6, .bool false), (7, .int .i64 (Int.tmod (w64 (p1)) 4)), (11, .pointer (some ⟨b36, 0, none⟩)), (15, .pointer (some ⟨b50, 0, none⟩)), (17, .slice a52 ((y_21).length) c53), (137, .bool true)] rfl ⟨rfl, rfl, rfl, rfl, rfl, rfl, rfl, trivial⟩ ?_
              refine WO_end ?_
              cases hx57
              refine WK.sub ?_ (WK.cls (fun _ h => h) hk58)
              exact ⟨rfl, rfl, rfl, rfl, rfl, rfl, rfl, trivial⟩
            · have hx57 := ifF hb88 hx57
              refine WO_pure tbok 1 [(3, .pointer (some ⟨b3, 0, none⟩)), (6, .bool false), (7, .int .i64 (Int.tmod (w64 (p1)) 4)), (11, .pointer (some ⟨b36, 0, none⟩)), (15, .pointer (some ⟨b50, 0, none⟩)), (17, .slice a52 ((y_21).length) c53), (120, .bool false), (121, .pointer (some ⟨b50, 3, none⟩))] rfl ⟨rfl, rfl, rfl, rfl, rfl, rfl, rfl, rfl, trivial⟩ ?_
              refine WO_loadB tbok 8 rfl rfl rfl rfl (fun _ h => h) rfl rfl ?_
              refine WO_pure tbok 2 [(3, .pointer (some ⟨b3, 0, none⟩)), (6, .bool false), (7, .int .i64 (Int.tmod (w64 (p1)) 4)), (11, .pointer (some ⟨b36, 0, none⟩)), (15, .pointer (some ⟨b50, 0, none⟩)), (17, .slice a52 ((y_21).length) c53), (120, .bool false), (123, .int .i64 ((y_19).length : Int)), (124, .pointer (some ⟨b36, 3, none⟩))] rfl ⟨rfl, rfl, rfl, rfl, rfl, rfl, rfl, rfl, rfl, trivial⟩ ?_
              refine WO_loadB tbok 4 rfl rfl rfl rfl (fun _ h => h) rfl rfl ?_
              refine WO_pure tbok 5 [(3, .pointer (some ⟨b3, 0, none⟩)), (6, .bool false), (7, .int .i64 (Int.tmod (w64 (p1)) 4)), (11, .pointer (some ⟨b36, 0, none⟩)), (15, .pointer (some ⟨b50, 0, none⟩)), (17, .slice a52 ((y_21).length) c53), (130, .bool (((y_19).length : Int) != (w64 (5 * ((y_9).length : Int)))))] rfl ⟨rfl, rfl, rfl, rfl, rfl, rfl, rfl, trivial⟩ ?_
              refine WO_split (d := 130) (b := ((y_19).length : Int) != (w64 (5 * ((y_9).length : Int)))) rfl (fun hb89 => ?_) (fun hb89 => ?_)
              · have hx57 := ifT hb89 hx57
                refine WO_pure tbok 7 [(3, .pointer (some ⟨b3, 0, none⟩)), (6, .bool false), (7, .int .i64 (Int.tmod (w64 (p1)) 4)), (11, .pointer (some ⟨b36, 0, none⟩)), (15, .pointer (some ⟨b50, 0, none⟩)), (17, .slice a52 ((y_21).length) c53), (137, .bool true)] rfl ⟨rfl, rfl, rfl, rfl, rfl, rfl, rfl, trivial⟩ ?_
                refine WO_end ?_
                cases hx57
                refine WK.sub ?_ (WK.cls (fun _ h => h) hk58)
                exact ⟨rfl, rfl, rfl, rfl, rfl, rfl, rfl, trivial⟩
              · have hx57 := ifF hb89 hx57
                refine WO_pure tbok 3 [(3, .pointer (some ⟨b3, 0, none⟩)), (6, .bool false), (7, .int .i64 (Int.tmod (w64 (p1)) 4)), (11, .pointer (some ⟨b36, 0, none⟩)), (15, .pointer (some ⟨b50, 0, none⟩)), (17, .slice a52 ((y_21).length) c53), (130, .bool false), (132, .int .i64 ((y_21).length : Int)), (133, .pointer (some ⟨b36, 3, none⟩))] rfl ⟨rfl, rfl, rfl, rfl, rfl, rfl, rfl, rfl, rfl, trivial⟩ ?_
                refine WO_loadB tbok 4 rfl rfl rfl rfl (fun _ h => h) rfl rfl ?_
                refine WO_pure tbok 3 [(3, .pointer (some ⟨b3, 0, none⟩)), (6, .bool false), (7, .int .i64 (Int.tmod (w64 (p1)) 4)), (11, .pointer (some ⟨b36, 0, none⟩)), (15, .pointer (some ⟨b50, 0, none⟩)), (17, .slice a52 ((y_21).length) c53), (137, .bool (((y_21).length : Int) != ((y_9).length : Int)))] rfl ⟨rfl, rfl, rfl, rfl, rfl, rfl, rfl, trivial⟩ ?_
                refine WO_end ?_
                cases hx57
                refine WK.sub ?_ (WK.cls (fun _ h => h) hk58)
                exact ⟨rfl, rfl, rfl, rfl, rfl, rfl, rfl, trivial⟩
        · refine WK_block ?_
          refine WK_loop (S := List Int × Int) (G := Option Addr × Nat × Nat × List Ent) (fun s => fiducialtop_TopCoarse_s1 p0_0 p0_2 p0_3 p1 p2 s.1 s.2) (fun s g => [(2, .slice a_p2 p2.length c_p2), (3, .pointer (some ⟨b3, 0, none⟩)), (6, .bool false), (7, .int .i64 (Int.tmod (w64 (p1)) 4)), (8, .pointer (some ⟨b9, 0, none⟩)), (49, .int .i64 (p0_3.length : Int)), (50, .int .i64 s.2)]) (fun s g => St w0 m m [[⟨b3, 24, [.int .i64 p0_0, .int .i64 p0_1, .int .i64 p0_2, .slice a_p0_3 p0_3.length c_p0_3]⟩], [⟨b9, 24, [.int .i64 p0_0, .int .i64 p0_1, .int .i64 p0_2, .slice g.1 g.2.1 g.2.2.1]⟩], g.2.2.2]) (fun s g => OwnE 3 1 (I1 .i64) (.slice g.1 g.2.1 g.2.2.1) s.1 g.2.2.2) FUEL (([] : List Int), 0) (none, 0, 0, []) x21 hx22 (OwnE.nil (T := 3) (k := 1) (E := (I1 .i64)) none) ⟨rfl, rfl, rfl, rfl, rfl, rfl, rfl, trivial⟩ (fun _ h => h) ?_
          rintro ⟨l_3, s_4⟩ ⟨a13, q14, c15, L12⟩ o25 fl26 hm24 hL12 hn27 hd28
          have hm24 : fiducialtop_TopCoarse_s1 p0_0 p0_2 p0_3 p1 p2 l_3 s_4 = some o25 := hm24
          unfold fiducialtop_TopCoarse_s1 at hm24
          have hqq : q14 = l_3.length := OwnE.qlen hL12
          subst hqq
          refine WK.sub (e' := [(2, .slice a_p2 p2.length c_p2), (3, .pointer (some ⟨b3, 0, none⟩)), (6, .bool false), (7, .int .i64 (Int.tmod (w64 (p1)) 4)), (8, .pointer (some ⟨b9, 0, none⟩)), (49, .int .i64 (p0_3.length : Int)), (50, .int .i64 s_4)]) ⟨rfl, rfl, rfl, rfl, rfl, rfl, rfl, trivial⟩ (WK.cls (C' := St w0 m m [[⟨b3, 24, [.int .i64 p0_0, .int .i64 p0_1, .int .i64 p0_2, .slice a_p0_3 p0_3.length c_p0_3]⟩], [⟨b9, 24, [.int .i64 p0_0, .int .i64 p0_1, .int .i64 p0_2, .slice a13 ((l_3).length) c15]⟩], L12]) (fun _ h => h) ?_)
          refine WK_seq ?_
          refine WK_region ?_
          refine WO_pure tbok 1 [(2, .slice a_p2 p2.length c_p2), (3, .pointer (some ⟨b3, 0, none⟩)), (6, .bool false), (7, .int .i64 (Int.tmod (w64 (p1)) 4)), (8, .pointer (some ⟨b9, 0, none⟩)), (49, .int .i64 (p0_3.length : Int)), (50, .int .i64 s_4), (51, .bool (decide (s_4 < (p0_3.length : Int))))] rfl ⟨rfl, rfl, rfl, rfl, rfl, rfl, rfl, rfl, trivial⟩ ?_
          refine WO_end ?_
          refine WK_seq ?_
          refine WK_cond (b := decide (s_4 < (p0_3.length : Int))) rfl (fun hb90 => ?_) (fun hb90 => ?_)
          · have hm24 := ifT hb90 hm24
            refine WK_skip ?_
            refine WK_seq ?_
            refine WK_block ?_
            refine WK_seq ?_
            refine WK_region ?_
            refine WO_pure tbok 2 [(2, .slice a_p2 p2.length c_p2), (3, .pointer (some ⟨b3, 0, none⟩)), (6, .bool false), (7, .int .i64 (Int.tmod (w64 (p1)) 4)), (8, .pointer (some ⟨b9, 0, none⟩)), (9, .int .i64 s_4), (49, .int .i64 (p0_3.length : Int)), (50, .int .i64 s_4)] rfl ⟨rfl, rfl, rfl, rfl, rfl, rfl, rfl, rfl, trivial⟩ ?_
            refine WO_end ?_
            refine WK_seq ?_
            refine WK_region ?_
            refine WO_pure tbok 1 [(2, .slice a_p2 p2.length c_p2), (3, .pointer (some ⟨b3, 0, none⟩)), (6, .bool false), (7, .int .i64 (Int.tmod (w64 (p1)) 4)), (8, .pointer (some ⟨b9, 0, none⟩)), (9, .int .i64 s_4), (10, .int .i64 0), (49, .int .i64 (p0_3.length : Int)), (50, .int .i64 s_4)] rfl ⟨rfl, rfl, rfl, rfl, rfl, rfl, rfl, rfl, rfl, trivial⟩ ?_
            refine WO_end ?_
            refine WK_seq ?_
            refine WK_seq ?_
            refine WK_region ?_
            refine WO_pure tbok 4 [(2, .slice a_p2 p2.length c_p2), (3, .pointer (some ⟨b3, 0, none⟩)), (6, .bool false), (7, .int .i64 (Int.tmod (w64 (p1)) 4)), (8, .pointer (some ⟨b9, 0, none⟩)), (9, .int .i64 s_4), (10, .int .i64 0), (49, .int .i64 (p0_3.length : Int)), (50, .int .i64 s_4), (56, .bool (decide (s_4 < (p2.length : Int))))] rfl ⟨rfl, rfl, rfl, rfl, rfl, rfl, rfl, rfl, rfl, rfl, trivial⟩ ?_
            refine WO_end ?_
            obtain ⟨s_31, hx91, hm24⟩ := bind_some hm24
            refine WK_meet [(2, .slice a_p2 p2.length c_p2), (3, .pointer (some ⟨b3, 0, none⟩)), (6, .bool false), (7, .int .i64 (Int.tmod (w64 (p1)) 4)), (8, .pointer (some ⟨b9, 0, none⟩)), (9, .int .i64 s_4), (10, .int .i64 s_31), (49, .int .i64 (p0_3.length : Int)), (50, .int .i64 s_4)] (St w0 m m [[⟨b3, 24, [.int .i64 p0_0, .int .i64 p0_1, .int .i64 p0_2, .slice a_p0_3 p0_3.length c_p0_3]⟩], [⟨b9, 24, [.int .i64 p0_0, .int .i64 p0_1, .int .i64 p0_2, .slice a13 ((l_3).length) c15]⟩], L12]) ?_ (fun hk92 => ?_)
            · refine WK_seq ?_
              refine WK_seq ?_
              refine WK_draw 10 [0, 1, 2, 3, 4, 5, 6, 7, 8, 9] follows_ok (by kernel_rfl) St_closed ?_
              refine WO_pure tbok 2 [(2, .slice a_p2 p2.length c_p2), (3, .pointer (some ⟨b3, 0, none⟩)), (6, .bool false), (7, .int .i64 (Int.tmod (w64 (p1)) 4)), (8, .pointer (some ⟨b9, 0, none⟩)), (9, .int .i64 s_4), (10, .int .i64 s_31), (49, .int .i64 (p0_3.length : Int)), (50, .int .i64 s_4), (66, .int .i64 s_4), (67, .pointer (some ⟨b3, 0, none⟩))] rfl ⟨rfl, rfl, rfl, rfl, rfl, rfl, rfl, rfl, rfl, rfl, rfl, trivial⟩ ?_
              refine WO_loadB tbok 0 rfl rfl rfl rfl (fun _ h => h) rfl rfl ?_
              obtain ⟨hc93, hm24⟩ := chk_some hm24
              refine WO_rem rfl rfl rfl rfl rfl hc93 ?_
              refine WO_pure tbok 4 [(2, .slice a_p2 p2.length c_p2), (3, .pointer (some ⟨b3, 0, none⟩)), (6, .bool false), (7, .int .i64 (Int.tmod (w64 (p1)) 4)), (8, .pointer (some ⟨b9, 0, none⟩)), (9, .int .i64 s_4), (10, .int .i64 s_31), (49, .int .i64 (p0_3.length : Int)), (50, .int .i64 s_4), (72, .int .i64 (w64 ((Int.tmod s_4 p0_0) + (w64 (2 * (Int.tmod (w64 (p1)) 4)))))), (73, .pointer (some ⟨b3, 0, none⟩))] rfl ⟨rfl, rfl, rfl, rfl, rfl, rfl, rfl, rfl, rfl, rfl, rfl, trivial⟩ ?_
              refine WO_loadB tbok 0 rfl rfl rfl rfl (fun _ h => h) rfl rfl ?_
              refine WO_pure tbok 1 [(2, .slice a_p2 p2.length c_p2), (3, .pointer (some ⟨b3, 0, none⟩)), (6, .bool false), (7, .int .i64 (Int.tmod (w64 (p1)) 4)), (8, .pointer (some ⟨b9, 0, none⟩)), (9, .int .i64 s_4), (10, .int .i64 s_31), (49, .int .i64 (p0_3.length : Int)), (50, .int .i64 s_4), (75, .bool (decide ((w64 ((Int.tmod s_4 p0_0) + (w64 (2 * (Int.tmod (w64 (p1)) 4))))) < p0_0)))] rfl ⟨rfl, rfl, rfl, rfl, rfl, rfl, rfl, rfl, rfl, rfl, trivial⟩ ?_
              refine WO_tail ?_
              refine WO_end ?_
              obtain ⟨s_32, hx94, hm24⟩ := bind_some hm24
              refine WK_meet [(2, .slice a_p2 p2.length c_p2), (3, .pointer (some ⟨b3, 0, none⟩)), (6, .bool false), (7, .int .i64 (Int.tmod (w64 (p1)) 4)), (8, .pointer (some ⟨b9, 0, none⟩)), (10, .int .i64 s_32), (49, .int .i64 (p0_3.length : Int)), (50, .int .i64 s_4)] (St w0 m m [[⟨b3, 24, [.int .i64 p0_0, .int .i64 p0_1, .int .i64 p0_2, .slice a_p0_3 p0_3.length c_p0_3]⟩], [⟨b9, 24, [.int .i64 p0_0, .int .i64 p0_1, .int .i64 p0_2, .slice a13 ((l_3).length) c15]⟩], L12]) ?_ (fun hk95 => ?_)
              · refine WK_region ?_
                refine WO_pure tbok 1 [(2, .slice a_p2 p2.length c_p2), (3, .pointer (some ⟨b3, 0, none⟩)), (6, .bool false), (7, .int .i64 (Int.tmod (w64 (p1)) 4)), (8, .pointer (some ⟨b9, 0, none⟩)), (10, .int .i64 s_32), (49, .int .i64 (p0_3.length : Int)), (50, .int .i64 s_4), (84, .pointer (some ⟨b9, 3, none⟩))] rfl ⟨rfl, rfl, rfl, rfl, rfl, rfl, rfl, rfl, rfl, trivial⟩ ?_
                refine WO_loadB tbok 1 rfl rfl rfl rfl (fun _ h => h) rfl rfl ?_
                refine WO_pure tbok 1 [(2, .slice a_p2 p2.length c_p2), (3, .pointer (some ⟨b3, 0, none⟩)), (6, .bool false), (7, .int .i64 (Int.tmod (w64 (p1)) 4)), (8, .pointer (some ⟨b9, 0, none⟩)), (49, .int .i64 (p0_3.length : Int)), (50, .int .i64 s_4), (85, .slice a13 ((l_3).length) c15), (86, .int .i64 s_32)] rfl ⟨rfl, rfl, rfl, rfl, rfl, rfl, rfl, rfl, rfl, trivial⟩ ?_
                refine WO_bslice (E := (I1 .i64)) tbok (fun _ => rfl) (by decide) [.int .i64 s_32] ([s_32] : List Int) rfl rfl trivial rfl rfl rfl rfl rfl rfl rfl rfl rfl rfl rfl rfl (fun b96 hb96 => ?_)
                refine WO.cls (C' := St w0 m m [[⟨b3, 24, [.int .i64 p0_0, .int .i64 p0_1, .int .i64 p0_2, .slice a_p0_3 p0_3.length c_p0_3]⟩], [⟨b9, 24, [.int .i64 p0_0, .int .i64 p0_1, .int .i64 p0_2, .slice a13 ((l_3).length) c15]⟩], L12, [⟨b96, 3, ([s_32] : List Int).flatMap (I1 .i64)⟩]]) (fun _ h => h) ?_
                obtain ⟨hc98, hm24⟩ := chk_some hm24
                refine WO_append (E := (I1 .i64)) tbok (fun _ => rfl) 2 ([s_32] : List Int) (fun _ _ => rfl) rfl rfl rfl rfl rfl rfl rfl rfl rfl rfl rfl rfl hL12 rfl (src_seg (j := 3) rfl) (ap_ok (by decide) hc98) (ap_max hc98) (fun a99 c100 L101 hL101 => ?_)
                refine WO.cls (C' := St w0 m m [[⟨b3, 24, [.int .i64 p0_0, .int .i64 p0_1, .int .i64 p0_2, .slice a_p0_3 p0_3.length c_p0_3]⟩], [⟨b9, 24, [.int .i64 p0_0, .int .i64 p0_1, .int .i64 p0_2, .slice a13 ((l_3).length) c15]⟩], L101, [⟨b96, 3, ([s_32] : List Int).flatMap (I1 .i64)⟩]]) (fun _ h => h) ?_
                refine WO_pure tbok 1 [(2, .slice a_p2 p2.length c_p2), (3, .pointer (some ⟨b3, 0, none⟩)), (6, .bool false), (7, .int .i64 (Int.tmod (w64 (p1)) 4)), (8, .pointer (some ⟨b9, 0, none⟩)), (49, .int .i64 (p0_3.length : Int)), (50, .int .i64 s_4), (88, .slice a99 ((l_3 ++ ([s_32] : List Int)).length) c100), (89, .pointer (some ⟨b9, 3, none⟩))] rfl ⟨rfl, rfl, rfl, rfl, rfl, rfl, rfl, rfl, rfl, trivial⟩ ?_
                refine WO_storeB tbok 1 [.int .i64 p0_0, .int .i64 p0_1, .int .i64 p0_2, .slice a99 ((l_3 ++ ([s_32] : List Int)).length) c100] rfl rfl rfl rfl rfl rfl rfl ?_
                refine WO.cls (C' := St w0 m m [[⟨b3, 24, [.int .i64 p0_0, .int .i64 p0_1, .int .i64 p0_2, .slice a_p0_3 p0_3.length c_p0_3]⟩], [⟨b9, 24, [.int .i64 p0_0, .int .i64 p0_1, .int .i64 p0_2, .slice a99 ((l_3 ++ ([s_32] : List Int)).length) c100]⟩], L101, [⟨b96, 3, ([s_32] : List Int).flatMap (I1 .i64)⟩]]) (fun _ h => h) ?_
                refine WO_end ?_
                refine WK_blk ?_
                refine WK_region ?_
                refine WO_pure tbok 2 [(2, .slice a_p2 p2.length c_p2), (3, .pointer (some ⟨b3, 0, none⟩)), (6, .bool false), (7, .int .i64 (Int.tmod (w64 (p1)) 4)), (8, .pointer (some ⟨b9, 0, none⟩)), (49, .int .i64 (p0_3.length : Int)), (50, .int .i64 (w64 (s_4 + 1)))] rfl ⟨rfl, rfl, rfl, rfl, rfl, rfl, rfl, trivial⟩ ?_
                refine WO_end ?_
                cases hm24
                refine WK.sub ?_ (WK.cls (fun _ h => St.take 3 h) (hn27 _ (a99, (l_3 ++ ([s_32] : List Int)).length, c100, L101) rfl hL101))
                exact ⟨rfl, rfl, rfl, rfl, rfl, rfl, rfl, trivial⟩
              · refine WK_cond (b := decide ((w64 ((Int.tmod s_4 p0_0) + (w64 (2 * (Int.tmod (w64 (p1)) 4))))) < p0_0)) rfl (fun hb103 => ?_) (fun hb103 => ?_)
                · have hx94 := ifT hb103 hx94
                  refine WK_region ?_
                  refine WO_pure tbok 1 [(2, .slice a_p2 p2.length c_p2), (3, .pointer (some ⟨b3, 0, none⟩)), (6, .bool false), (7, .int .i64 (Int.tmod (w64 (p1)) 4)), (8, .pointer (some ⟨b9, 0, none⟩)), (9, .int .i64 s_4), (10, .int .i64 s_31), (49, .int .i64 (p0_3.length : Int)), (50, .int .i64 s_4), (76, .pointer (some ⟨b3, 3, none⟩))] rfl ⟨rfl, rfl, rfl, rfl, rfl, rfl, rfl, rfl, rfl, rfl, trivial⟩ ?_
                  refine WO_loadB tbok 0 rfl rfl rfl rfl (fun _ h => h) rfl rfl ?_
                  refine WO_pure tbok 4 [(2, .slice a_p2 p2.length c_p2), (3, .pointer (some ⟨b3, 0, none⟩)), (6, .bool false), (7, .int .i64 (Int.tmod (w64 (p1)) 4)), (8, .pointer (some ⟨b9, 0, none⟩)), (10, .int .i64 s_31), (49, .int .i64 (p0_3.length : Int)), (50, .int .i64 s_4), (77, .slice a_p0_3 p0_3.length c_p0_3), (81, .int .i64 (w64 (s_4 + (w64 (2 * (Int.tmod (w64 (p1)) 4))))))] rfl ⟨rfl, rfl, rfl, rfl, rfl, rfl, rfl, rfl, rfl, rfl, trivial⟩ ?_
                  obtain ⟨v_33, hy104, hx94⟩ := bind_some hx94
                  obtain ⟨hc105, hy104⟩ := ix_some hy104
                  refine WO_index tbok rfl rfl rfl rfl rfl rfl rfl rfl (SlR.addr h_p0_3) hc105 ?_
                  refine WO_loadE tbok rfl rfl rfl rfl (fun _ h => St.sat h) h_p0_3 hy104 rfl ?_
                  refine WO_pure tbok 1 [(2, .slice a_p2 p2.length c_p2), (3, .pointer (some ⟨b3, 0, none⟩)), (6, .bool false), (7, .int .i64 (Int.tmod (w64 (p1)) 4)), (8, .pointer (some ⟨b9, 0, none⟩)), (10, .int .i64 v_33), (49, .int .i64 (p0_3.length : Int)), (50, .int .i64 s_4)] rfl ⟨rfl, rfl, rfl, rfl, rfl, rfl, rfl, rfl, trivial⟩ ?_
                  refine WO_end ?_
                  cases hx94
                  refine WK.sub ?_ (WK.cls (fun _ h => h) hk95)
                  exact ⟨rfl, rfl, rfl, rfl, rfl, rfl, rfl, rfl, trivial⟩
                · have hx94 := ifF hb103 hx94
                  refine WK_skip ?_
                  cases hx94
                  refine WK.sub ?_ (WK.cls (fun _ h => h) hk95)
                  exact ⟨rfl, rfl, rfl, rfl, rfl, rfl, rfl, rfl, trivial⟩
            · refine WK_cond (b := decide (s_4 < (p2.length : Int))) rfl (fun hb106 => ?_) (fun hb106 => ?_)
              · have hx91 := ifT hb106 hx91
                refine WK_draw 10 [0, 1, 2, 3, 4, 5, 6, 7, 8, 9] follows_ok (by kernel_rfl) St_closed ?_
                refine WO_pure tbok 2 [(2, .slice a_p2 p2.length c_p2), (3, .pointer (some ⟨b3, 0, none⟩)), (6, .bool false), (7, .int .i64 (Int.tmod (w64 (p1)) 4)), (8, .pointer (some ⟨b9, 0, none⟩)), (9, .int .i64 s_4), (10, .int .i64 0), (49, .int .i64 (p0_3.length : Int)), (50, .int .i64 s_4), (57, .slice a_p2 p2.length c_p2), (58, .int .i64 s_4)] rfl ⟨rfl, rfl, rfl, rfl, rfl, rfl, rfl, rfl, rfl, rfl, rfl, trivial⟩ ?_
                obtain ⟨v_34, hy107, hx91⟩ := bind_some hx91
                obtain ⟨hc108, hy107⟩ := ix_some hy107
                refine WO_index tbok rfl rfl rfl rfl rfl rfl rfl rfl (SlR.addr h_p2) hc108 ?_
                refine WO_loadE tbok rfl rfl rfl rfl (fun _ h => St.sat h) h_p2 hy107 rfl ?_
                refine WO_pure tbok 2 [(2, .slice a_p2 p2.length c_p2), (3, .pointer (some ⟨b3, 0, none⟩)), (6, .bool false), (7, .int .i64 (Int.tmod (w64 (p1)) 4)), (8, .pointer (some ⟨b9, 0, none⟩)), (9, .int .i64 s_4), (10, .int .i64 0), (49, .int .i64 (p0_3.length : Int)), (50, .int .i64 s_4), (61, .int .i64 (w64 (v_34))), (62, .pointer (some ⟨b3, 2, none⟩))] rfl ⟨rfl, rfl, rfl, rfl, rfl, rfl, rfl, rfl, rfl, rfl, rfl, trivial⟩ ?_
                refine WO_loadB tbok 0 rfl rfl rfl rfl (fun _ h => h) rfl rfl ?_
                refine WO_pure tbok 1 [(2, .slice a_p2 p2.length c_p2), (3, .pointer (some ⟨b3, 0, none⟩)), (6, .bool false), (7, .int .i64 (Int.tmod (w64 (p1)) 4)), (8, .pointer (some ⟨b9, 0, none⟩)), (9, .int .i64 s_4), (10, .int .i64 0), (49, .int .i64 (p0_3.length : Int)), (50, .int .i64 s_4), (61, .int .i64 (w64 (v_34))), (64, .int .i64 (w64 (p0_2 + 1)))] rfl ⟨rfl, rfl, rfl, rfl, rfl, rfl, rfl, rfl, rfl, rfl, rfl, trivial⟩ ?_
                obtain ⟨hc109, hx91⟩ := chk_some hx91
                refine WO_rem rfl rfl rfl rfl rfl hc109 ?_
                refine WO_pure tbok 1 [(2, .slice a_p2 p2.length c_p2), (3, .pointer (some ⟨b3, 0, none⟩)), (6, .bool false), (7, .int .i64 (Int.tmod (w64 (p1)) 4)), (8, .pointer (some ⟨b9, 0, none⟩)), (9, .int .i64 s_4), (10, .int .i64 (Int.tmod (w64 (v_34)) (w64 (p0_2 + 1)))), (49, .int .i64 (p0_3.length : Int)), (50, .int .i64 s_4)] rfl ⟨rfl, rfl, rfl, rfl, rfl, rfl, rfl, rfl, rfl, trivial⟩ ?_
                refine WO_tail ?_
                refine WO_end ?_
                cases hx91
                refine WK.sub ?_ (WK.cls (fun _ h => h) hk92)
                exact ⟨rfl, rfl, rfl, rfl, rfl, rfl, rfl, rfl, rfl, trivial⟩
              · have hx91 := ifF hb106 hx91
                refine WK_skip ?_
                cases hx91
                refine WK.sub ?_ (WK.cls (fun _ h => h) hk92)
                exact ⟨rfl, rfl, rfl, rfl, rfl, rfl, rfl, rfl, rfl, trivial⟩
          · have hm24 := ifF hb90 hm24
            refine WK_exit rfl ?_
            cases hm24
            refine WK.sub ?_ (WK.cls (fun _ h => h) (hk23 (l_3, (a13, _, c15, L12)) ⟨(hd28 _ rfl), hL12⟩))
            exact ⟨rfl, rfl, rfl, rfl, trivial⟩
    · refine WK_region ?_
      refine WO_pure tbok 1 [(1, .int .u8 p1), (2, .slice a_p2 p2.length c_p2), (3, .pointer (some ⟨b3, 0, none⟩)), (6, .bool false), (23, .pointer (some ⟨b3, 3, none⟩))] rfl ⟨rfl, rfl, rfl, rfl, rfl, trivial⟩ ?_
      refine WO_loadB tbok 0 rfl rfl rfl rfl (fun _ h => h) rfl rfl ?_
      refine WO_pure tbok 3 [(1, .int .u8 p1), (2, .slice a_p2 p2.length c_p2), (3, .pointer (some ⟨b3, 0, none⟩)), (6, .bool false), (27, .bool (decide (200 < (p0_3.length : Int))))] rfl ⟨rfl, rfl, rfl, rfl, rfl, trivial⟩ ?_
      refine WO_split (d := 27) (b := decide (200 < (p0_3.length : Int))) rfl (fun hb110 => ?_) (fun hb110 => ?_)
      · have hx6 := ifT hb110 hx6
        refine WO_pure tbok 6 [(1, .int .u8 p1), (2, .slice a_p2 p2.length c_p2), (3, .pointer (some ⟨b3, 0, none⟩)), (6, .bool false), (32, .bool true)] rfl ⟨rfl, rfl, rfl, rfl, rfl, trivial⟩ ?_
        refine WO_skip rfl rfl ?_
        refine WO_pure tbok 2 [(1, .int .u8 p1), (2, .slice a_p2 p2.length c_p2), (3, .pointer (some ⟨b3, 0, none⟩)), (6, .bool false), (36, .bool true)] rfl ⟨rfl, rfl, rfl, rfl, rfl, trivial⟩ ?_
        refine WO_end ?_
        cases hx6
        refine WK.sub ?_ (WK.cls (fun _ h => h) hk7)
        exact ⟨rfl, rfl, rfl, rfl, rfl, trivial⟩
      · have hx6 := ifF hb110 hx6
        refine WO_pure tbok 5 [(1, .int .u8 p1), (2, .slice a_p2 p2.length c_p2), (3, .pointer (some ⟨b3, 0, none⟩)), (6, .bool false), (32, .bool (decide (250 < (p2.length : Int))))] rfl ⟨rfl, rfl, rfl, rfl, rfl, trivial⟩ ?_
        refine WO_split (d := 32) (b := decide (250 < (p2.length : Int))) rfl (fun hb111 => ?_) (fun hb111 => ?_)
        · have hx6 := ifT hb111 hx6
          refine WO_pure tbok 1 [(1, .int .u8 p1), (2, .slice a_p2 p2.length c_p2), (3, .pointer (some ⟨b3, 0, none⟩)), (6, .bool false), (32, .bool true)] rfl ⟨rfl, rfl, rfl, rfl, rfl, trivial⟩ ?_
          refine WO_skip rfl rfl ?_
          refine WO_pure tbok 2 [(1, .int .u8 p1), (2, .slice a_p2 p2.length c_p2), (3, .pointer (some ⟨b3, 0, none⟩)), (6, .bool false), (36, .bool true)] rfl ⟨rfl, rfl, rfl, rfl, rfl, trivial⟩ ?_
          refine WO_end ?_
          cases hx6
          refine WK.sub ?_ (WK.cls (fun _ h => h) hk7)
          exact ⟨rfl, rfl, rfl, rfl, rfl, trivial⟩
        · have hx6 := ifF hb111 hx6
          refine WO_loadB tbok 0 rfl rfl rfl rfl (fun _ h => h) rfl rfl ?_
          obtain ⟨y_35, hc112, hx6⟩ := bind_some hx6
          refine WO_call0 (.int .i64 y_35) rfl rfl trivial rfl rfl rfl rfl St_closed ⟨7, #[], #[], rfl, callable_7, fun w hw => ⟨_, hw.sat, fiducialref13_Check_walk h_p0_3 hc112⟩⟩ ?_
          refine WO_pure tbok 2 [(1, .int .u8 p1), (2, .slice a_p2 p2.length c_p2), (3, .pointer (some ⟨b3, 0, none⟩)), (6, .bool false), (36, .bool (y_35 != 0))] rfl ⟨rfl, rfl, rfl, rfl, rfl, trivial⟩ ?_
          refine WO_end ?_
          cases hx6
          refine WK.sub ?_ (WK.cls (fun _ h => h) hk7)
          exact ⟨rfl, rfl, rfl, rfl, rfl, trivial⟩
theorem seam_matched_walk {m : Mu} {p0_0 : Int} {p0_1 : Int} {p0_2 : Int} {p0_3 : List Int} {p1_0 : Int} {p1_1 : Int} {p1_2 : Int} {p1_3 : List Int} {a_p0_3 : Option Addr} {q_p0_3 c_p0_3 : Nat} {a_p1_3 : Option Addr} {q_p1_3 c_p1_3 : Nat} (h_p0_3 : SlR (FE (I1 .i64)) 1 m (.slice a_p0_3 q_p0_3 c_p0_3) p0_3) (h_p1_3 : SlR (FE (I1 .i64)) 1 m (.slice a_p1_3 q_p1_3 c_p1_3) p1_3) {r : Int} (hm : seam_matched p0_0 p0_1 p0_2 p0_3 p1_0 p1_1 p1_2 p1_3 = some r) :
    Go.E.Spec Try.prog 35 [.agg #[.int .i64 p0_0, .int .i64 p0_1, .int .i64 p0_2, .slice a_p0_3 q_p0_3 c_p0_3], .agg #[.int .i64 p1_0, .int .i64 p1_1, .int .i64 p1_2, .slice a_p1_3 q_p1_3 c_p1_3]] m (fun v _ _ => v = .int .i64 r) := by
  refine Spec_enter Try.func35 rfl rfl rfl (fun w0 => ?_)
  refine WK.sub (e' := [(0, .agg #[.int .i64 p0_0, .int .i64 p0_1, .int .i64 p0_2, .slice a_p0_3 q_p0_3 c_p0_3]), (1, .agg #[.int .i64 p1_0, .int .i64 p1_1, .int .i64 p1_2, .slice a_p1_3 q_p1_3 c_p1_3])]) ⟨rfl, rfl, trivial⟩ ?_
  obtain rfl := SlR.qlen h_p0_3
  obtain rfl := SlR.qlen h_p1_3
  refine WK.sub (e' := [(0, .agg #[.int .i64 p0_0, .int .i64 p0_1, .int .i64 p0_2, .slice a_p0_3 p0_3.length c_p0_3]), (1, .agg #[.int .i64 p1_0, .int .i64 p1_1, .int .i64 p1_2, .slice a_p1_3 p1_3.length c_p1_3])]) ⟨rfl, rfl, trivial⟩ ?_
  unfold seam_matched at hm
  refine WK_seq ?_
  refine WK_region ?_
  refine WO_box [.int .i64 p0_0, .int .i64 p0_1, .int .i64 p0_2, .slice a_p0_3 p0_3.length c_p0_3] rfl rfl trivial rfl rfl rfl (fun b3 => ?_)
  refine WO.cls (C' := St w0 m m [[⟨b3, 24, [.int .i64 p0_0, .int .i64 p0_1, .int .i64 p0_2, .slice a_p0_3 p0_3.length c_p0_3]⟩]]) (fun _ h => h) ?_
  refine WO_box [.int .i64 p1_0, .int .i64 p1_1, .int .i64 p1_2, .slice a_p1_3 p1_3.length c_p1_3] rfl rfl trivial rfl rfl rfl (fun b4 => ?_)
  refine WO.cls (C' := St w0 m m [[⟨b3, 24, [.int .i64 p0_0, .int .i64 p0_1, .int .i64 p0_2, .slice a_p0_3 p0_3.length c_p0_3]⟩], [⟨b4, 24, [.int .i64 p1_0, .int .i64 p1_1, .int .i64 p1_2, .slice a_p1_3 p1_3.length c_p1_3]⟩]]) (fun _ h => h) ?_
  refine WO_pure tbok 1 [(2, .pointer (some ⟨b3, 0, none⟩)), (3, .pointer (some ⟨b4, 0, none⟩)), (4, .int .i64 0)] rfl ⟨rfl, rfl, rfl, trivial⟩ ?_
  refine WO_end ?_
  refine WK_seq ?_
  refine WK_seq ?_
  refine WK_region ?_
  refine WO_loadB tbok 0 rfl rfl rfl rfl (fun _ h => h) rfl rfl ?_
  refine WO_loadB tbok 1 rfl rfl rfl rfl (fun _ h => h) rfl rfl ?_
  refine WO_bsliceX (E := V4) (El := El24) tbok (fun _ => rfl) (by decide) [.agg #[.int .i64 p0_0, .int .i64 p0_1, .int .i64 p0_2, .slice a_p0_3 p0_3.length c_p0_3], .agg #[.int .i64 p1_0, .int .i64 p1_1, .int .i64 p1_2, .slice a_p1_3 p1_3.length c_p1_3]] [(.int .i64 p0_0, .int .i64 p0_1, .int .i64 p0_2, .slice a_p0_3 p0_3.length c_p0_3), (.int .i64 p1_0, .int .i64 p1_1, .int .i64 p1_2, .slice a_p1_3 p1_3.length c_p1_3)] ([(p0_0, p0_1, p0_2, p0_3), (p1_0, p1_1, p1_2, p1_3)] : List (Int × Int × Int × List Int)) rfl rfl trivial rfl rfl rfl rfl rfl rfl rfl rfl rfl rfl rfl rfl ⟨⟨_, _, _, rfl, h_p0_3⟩, ⟨_, _, _, rfl, h_p1_3⟩, trivial⟩ (fun b5 hb5 => ?_)
  refine WO.cls (C' := St w0 m m [[⟨b3, 24, [.int .i64 p0_0, .int .i64 p0_1, .int .i64 p0_2, .slice a_p0_3 p0_3.length c_p0_3]⟩], [⟨b4, 24, [.int .i64 p1_0, .int .i64 p1_1, .int .i64 p1_2, .slice a_p1_3 p1_3.length c_p1_3]⟩], [⟨b5, 24, [.int .i64 p0_0, .int .i64 p0_1, .int .i64 p0_2, .slice a_p0_3 p0_3.length c_p0_3, .int .i64 p1_0, .int .i64 p1_1, .int .i64 p1_2, .slice a_p1_3 p1_3.length c_p1_3]⟩]]) (fun _ h => h) ?_
  refine WO_pure tbok 2 [(2, .pointer (some ⟨b3, 0, none⟩)), (3, .pointer (some ⟨b4, 0, none⟩)), (4, .int .i64 0), (10, .slice (some ⟨b5, 0, none⟩) 2 2), (11, .int .i64 2), (12, .int .i64 0)] rfl ⟨rfl, rfl, rfl, rfl, rfl, rfl, trivial⟩ ?_
  refine WO_end ?_
  obtain ⟨x7, hx8, hm⟩ := bind_some hm
  refine WK_join (β := Unit × Unit) (fun p => Sum.inr p.1 = x7) (fun p => [(2, .pointer (some ⟨b3, 0, none⟩)), (3, .pointer (some ⟨b4, 0, none⟩)), (4, .int .i64 0)]) (fun p => St w0 m m [[⟨b3, 24, [.int .i64 p0_0, .int .i64 p0_1, .int .i64 p0_2, .slice a_p0_3 p0_3.length c_p0_3]⟩], [⟨b4, 24, [.int .i64 p1_0, .int .i64 p1_1, .int .i64 p1_2, .slice a_p1_3 p1_3.length c_p1_3]⟩], [⟨b5, 24, [.int .i64 p0_0, .int .i64 p0_1, .int .i64 p0_2, .slice a_p0_3 p0_3.length c_p0_3, .int .i64 p1_0, .int .i64 p1_1, .int .i64 p1_2, .slice a_p1_3 p1_3.length c_p1_3]⟩]]) ?_ (fun hk9 => ?_)
  · rintro ⟨⟨⟩, ⟨⟩⟩ hq15
    subst hq15
    refine WK.sub (e' := [(2, .pointer (some ⟨b3, 0, none⟩)), (3, .pointer (some ⟨b4, 0, none⟩)), (4, .int .i64 0)]) ⟨rfl, rfl, rfl, trivial⟩ (WK.cls (C' := St w0 m m [[⟨b3, 24, [.int .i64 p0_0, .int .i64 p0_1, .int .i64 p0_2, .slice a_p0_3 p0_3.length c_p0_3]⟩], [⟨b4, 24, [.int .i64 p1_0, .int .i64 p1_1, .int .i64 p1_2, .slice a_p1_3 p1_3.length c_p1_3]⟩], [⟨b5, 24, [.int .i64 p0_0, .int .i64 p0_1, .int .i64 p0_2, .slice a_p0_3 p0_3.length c_p0_3, .int .i64 p1_0, .int .i64 p1_1, .int .i64 p1_2, .slice a_p1_3 p1_3.length c_p1_3]⟩]]) (fun _ h => h) ?_)
    refine WK_seq ?_
    refine WK_seq ?_
    obtain ⟨s_2, hx16, hm⟩ := bind_some hm
    refine WK_meet [(4, .int .i64 0), (40, .bool s_2)] (St w0 m m [[⟨b3, 24, [.int .i64 p0_0, .int .i64 p0_1, .int .i64 p0_2, .slice a_p0_3 p0_3.length c_p0_3]⟩], [⟨b4, 24, [.int .i64 p1_0, .int .i64 p1_1, .int .i64 p1_2, .slice a_p1_3 p1_3.length c_p1_3]⟩], [⟨b5, 24, [.int .i64 p0_0, .int .i64 p0_1, .int .i64 p0_2, .slice a_p0_3 p0_3.length c_p0_3, .int .i64 p1_0, .int .i64 p1_1, .int .i64 p1_2, .slice a_p1_3 p1_3.length c_p1_3]⟩]]) ?_ (fun hk17 => ?_)
    · refine WK_cond (b := s_2) rfl (fun hb18 => ?_) (fun hb18 => ?_)
      · have hm := ifT hb18 hm
        refine WK_seq ?_
        refine WK_region ?_
        refine WO_pure tbok 1 [(4, .int .i64 4)] rfl ⟨rfl, trivial⟩ ?_
        refine WO_end ?_
        cases hm
        exact WK_ret (ret_out (L := []) (RLc_tmp rfl RLc_nil) (List.nil_sublist _) rfl)
      · have hm := ifF hb18 hm
        refine WK_skip ?_
        refine WK_seq ?_
        refine WK_region ?_
        refine WO_pure tbok 1 [(4, .int .i64 0)] rfl ⟨rfl, trivial⟩ ?_
        refine WO_end ?_
        cases hm
        exact WK_ret (ret_out (L := []) (RLc_tmp rfl RLc_nil) (List.nil_sublist _) rfl)
    · refine WK_region ?_
      refine WO_pure tbok 1 [(2, .pointer (some ⟨b3, 0, none⟩)), (3, .pointer (some ⟨b4, 0, none⟩)), (4, .int .i64 0), (22, .pointer (some ⟨b3, 0, none⟩))] rfl ⟨rfl, rfl, rfl, rfl, trivial⟩ ?_
      refine WO_loadB tbok 0 rfl rfl rfl rfl (fun _ h => h) rfl rfl ?_
      refine WO_pure tbok 1 [(2, .pointer (some ⟨b3, 0, none⟩)), (3, .pointer (some ⟨b4, 0, none⟩)), (4, .int .i64 0), (23, .int .i64 p0_0), (24, .pointer (some ⟨b4, 0, none⟩))] rfl ⟨rfl, rfl, rfl, rfl, rfl, trivial⟩ ?_
      refine WO_loadB tbok 1 rfl rfl rfl rfl (fun _ h => h) rfl rfl ?_
      refine WO_pure tbok 2 [(2, .pointer (some ⟨b3, 0, none⟩)), (3, .pointer (some ⟨b4, 0, none⟩)), (4, .int .i64 0), (27, .bool (p0_0 != p1_0))] rfl ⟨rfl, rfl, rfl, rfl, trivial⟩ ?_
      refine WO_split (d := 27) (b := p0_0 != p1_0) rfl (fun hb19 => ?_) (fun hb19 => ?_)
      · have hx16 := ifT hb19 hx16
        refine WO_pure tbok 13 [(4, .int .i64 0), (40, .bool true)] rfl ⟨rfl, rfl, trivial⟩ ?_
        refine WO_end ?_
        cases hx16
        refine WK.sub ?_ (WK.cls (fun _ h => h) hk17)
        exact ⟨rfl, rfl, trivial⟩
      · have hx16 := ifF hb19 hx16
        refine WO_pure tbok 1 [(2, .pointer (some ⟨b3, 0, none⟩)), (3, .pointer (some ⟨b4, 0, none⟩)), (4, .int .i64 0), (27, .bool false), (28, .pointer (some ⟨b3, 1, none⟩))] rfl ⟨rfl, rfl, rfl, rfl, rfl, trivial⟩ ?_
        refine WO_loadB tbok 0 rfl rfl rfl rfl (fun _ h => h) rfl rfl ?_
        refine WO_pure tbok 1 [(2, .pointer (some ⟨b3, 0, none⟩)), (3, .pointer (some ⟨b4, 0, none⟩)), (4, .int .i64 0), (27, .bool false), (29, .int .i64 p0_1), (30, .pointer (some ⟨b4, 1, none⟩))] rfl ⟨rfl, rfl, rfl, rfl, rfl, rfl, trivial⟩ ?_
        refine WO_loadB tbok 1 rfl rfl rfl rfl (fun _ h => h) rfl rfl ?_
        refine WO_pure tbok 3 [(2, .pointer (some ⟨b3, 0, none⟩)), (3, .pointer (some ⟨b4, 0, none⟩)), (4, .int .i64 0), (34, .bool (p0_1 != p1_1))] rfl ⟨rfl, rfl, rfl, rfl, trivial⟩ ?_
        refine WO_split (d := 34) (b := p0_1 != p1_1) rfl (fun hb20 => ?_) (fun hb20 => ?_)
        · have hx16 := ifT hb20 hx16
          refine WO_pure tbok 6 [(4, .int .i64 0), (40, .bool true)] rfl ⟨rfl, rfl, trivial⟩ ?_
          refine WO_end ?_
          cases hx16
          refine WK.sub ?_ (WK.cls (fun _ h => h) hk17)
          exact ⟨rfl, rfl, trivial⟩
        · have hx16 := ifF hb20 hx16
          refine WO_pure tbok 1 [(3, .pointer (some ⟨b4, 0, none⟩)), (4, .int .i64 0), (34, .bool false), (35, .pointer (some ⟨b3, 2, none⟩))] rfl ⟨rfl, rfl, rfl, rfl, trivial⟩ ?_
          refine WO_loadB tbok 0 rfl rfl rfl rfl (fun _ h => h) rfl rfl ?_
          refine WO_pure tbok 1 [(4, .int .i64 0), (34, .bool false), (36, .int .i64 p0_2), (37, .pointer (some ⟨b4, 2, none⟩))] rfl ⟨rfl, rfl, rfl, rfl, trivial⟩ ?_
          refine WO_loadB tbok 1 rfl rfl rfl rfl (fun _ h => h) rfl rfl ?_
          refine WO_pure tbok 2 [(4, .int .i64 0), (40, .bool (p0_2 != p1_2))] rfl ⟨rfl, rfl, trivial⟩ ?_
          refine WO_end ?_
          cases hx16
          refine WK.sub ?_ (WK.cls (fun _ h => h) hk17)
          exact ⟨rfl, rfl, trivial⟩
  · refine WK_block ?_
    refine WK_loop (S := Int) (G := Unit) (fun s => seam_matched_s1 p0_0 p0_1 p0_2 p0_3 p1_0 p1_1 p1_2 p1_3 s) (fun s g => [(2, .pointer (some ⟨b3, 0, none⟩)), (3, .pointer (some ⟨b4, 0, none⟩)), (4, .int .i64 0), (10, .slice (some ⟨b5, 0, none⟩) 2 2), (11, .int .i64 2), (12, .int .i64 s)]) (fun s g => St w0 m m [[⟨b3, 24, [.int .i64 p0_0, .int .i64 p0_1, .int .i64 p0_2, .slice a_p0_3 p0_3.length c_p0_3]⟩], [⟨b4, 24, [.int .i64 p1_0, .int .i64 p1_1, .int .i64 p1_2, .slice a_p1_3 p1_3.length c_p1_3]⟩], [⟨b5, 24, [.int .i64 p0_0, .int .i64 p0_1, .int .i64 p0_2, .slice a_p0_3 p0_3.length c_p0_3, .int .i64 p1_0, .int .i64 p1_1, .int .i64 p1_2, .slice a_p1_3 p1_3.length c_p1_3]⟩]]) (fun s g => True) FUEL 0 () x7 hx8 trivial ⟨rfl, rfl, rfl, rfl, rfl, rfl, trivial⟩ (fun _ h => h) ?_
    rintro s_1 ⟨⟩ o11 fl12 hm10 - hn13 hd14
    have hm10 : seam_matched_s1 p0_0 p0_1 p0_2 p0_3 p1_0 p1_1 p1_2 p1_3 s_1 = some o11 := hm10
    unfold seam_matched_s1 at hm10
    refine WK.sub (e' := [(2, .pointer (some ⟨b3, 0, none⟩)), (3, .pointer (some ⟨b4, 0, none⟩)), (4, .int .i64 0), (10, .slice (some ⟨b5, 0, none⟩) 2 2), (11, .int .i64 2), (12, .int .i64 s_1)]) ⟨rfl, rfl, rfl, rfl, rfl, rfl, trivial⟩ (WK.cls (C' := St w0 m m [[⟨b3, 24, [.int .i64 p0_0, .int .i64 p0_1, .int .i64 p0_2, .slice a_p0_3 p0_3.length c_p0_3]⟩], [⟨b4, 24, [.int .i64 p1_0, .int .i64 p1_1, .int .i64 p1_2, .slice a_p1_3 p1_3.length c_p1_3]⟩], [⟨b5, 24, [.int .i64 p0_0, .int .i64 p0_1, .int .i64 p0_2, .slice a_p0_3 p0_3.length c_p0_3, .int .i64 p1_0, .int .i64 p1_1, .int .i64 p1_2, .slice a_p1_3 p1_3.length c_p1_3]⟩]]) (fun _ h => h) ?_)
    refine WK_seq ?_
    refine WK_region ?_
    refine WO_pure tbok 1 [(2, .pointer (some ⟨b3, 0, none⟩)), (3, .pointer (some ⟨b4, 0, none⟩)), (4, .int .i64 0), (10, .slice (some ⟨b5, 0, none⟩) 2 2), (11, .int .i64 2), (12, .int .i64 s_1), (13, .bool (decide (s_1 < 2)))] rfl ⟨rfl, rfl, rfl, rfl, rfl, rfl, rfl, trivial⟩ ?_
    refine WO_end ?_
    refine WK_seq ?_
    refine WK_cond (b := decide (s_1 < 2)) rfl (fun hb21 => ?_) (fun hb21 => ?_)
    · have hm10 := ifT hb21 hm10
      refine WK_skip ?_
      refine WK_seq ?_
      refine WK_block ?_
      refine WK_seq ?_
      refine WK_region ?_
      obtain ⟨v_3, hy22, hm10⟩ := bind_some hm10
      obtain ⟨hc23, hy22⟩ := ix_some hy22
      refine WO_index tbok rfl rfl rfl rfl rfl rfl rfl rfl (OwnX.addr hb5) (by simpa using hc23) ?_
      refine WO_loadOX (E := V4) tbok (fun _ => rfl) 2 rfl rfl rfl rfl (fun _ h => h) hb5 rfl hy22 (fun cs hcs => ?_)
      obtain ⟨a24, qa24, c25, rfl, h26⟩ := hcs
      obtain rfl := SlR.qlen h26
      refine ⟨_, rfl, ?_⟩
      refine WO_alloc tbok [.int .i64 0, .int .i64 0, .int .i64 0, .slice none 0 0] rfl rfl trivial rfl rfl rfl rfl (fun b28 => ?_)
      refine WO.cls (C' := St w0 m m [[⟨b3, 24, [.int .i64 p0_0, .int .i64 p0_1, .int .i64 p0_2, .slice a_p0_3 p0_3.length c_p0_3]⟩], [⟨b4, 24, [.int .i64 p1_0, .int .i64 p1_1, .int .i64 p1_2, .slice a_p1_3 p1_3.length c_p1_3]⟩], [⟨b5, 24, [.int .i64 p0_0, .int .i64 p0_1, .int .i64 p0_2, .slice a_p0_3 p0_3.length c_p0_3, .int .i64 p1_0, .int .i64 p1_1, .int .i64 p1_2, .slice a_p1_3 p1_3.length c_p1_3]⟩], [⟨b28, 24, [.int .i64 0, .int .i64 0, .int .i64 0, .slice none 0 0]⟩]]) (fun _ h => h) ?_
      refine WO_storeB tbok 3 [.int .i64 v_3.1, .int .i64 v_3.2.1, .int .i64 v_3.2.2.1, .slice a24 ((v_3.2.2.2).length) c25] rfl rfl rfl rfl rfl rfl rfl ?_
      refine WO.cls (C' := St w0 m m [[⟨b3, 24, [.int .i64 p0_0, .int .i64 p0_1, .int .i64 p0_2, .slice a_p0_3 p0_3.length c_p0_3]⟩], [⟨b4, 24, [.int .i64 p1_0, .int .i64 p1_1, .int .i64 p1_2, .slice a_p1_3 p1_3.length c_p1_3]⟩], [⟨b5, 24, [.int .i64 p0_0, .int .i64 p0_1, .int .i64 p0_2, .slice a_p0_3 p0_3.length c_p0_3, .int .i64 p1_0, .int .i64 p1_1, .int .i64 p1_2, .slice a_p1_3 p1_3.length c_p1_3]⟩], [⟨b28, 24, [.int .i64 v_3.1, .int .i64 v_3.2.1, .int .i64 v_3.2.2.1, .slice a24 ((v_3.2.2.2).length) c25]⟩]]) (fun _ h => h) ?_
      refine WO_end ?_
      refine WK_seq ?_
      refine WK_region ?_
      refine WO_loadB tbok 3 rfl rfl rfl rfl (fun _ h => h) rfl rfl ?_
      obtain ⟨y_4, hc29, hm10⟩ := bind_some hm10
      refine WO_call0 (.int .i64 y_4) rfl rfl trivial rfl rfl rfl rfl St_closed ⟨43, #[], #[], rfl, callable_43, fun w hw => ⟨_, hw.sat, raster_Check_walk h26 hc29⟩⟩ ?_
      refine WO_pure tbok 1 [(2, .pointer (some ⟨b3, 0, none⟩)), (3, .pointer (some ⟨b4, 0, none⟩)), (4, .int .i64 0), (7, .int .i64 y_4), (10, .slice (some ⟨b5, 0, none⟩) 2 2), (11, .int .i64 2), (12, .int .i64 s_1)] rfl ⟨rfl, rfl, rfl, rfl, rfl, rfl, rfl, trivial⟩ ?_
      refine WO_end ?_
      refine WK_seq ?_
      refine WK_region ?_
      refine WO_pure tbok 2 [(2, .pointer (some ⟨b3, 0, none⟩)), (3, .pointer (some ⟨b4, 0, none⟩)), (4, .int .i64 0), (7, .int .i64 y_4), (10, .slice (some ⟨b5, 0, none⟩) 2 2), (11, .int .i64 2), (12, .int .i64 s_1), (19, .bool (y_4 != 0))] rfl ⟨rfl, rfl, rfl, rfl, rfl, rfl, rfl, rfl, trivial⟩ ?_
      refine WO_end ?_
      refine WK_cond (b := y_4 != 0) rfl (fun hb30 => ?_) (fun hb30 => ?_)
      · have hm10 := ifT hb30 hm10
        refine WK_seq ?_
        refine WK_region ?_
        refine WO_pure tbok 2 [(2, .pointer (some ⟨b3, 0, none⟩)), (3, .pointer (some ⟨b4, 0, none⟩)), (4, .int .i64 y_4), (10, .slice (some ⟨b5, 0, none⟩) 2 2), (11, .int .i64 2), (12, .int .i64 s_1)] rfl ⟨rfl, rfl, rfl, rfl, rfl, rfl, trivial⟩ ?_
        refine WO_end ?_
        cases hm10
        have hq := hd14 _ rfl
        subst hq
        have hm : some _ = some _ := hm
        cases hm
        exact WK_ret (ret_out (L := []) (RLc_tmp rfl RLc_nil) (List.nil_sublist _) rfl)
      · have hm10 := ifF hb30 hm10
        refine WK_skip ?_
        refine WK_blk ?_
        refine WK_region ?_
        refine WO_pure tbok 2 [(2, .pointer (some ⟨b3, 0, none⟩)), (3, .pointer (some ⟨b4, 0, none⟩)), (4, .int .i64 0), (10, .slice (some ⟨b5, 0, none⟩) 2 2), (11, .int .i64 2), (12, .int .i64 (w64 (s_1 + 1)))] rfl ⟨rfl, rfl, rfl, rfl, rfl, rfl, trivial⟩ ?_
        refine WO_end ?_
        cases hm10
        refine WK.sub ?_ (WK.cls (fun _ h => St.take 3 h) (hn13 _ () rfl trivial))
        exact ⟨rfl, rfl, rfl, rfl, rfl, rfl, trivial⟩
    · have hm10 := ifF hb21 hm10
      refine WK_exit rfl ?_
      cases hm10
      refine WK.sub ?_ (WK.cls (fun _ h => h) (hk9 ((), ()) (hd14 _ rfl)))
      exact ⟨rfl, rfl, rfl, trivial⟩
theorem seam_Mosaic_c1_walk {m : Mu} {p0 : Int} {q0_0 : Int} {q0_1 : Int} {q0_2 : Int} {q0_3 : List Int} {a_q0_3 : Option Addr} {q_q0_3 c_q0_3 : Nat} {b_q0 : Nat} (hb_q0 : m b_q0 = some (Ent.obj ⟨b_q0, 24, [.int .i64 q0_0, .int .i64 q0_1, .int .i64 q0_2, .slice a_q0_3 q_q0_3 c_q0_3]⟩)) (h_q0_3 : SlR (FE (I1 .i64)) 1 m (.slice a_q0_3 q_q0_3 c_q0_3) q0_3) {r : Bool} (hm : seam_Mosaic_c1 p0 q0_0 q0_1 q0_2 q0_3 = some r) :
    Go.E.Spec Try.prog 41 [.int .i64 p0, .pointer (some ⟨b_q0, 0, none⟩)] m (fun v _ _ => v = .bool r) := by
  refine Spec_enter Try.func41 rfl rfl rfl (fun w0 => ?_)
  refine WK.sub (e' := [(0, .int .i64 p0), (1, .pointer (some ⟨b_q0, 0, none⟩))]) ⟨rfl, rfl, trivial⟩ ?_
  obtain rfl := SlR.qlen h_q0_3
  refine WK.sub (e' := [(0, .int .i64 p0), (1, .pointer (some ⟨b_q0, 0, none⟩))]) ⟨rfl, rfl, trivial⟩ ?_
  unfold seam_Mosaic_c1 at hm
  refine WK_seq ?_
  refine WK_region ?_
  refine WO_pure tbok 1 [(0, .int .i64 p0), (1, .pointer (some ⟨b_q0, 0, none⟩)), (3, .bool false)] rfl ⟨rfl, rfl, rfl, trivial⟩ ?_
  refine WO_end ?_
  refine WK_seq ?_
  refine WK_region ?_
  refine WO_pure tbok 3 [(0, .int .i64 p0), (1, .pointer (some ⟨b_q0, 0, none⟩)), (3, .bool false), (6, .bool (decide (p0 < 0)))] rfl ⟨rfl, rfl, rfl, rfl, trivial⟩ ?_
  refine WO_split (d := 6) (b := decide (p0 < 0)) rfl (fun hb2 => ?_) (fun hb2 => ?_)
  · have hm := ifT hb2 hm
    refine WO_pure tbok 6 [(3, .bool true)] rfl ⟨rfl, trivial⟩ ?_
    refine WO_end ?_
    cases hm
    exact WK_ret (ret_out (L := []) (RLc_tmp rfl RLc_nil) (List.nil_sublist _) rfl)
  · have hm := ifF hb2 hm
    refine WO_pure tbok 2 [(3, .bool false), (6, .bool false), (7, .int .i64 p0), (8, .pointer (some ⟨b_q0, 0, none⟩))] rfl ⟨rfl, rfl, rfl, rfl, trivial⟩ ?_
    refine WO_loadM tbok rfl rfl rfl rfl (fun _ h => St.sat h) hb_q0 rfl ?_
    refine WO_pure tbok 3 [(3, .bool (decide (q0_0 < p0)))] rfl ⟨rfl, trivial⟩ ?_
    refine WO_end ?_
    cases hm
    exact WK_ret (ret_out (L := []) (RLc_tmp rfl RLc_nil) (List.nil_sublist _) rfl)
def slices_Clone_sint_Q (r : List Int) : Value → List Ent → Prop := fun v L => ∃ (a0 : Option Addr) (q0 c0 : Nat), v = .slice a0 q0 c0 ∧ OwnE 3 1 (I1 .i64) (.slice a0 q0 c0) r L
theorem slices_Clone_sint_walk {m : Mu} {p0 : List Int} {a_p0 : Option Addr} {q_p0 c_p0 : Nat} (h_p0 : SlR (FE (I1 .i64)) 1 m (.slice a_p0 q_p0 c_p0) p0) {r : List Int} (hm : slices_Clone_sint p0 = some r) :
    Go.E.Spec Try.prog 42 [.slice a_p0 q_p0 c_p0] m (fun v _ L => slices_Clone_sint_Q r v L) := by
  refine Spec_enter Try.func42 rfl rfl rfl (fun w0 => ?_)
  refine WK.sub (e' := [(0, .slice a_p0 q_p0 c_p0)]) ⟨rfl, trivial⟩ ?_
  obtain rfl := SlR.qlen h_p0
  refine WK.sub (e' := [(0, .slice a_p0 p0.length c_p0)]) ⟨rfl, trivial⟩ ?_
  cases a_p0 with
  | none =>
    obtain ⟨hx, _, hc⟩ := SlR.none_nil h_p0
    subst hx
    subst hc
    unfold slices_Clone_sint at hm
    obtain ⟨_, hm⟩ := chk_some hm
    refine WK_seq ?_
    refine WK_region ?_
    refine WO_pure tbok 1 [(0, .slice none 0 0), (2, .slice none 0 0)] rfl ⟨rfl, rfl, trivial⟩ ?_
    refine WO_end ?_
    refine WK_seq ?_
    refine WK_seq ?_
    refine WK_region ?_
    refine WO_pure tbok 1 [(0, .slice none 0 0), (2, .slice none 0 0), (3, .slice none 0 0)] rfl ⟨rfl, rfl, rfl, trivial⟩ ?_
    refine WO_eqnil tbok rfl rfl rfl rfl rfl rfl rfl ?_
    refine WO_end ?_
    refine WK_condT rfl ?_
    refine WK_seq ?_
    refine WK_region ?_
    refine WO_pure tbok 1 [(0, .slice none 0 0), (2, .slice none 0 0)] rfl ⟨rfl, rfl, trivial⟩ ?_
    refine WO_end ?_
    cases hm
    exact WK_ret (ret_out (L := []) (RLc_tmp rfl RLc_nil) (List.nil_sublist _) ⟨none, 0, 0, rfl, (OwnE.nil none)⟩)
  | some ad =>
    unfold slices_Clone_sint at hm
    refine WK_seq ?_
    refine WK_region ?_
    refine WO_pure tbok 1 [(0, .slice (some ad) p0.length c_p0), (2, .slice none 0 0)] rfl ⟨rfl, rfl, trivial⟩ ?_
    refine WO_end ?_
    refine WK_seq ?_
    refine WK_seq ?_
    refine WK_region ?_
    refine WO_pure tbok 1 [(0, .slice (some ad) p0.length c_p0), (2, .slice none 0 0), (3, .slice (some ad) p0.length c_p0)] rfl ⟨rfl, rfl, rfl, trivial⟩ ?_
    refine WO_eqnil tbok rfl rfl rfl rfl rfl rfl rfl ?_
    refine WO_end ?_
    refine WK_condF rfl ?_
    refine WK_skip ?_
    refine WK_seq ?_
    refine WK_region ?_
    refine WO_bslice (E := (I1 .i64)) tbok (fun _ => rfl) (by decide) [] ([] : List Int) rfl rfl trivial rfl rfl rfl rfl rfl rfl rfl rfl rfl rfl rfl rfl (fun b2 hb2 => ?_)
    refine WO.cls (C' := St w0 m m [[⟨b2, 3, ([] : List Int).flatMap (I1 .i64)⟩]]) (fun _ h => h) ?_
    refine WO_pure tbok 1 [(2, .slice none 0 0), (5, .slice (some ⟨b2, 0, none⟩) 0 0), (6, .slice (some ad) p0.length c_p0)] rfl ⟨rfl, rfl, rfl, trivial⟩ ?_
    obtain ⟨hc4, hm⟩ := chk_some hm
    refine WO_appendS (E := (I1 .i64)) tbok (fun _ => rfl) (by decide) (fun _ => rfl) 0 p0 rfl rfl rfl rfl rfl rfl rfl rfl rfl rfl rfl rfl hb2 rfl (fun w hw => ⟨_, hw.sat, h_p0⟩) (ap_ok (by decide) hc4) (ap_max hc4) (fun a5 c6 L7 hL7 => ?_)
    refine WO.cls (C' := St w0 m m [L7]) (fun _ h => h) ?_
    refine WO_pure tbok 1 [(2, .slice a5 ((([] : List Int) ++ p0).length) c6)] rfl ⟨rfl, trivial⟩ ?_
    refine WO_end ?_
    cases hm
    exact WK_ret (ret_out (L := L7) (RLc_tmp rfl RLc_nil) (seg_sub 0 rfl) ⟨a5, ((([] : List Int) ++ p0).length), c6, rfl, hL7⟩)
def seam_Mosaic_Q (r : Int × Int × Int × List Int × Int) : Value → List Ent → Prop := fun v L => ∃ (a0 : Option Addr) (q0 c0 : Nat), v = .tuple #[.agg #[.int .i64 r.1, .int .i64 r.2.1, .int .i64 r.2.2.1, .slice a0 q0 c0], .int .i64 r.2.2.2.2] ∧ OwnE 3 1 (I1 .i64) (.slice a0 q0 c0) r.2.2.2.1 L
theorem seam_Mosaic_walk {m : Mu} {p0_0 : Int} {p0_1 : Int} {p0_2 : Int} {p0_3 : List Int} {p1_0 : Int} {p1_1 : Int} {p1_2 : Int} {p1_3 : List Int} {p2 : List Int} {a_p0_3 : Option Addr} {q_p0_3 c_p0_3 : Nat} {a_p1_3 : Option Addr} {q_p1_3 c_p1_3 : Nat} {a_p2 : Option Addr} {q_p2 c_p2 : Nat} (h_p0_3 : SlR (FE (I1 .i64)) 1 m (.slice a_p0_3 q_p0_3 c_p0_3) p0_3) (h_p1_3 : SlR (FE (I1 .i64)) 1 m (.slice a_p1_3 q_p1_3 c_p1_3) p1_3) (h_p2 : SlR (FE (I1 .i64)) 1 m (.slice a_p2 q_p2 c_p2) p2) {r : Int × Int × Int × List Int × Int} (hm : seam_Mosaic p0_0 p0_1 p0_2 p0_3 p1_0 p1_1 p1_2 p1_3 p2 = some r) :
    Go.E.Spec Try.prog 14 [.agg #[.int .i64 p0_0, .int .i64 p0_1, .int .i64 p0_2, .slice a_p0_3 q_p0_3 c_p0_3], .agg #[.int .i64 p1_0, .int .i64 p1_1, .int .i64 p1_2, .slice a_p1_3 q_p1_3 c_p1_3], .slice a_p2 q_p2 c_p2] m (fun v _ L => seam_Mosaic_Q r v L) := by
  refine Spec_enter Try.func14 rfl rfl rfl (fun w0 => ?_)
  refine WK.sub (e' := [(0, .agg #[.int .i64 p0_0, .int .i64 p0_1, .int .i64 p0_2, .slice a_p0_3 q_p0_3 c_p0_3]), (1, .agg #[.int .i64 p1_0, .int .i64 p1_1, .int .i64 p1_2, .slice a_p1_3 q_p1_3 c_p1_3]), (2, .slice a_p2 q_p2 c_p2)]) ⟨rfl, rfl, rfl, trivial⟩ ?_
  obtain rfl := SlR.qlen h_p0_3
  obtain rfl := SlR.qlen h_p1_3
  obtain rfl := SlR.qlen h_p2
  refine WK.sub (e' := [(0, .agg #[.int .i64 p0_0, .int .i64 p0_1, .int .i64 p0_2, .slice a_p0_3 p0_3.length c_p0_3]), (1, .agg #[.int .i64 p1_0, .int .i64 p1_1, .int .i64 p1_2, .slice a_p1_3 p1_3.length c_p1_3]), (2, .slice a_p2 p2.length c_p2)]) ⟨rfl, rfl, rfl, trivial⟩ ?_
  unfold seam_Mosaic at hm
  refine WK_seq ?_
  refine WK_region ?_
  refine WO_box [.int .i64 p0_0, .int .i64 p0_1, .int .i64 p0_2, .slice a_p0_3 p0_3.length c_p0_3] rfl rfl trivial rfl rfl rfl (fun b4 => ?_)
  refine WO.cls (C' := St w0 m m [[⟨b4, 24, [.int .i64 p0_0, .int .i64 p0_1, .int .i64 p0_2, .slice a_p0_3 p0_3.length c_p0_3]⟩]]) (fun _ h => h) ?_
  refine WO_box [.int .i64 p1_0, .int .i64 p1_1, .int .i64 p1_2, .slice a_p1_3 p1_3.length c_p1_3] rfl rfl trivial rfl rfl rfl (fun b5 => ?_)
  refine WO.cls (C' := St w0 m m [[⟨b4, 24, [.int .i64 p0_0, .int .i64 p0_1, .int .i64 p0_2, .slice a_p0_3 p0_3.length c_p0_3]⟩], [⟨b5, 24, [.int .i64 p1_0, .int .i64 p1_1, .int .i64 p1_2, .slice a_p1_3 p1_3.length c_p1_3]⟩]]) (fun _ h => h) ?_
  refine WO_alloc tbok [.int .i64 0, .int .i64 0, .int .i64 0, .slice none 0 0] rfl rfl trivial rfl rfl rfl rfl (fun b6 => ?_)
  refine WO.cls (C' := St w0 m m [[⟨b4, 24, [.int .i64 p0_0, .int .i64 p0_1, .int .i64 p0_2, .slice a_p0_3 p0_3.length c_p0_3]⟩], [⟨b5, 24, [.int .i64 p1_0, .int .i64 p1_1, .int .i64 p1_2, .slice a_p1_3 p1_3.length c_p1_3]⟩], [⟨b6, 24, [.int .i64 0, .int .i64 0, .int .i64 0, .slice none 0 0]⟩]]) (fun _ h => h) ?_
  refine WO_pure tbok 1 [(2, .slice a_p2 p2.length c_p2), (3, .pointer (some ⟨b4, 0, none⟩)), (4, .pointer (some ⟨b5, 0, none⟩)), (6, .pointer (some ⟨b6, 0, none⟩)), (7, .int .i64 0)] rfl ⟨rfl, rfl, rfl, rfl, rfl, trivial⟩ ?_
  refine WO_end ?_
  refine WK_seq ?_
  refine WK_seq ?_
  refine WK_region ?_
  refine WO_loadB tbok 0 rfl rfl rfl rfl (fun _ h => h) rfl rfl ?_
  refine WO_loadB tbok 1 rfl rfl rfl rfl (fun _ h => h) rfl rfl ?_
  obtain ⟨y_1, hc7, hm⟩ := bind_some hm
  refine WO_call0 (.int .i64 y_1) rfl rfl trivial rfl rfl rfl rfl St_closed ⟨35, #[], #[], rfl, callable_35, fun w hw => ⟨_, hw.sat, seam_matched_walk h_p0_3 h_p1_3 hc7⟩⟩ ?_
  refine WO_pure tbok 1 [(2, .slice a_p2 p2.length c_p2), (3, .pointer (some ⟨b4, 0, none⟩)), (4, .pointer (some ⟨b5, 0, none⟩)), (6, .pointer (some ⟨b6, 0, none⟩)), (7, .int .i64 0), (8, .int .i64 y_1)] rfl ⟨rfl, rfl, rfl, rfl, rfl, rfl, trivial⟩ ?_
  refine WO_end ?_
  refine WK_seq ?_
  refine WK_region ?_
  refine WO_pure tbok 2 [(2, .slice a_p2 p2.length c_p2), (3, .pointer (some ⟨b4, 0, none⟩)), (4, .pointer (some ⟨b5, 0, none⟩)), (6, .pointer (some ⟨b6, 0, none⟩)), (7, .int .i64 0), (8, .int .i64 y_1), (16, .bool (y_1 != 0))] rfl ⟨rfl, rfl, rfl, rfl, rfl, rfl, rfl, trivial⟩ ?_
  refine WO_end ?_
  refine WK_cond (b := y_1 != 0) rfl (fun hb8 => ?_) (fun hb8 => ?_)
  · have hm := ifT hb8 hm
    refine WK_seq ?_
    refine WK_region ?_
    refine WO_pure tbok 2 [(2, .slice a_p2 p2.length c_p2), (3, .pointer (some ⟨b4, 0, none⟩)), (4, .pointer (some ⟨b5, 0, none⟩)), (6, .pointer (some ⟨b6, 0, none⟩)), (7, .int .i64 0), (17, .agg #[.int .i64 0, .int .i64 0, .int .i64 0, .slice none 0 0]), (18, .int .i64 y_1)] rfl ⟨rfl, rfl, rfl, rfl, rfl, rfl, rfl, trivial⟩ ?_
    refine WO_storeB tbok 2 [.int .i64 0, .int .i64 0, .int .i64 0, .slice none 0 0] rfl rfl rfl rfl rfl rfl rfl ?_
    refine WO.cls (C' := St w0 m m [[⟨b4, 24, [.int .i64 p0_0, .int .i64 p0_1, .int .i64 p0_2, .slice a_p0_3 p0_3.length c_p0_3]⟩], [⟨b5, 24, [.int .i64 p1_0, .int .i64 p1_1, .int .i64 p1_2, .slice a_p1_3 p1_3.length c_p1_3]⟩], [⟨b6, 24, [.int .i64 0, .int .i64 0, .int .i64 0, .slice none 0 0]⟩]]) (fun _ h => h) ?_
    refine WO_pure tbok 1 [(2, .slice a_p2 p2.length c_p2), (3, .pointer (some ⟨b4, 0, none⟩)), (4, .pointer (some ⟨b5, 0, none⟩)), (6, .pointer (some ⟨b6, 0, none⟩)), (7, .int .i64 y_1)] rfl ⟨rfl, rfl, rfl, rfl, rfl, trivial⟩ ?_
    refine WO_end ?_
    cases hm
    exact WK_ret (ret_out (L := []) (RLc_cell tbok 2 rfl rfl rfl (RLc_tmp rfl RLc_nil)) (List.nil_sublist _) ⟨none, 0, 0, rfl, (OwnE.nil none)⟩)
  · have hm := ifF hb8 hm
    refine WK_skip ?_
    refine WK_seq ?_
    refine WK_seq ?_
    obtain ⟨s_2, hx9, hm⟩ := bind_some hm
    refine WK_meet [(2, .slice a_p2 p2.length c_p2), (3, .pointer (some ⟨b4, 0, none⟩)), (4, .pointer (some ⟨b5, 0, none⟩)), (6, .pointer (some ⟨b6, 0, none⟩)), (7, .int .i64 0), (28, .bool s_2)] (St w0 m m [[⟨b4, 24, [.int .i64 p0_0, .int .i64 p0_1, .int .i64 p0_2, .slice a_p0_3 p0_3.length c_p0_3]⟩], [⟨b5, 24, [.int .i64 p1_0, .int .i64 p1_1, .int .i64 p1_2, .slice a_p1_3 p1_3.length c_p1_3]⟩], [⟨b6, 24, [.int .i64 0, .int .i64 0, .int .i64 0, .slice none 0 0]⟩]]) ?_ (fun hk10 => ?_)
    · refine WK_cond (b := s_2) rfl (fun hb11 => ?_) (fun hb11 => ?_)
      · have hm := ifT hb11 hm
        refine WK_seq ?_
        refine WK_region ?_
        refine WO_pure tbok 1 [(2, .slice a_p2 p2.length c_p2), (3, .pointer (some ⟨b4, 0, none⟩)), (4, .pointer (some ⟨b5, 0, none⟩)), (6, .pointer (some ⟨b6, 0, none⟩)), (7, .int .i64 0), (29, .agg #[.int .i64 0, .int .i64 0, .int .i64 0, .slice none 0 0])] rfl ⟨rfl, rfl, rfl, rfl, rfl, rfl, trivial⟩ ?_
        refine WO_storeB tbok 2 [.int .i64 0, .int .i64 0, .int .i64 0, .slice none 0 0] rfl rfl rfl rfl rfl rfl rfl ?_
        refine WO.cls (C' := St w0 m m [[⟨b4, 24, [.int .i64 p0_0, .int .i64 p0_1, .int .i64 p0_2, .slice a_p0_3 p0_3.length c_p0_3]⟩], [⟨b5, 24, [.int .i64 p1_0, .int .i64 p1_1, .int .i64 p1_2, .slice a_p1_3 p1_3.length c_p1_3]⟩], [⟨b6, 24, [.int .i64 0, .int .i64 0, .int .i64 0, .slice none 0 0]⟩]]) (fun _ h => h) ?_
        refine WO_pure tbok 1 [(2, .slice a_p2 p2.length c_p2), (3, .pointer (some ⟨b4, 0, none⟩)), (4, .pointer (some ⟨b5, 0, none⟩)), (6, .pointer (some ⟨b6, 0, none⟩)), (7, .int .i64 11)] rfl ⟨rfl, rfl, rfl, rfl, rfl, trivial⟩ ?_
        refine WO_end ?_
        cases hm
        exact WK_ret (ret_out (L := []) (RLc_cell tbok 2 rfl rfl rfl (RLc_tmp rfl RLc_nil)) (List.nil_sublist _) ⟨none, 0, 0, rfl, (OwnE.nil none)⟩)
      · have hm := ifF hb11 hm
        refine WK_skip ?_
        refine WK_seq ?_
        obtain ⟨⟨l_3, s_4, s_5, s_6⟩, hx16, hm⟩ := bind_some hm
        refine WK_join (β := Option Addr × Nat × List Ent × Nat) (fun p => OwnE 3 1 (I1 .i64) (.slice p.1 ((l_3).length) p.2.1) l_3 p.2.2.1) (fun p => [(2, .slice a_p2 p2.length c_p2), (3, .pointer (some ⟨b4, 0, none⟩)), (6, .pointer (some ⟨b6, 0, none⟩)), (7, .int .i64 0), (9, .pointer (some ⟨p.2.2.2, 0, none⟩))]) (fun p => St w0 m m [[⟨b4, 24, [.int .i64 p0_0, .int .i64 p0_1, .int .i64 p0_2, .slice a_p0_3 p0_3.length c_p0_3]⟩], [⟨b5, 24, [.int .i64 p1_0, .int .i64 p1_1, .int .i64 p1_2, .slice a_p1_3 p1_3.length c_p1_3]⟩], [⟨b6, 24, [.int .i64 0, .int .i64 0, .int .i64 0, .slice none 0 0]⟩], [⟨p.2.2.2, 24, [.int .i64 s_4, .int .i64 s_5, .int .i64 s_6, .slice p.1 ((l_3).length) p.2.1]⟩], p.2.2.1]) ?_ (fun hk17 => ?_)
        · rintro ⟨a12, c13, L14, b15⟩ hL14
          refine WK.sub (e' := [(2, .slice a_p2 p2.length c_p2), (3, .pointer (some ⟨b4, 0, none⟩)), (6, .pointer (some ⟨b6, 0, none⟩)), (7, .int .i64 0), (9, .pointer (some ⟨b15, 0, none⟩))]) ⟨rfl, rfl, rfl, rfl, rfl, trivial⟩ (WK.cls (C' := St w0 m m [[⟨b4, 24, [.int .i64 p0_0, .int .i64 p0_1, .int .i64 p0_2, .slice a_p0_3 p0_3.length c_p0_3]⟩], [⟨b5, 24, [.int .i64 p1_0, .int .i64 p1_1, .int .i64 p1_2, .slice a_p1_3 p1_3.length c_p1_3]⟩], [⟨b6, 24, [.int .i64 0, .int .i64 0, .int .i64 0, .slice none 0 0]⟩], [⟨b15, 24, [.int .i64 s_4, .int .i64 s_5, .int .i64 s_6, .slice a12 ((l_3).length) c13]⟩], L14]) (fun _ h => h) ?_)
          refine WK_seq ?_
          refine WK_seq ?_
          refine WK_region ?_
          refine WO_pure tbok 3 [(3, .pointer (some ⟨b4, 0, none⟩)), (6, .pointer (some ⟨b6, 0, none⟩)), (7, .int .i64 0), (9, .pointer (some ⟨b15, 0, none⟩)), (40, .slice a_p2 p2.length c_p2), (41, .int .i64 (p2.length : Int)), (42, .int .i64 0)] rfl ⟨rfl, rfl, rfl, rfl, rfl, rfl, rfl, trivial⟩ ?_
          refine WO_end ?_
          obtain ⟨x22, hx23, hm⟩ := bind_some hm
          refine WK_join (β := (List Int) × (List Ent)) (fun p => p.1 = x22 ∧ OwnE 3 1 (I1 .i64) (.slice a12 ((l_3).length) c13) p.1 p.2) (fun p => [(6, .pointer (some ⟨b6, 0, none⟩)), (7, .int .i64 0), (9, .pointer (some ⟨b15, 0, none⟩))]) (fun p => St w0 m m [[⟨b4, 24, [.int .i64 p0_0, .int .i64 p0_1, .int .i64 p0_2, .slice a_p0_3 p0_3.length c_p0_3]⟩], [⟨b5, 24, [.int .i64 p1_0, .int .i64 p1_1, .int .i64 p1_2, .slice a_p1_3 p1_3.length c_p1_3]⟩], [⟨b6, 24, [.int .i64 0, .int .i64 0, .int .i64 0, .slice none 0 0]⟩], [⟨b15, 24, [.int .i64 s_4, .int .i64 s_5, .int .i64 s_6, .slice a12 ((l_3).length) c13]⟩], p.2]) ?_ (fun hk24 => ?_)
          · rintro ⟨l_9, L21⟩ ⟨hq30, hL21⟩
            subst hq30
            refine WK.sub (e' := [(6, .pointer (some ⟨b6, 0, none⟩)), (7, .int .i64 0), (9, .pointer (some ⟨b15, 0, none⟩))]) ⟨rfl, rfl, rfl, trivial⟩ (WK.cls (C' := St w0 m m [[⟨b4, 24, [.int .i64 p0_0, .int .i64 p0_1, .int .i64 p0_2, .slice a_p0_3 p0_3.length c_p0_3]⟩], [⟨b5, 24, [.int .i64 p1_0, .int .i64 p1_1, .int .i64 p1_2, .slice a_p1_3 p1_3.length c_p1_3]⟩], [⟨b6, 24, [.int .i64 0, .int .i64 0, .int .i64 0, .slice none 0 0]⟩], [⟨b15, 24, [.int .i64 s_4, .int .i64 s_5, .int .i64 s_6, .slice a12 ((l_3).length) c13]⟩], L21]) (fun _ h => h) ?_)
            refine WK_seq ?_
            refine WK_region ?_
            refine WO_loadB tbok 3 rfl rfl rfl rfl (fun _ h => h) rfl rfl ?_
            refine WO_storeB tbok 2 [.int .i64 s_4, .int .i64 s_5, .int .i64 s_6, .slice a12 ((l_3).length) c13] rfl rfl rfl rfl rfl rfl rfl ?_
            refine WO.cls (C' := St w0 m m [[⟨b4, 24, [.int .i64 p0_0, .int .i64 p0_1, .int .i64 p0_2, .slice a_p0_3 p0_3.length c_p0_3]⟩], [⟨b5, 24, [.int .i64 p1_0, .int .i64 p1_1, .int .i64 p1_2, .slice a_p1_3 p1_3.length c_p1_3]⟩], [⟨b6, 24, [.int .i64 s_4, .int .i64 s_5, .int .i64 s_6, .slice a12 ((l_3).length) c13]⟩], [⟨b15, 24, [.int .i64 s_4, .int .i64 s_5, .int .i64 s_6, .slice a12 ((l_3).length) c13]⟩], L21]) (fun _ h => h) ?_
            refine WO_pure tbok 1 [(6, .pointer (some ⟨b6, 0, none⟩)), (7, .int .i64 0)] rfl ⟨rfl, rfl, trivial⟩ ?_
            refine WO_end ?_
            cases hm
            exact WK_ret (ret_out (L := L21) (RLc_cell tbok 2 rfl rfl rfl (RLc_tmp rfl RLc_nil)) (seg_sub 4 rfl) ⟨a12, _, c13, rfl, hL21⟩)
          · refine WK_block ?_
            refine WK_loop (S := List Int × Int) (G := List Ent) (fun s => seam_Mosaic_s1 p0_0 p0_3 p2 s.1 s.2) (fun s g => [(3, .pointer (some ⟨b4, 0, none⟩)), (6, .pointer (some ⟨b6, 0, none⟩)), (7, .int .i64 0), (9, .pointer (some ⟨b15, 0, none⟩)), (40, .slice a_p2 p2.length c_p2), (41, .int .i64 (p2.length : Int)), (42, .int .i64 s.2)]) (fun s g => St w0 m m [[⟨b4, 24, [.int .i64 p0_0, .int .i64 p0_1, .int .i64 p0_2, .slice a_p0_3 p0_3.length c_p0_3]⟩], [⟨b5, 24, [.int .i64 p1_0, .int .i64 p1_1, .int .i64 p1_2, .slice a_p1_3 p1_3.length c_p1_3]⟩], [⟨b6, 24, [.int .i64 0, .int .i64 0, .int .i64 0, .slice none 0 0]⟩], [⟨b15, 24, [.int .i64 s_4, .int .i64 s_5, .int .i64 s_6, .slice a12 ((l_3).length) c13]⟩], g]) (fun s g => OwnE 3 1 (I1 .i64) (.slice a12 ((l_3).length) c13) s.1 g) FUEL (l_3, 0) L14 x22 hx23 hL14 ⟨rfl, rfl, rfl, rfl, rfl, rfl, rfl, trivial⟩ (fun _ h => h) ?_
            rintro ⟨l_7, s_8⟩ L19 o26 fl27 hm25 hL19 hn28 hd29
            have hm25 : seam_Mosaic_s1 p0_0 p0_3 p2 l_7 s_8 = some o26 := hm25
            unfold seam_Mosaic_s1 at hm25
            refine WK.sub (e' := [(3, .pointer (some ⟨b4, 0, none⟩)), (6, .pointer (some ⟨b6, 0, none⟩)), (7, .int .i64 0), (9, .pointer (some ⟨b15, 0, none⟩)), (40, .slice a_p2 p2.length c_p2), (41, .int .i64 (p2.length : Int)), (42, .int .i64 s_8)]) ⟨rfl, rfl, rfl, rfl, rfl, rfl, rfl, trivial⟩ (WK.cls (C' := St w0 m m [[⟨b4, 24, [.int .i64 p0_0, .int .i64 p0_1, .int .i64 p0_2, .slice a_p0_3 p0_3.length c_p0_3]⟩], [⟨b5, 24, [.int .i64 p1_0, .int .i64 p1_1, .int .i64 p1_2, .slice a_p1_3 p1_3.length c_p1_3]⟩], [⟨b6, 24, [.int .i64 0, .int .i64 0, .int .i64 0, .slice none 0 0]⟩], [⟨b15, 24, [.int .i64 s_4, .int .i64 s_5, .int .i64 s_6, .slice a12 ((l_3).length) c13]⟩], L19]) (fun _ h => h) ?_)
            refine WK_seq ?_
            refine WK_region ?_
            refine WO_pure tbok 1 [(3, .pointer (some ⟨b4, 0, none⟩)), (6, .pointer (some ⟨b6, 0, none⟩)), (7, .int .i64 0), (9, .pointer (some ⟨b15, 0, none⟩)), (40, .slice a_p2 p2.length c_p2), (41, .int .i64 (p2.length : Int)), (42, .int .i64 s_8), (43, .bool (decide (s_8 < (p2.length : Int))))] rfl ⟨rfl, rfl, rfl, rfl, rfl, rfl, rfl, rfl, trivial⟩ ?_
            refine WO_end ?_
            refine WK_seq ?_
            refine WK_cond (b := decide (s_8 < (p2.length : Int))) rfl (fun hb31 => ?_) (fun hb31 => ?_)
            · have hm25 := ifT hb31 hm25
              refine WK_skip ?_
              refine WK_seq ?_
              refine WK_block ?_
              refine WK_seq ?_
              refine WK_region ?_
              refine WO_pure tbok 1 [(3, .pointer (some ⟨b4, 0, none⟩)), (6, .pointer (some ⟨b6, 0, none⟩)), (7, .int .i64 0), (9, .pointer (some ⟨b15, 0, none⟩)), (40, .slice a_p2 p2.length c_p2), (41, .int .i64 (p2.length : Int)), (42, .int .i64 s_8), (44, .int .i64 s_8)] rfl ⟨rfl, rfl, rfl, rfl, rfl, rfl, rfl, rfl, trivial⟩ ?_
              obtain ⟨v_10, hy32, hm25⟩ := bind_some hm25
              obtain ⟨hc33, hy32⟩ := ix_some hy32
              refine WO_index tbok rfl rfl rfl rfl rfl rfl rfl rfl (SlR.addr h_p2) hc33 ?_
              refine WO_loadE tbok rfl rfl rfl rfl (fun _ h => St.sat h) h_p2 hy32 rfl ?_
              refine WO_pure tbok 2 [(3, .pointer (some ⟨b4, 0, none⟩)), (6, .pointer (some ⟨b6, 0, none⟩)), (7, .int .i64 0), (9, .pointer (some ⟨b15, 0, none⟩)), (10, .int .i64 s_8), (11, .int .i64 v_10), (40, .slice a_p2 p2.length c_p2), (41, .int .i64 (p2.length : Int)), (42, .int .i64 s_8)] rfl ⟨rfl, rfl, rfl, rfl, rfl, rfl, rfl, rfl, rfl, trivial⟩ ?_
              refine WO_end ?_
              refine WK_draw 20 [0, 1, 2, 3, 4, 5, 6, 7, 8, 9, 10, 11, 12, 13, 14, 15, 16, 17, 18, 19] follows_ok (by kernel_rfl) St_closed ?_
              refine WO_pure tbok 1 [(3, .pointer (some ⟨b4, 0, none⟩)), (6, .pointer (some ⟨b6, 0, none⟩)), (7, .int .i64 0), (9, .pointer (some ⟨b15, 0, none⟩)), (10, .int .i64 s_8), (11, .int .i64 v_10), (40, .slice a_p2 p2.length c_p2), (41, .int .i64 (p2.length : Int)), (42, .int .i64 s_8), (47, .pointer (some ⟨b15, 3, none⟩))] rfl ⟨rfl, rfl, rfl, rfl, rfl, rfl, rfl, rfl, rfl, rfl, trivial⟩ ?_
              refine WO_loadB tbok 3 rfl rfl rfl rfl (fun _ h => h) rfl rfl ?_
              refine WO_pure tbok 2 [(3, .pointer (some ⟨b4, 0, none⟩)), (6, .pointer (some ⟨b6, 0, none⟩)), (7, .int .i64 0), (9, .pointer (some ⟨b15, 0, none⟩)), (10, .int .i64 s_8), (11, .int .i64 v_10), (40, .slice a_p2 p2.length c_p2), (41, .int .i64 (p2.length : Int)), (42, .int .i64 s_8), (48, .slice a12 ((l_3).length) c13), (49, .int .i64 s_8), (50, .pointer (some ⟨b4, 0, none⟩))] rfl ⟨rfl, rfl, rfl, rfl, rfl, rfl, rfl, rfl, rfl, rfl, rfl, rfl, trivial⟩ ?_
              refine WO_loadB tbok 0 rfl rfl rfl rfl (fun _ h => h) rfl rfl ?_
              refine WO_pure tbok 1 [(3, .pointer (some ⟨b4, 0, none⟩)), (6, .pointer (some ⟨b6, 0, none⟩)), (7, .int .i64 0), (9, .pointer (some ⟨b15, 0, none⟩)), (10, .int .i64 s_8), (11, .int .i64 v_10), (40, .slice a_p2 p2.length c_p2), (41, .int .i64 (p2.length : Int)), (42, .int .i64 s_8), (48, .slice a12 ((l_3).length) c13), (52, .int .i64 (w64 (s_8 * p0_0)))] rfl ⟨rfl, rfl, rfl, rfl, rfl, rfl, rfl, rfl, rfl, rfl, rfl, trivial⟩ ?_
              obtain ⟨hc34, hm25⟩ := chk_some hm25
              have hc34 : 0 ≤ (w64 (s_8 * p0_0) : Int) ∧ (w64 (s_8 * p0_0) : Int) ≤ (l_7.length : Int) ∧ (l_7.length : Int) ≤ (l_7.length : Int) := hc34
              have hz38 : OwnE 3 1 (I1 .i64) (.slice a12 ((l_3).length) c13) l_7 L19 := hL19
              refine WO_sliceV (E := (I1 .i64)) tbok (fun _ => rfl) (some (w64 (s_8 * p0_0) : Int)) none (w64 (s_8 * p0_0) : Int).toNat l_7.length rfl rfl rfl rfl rfl rfl rfl rfl rfl rfl hz38 (by simp only [Option.getD_some] <;> omega) (by have := OwnE.qlen hz38; simp only [Option.getD_none] <;> omega) (by omega) (by omega) (fun a35 c36 h37 h37d => ?_)
              refine WO_pure tbok 1 [(3, .pointer (some ⟨b4, 0, none⟩)), (6, .pointer (some ⟨b6, 0, none⟩)), (7, .int .i64 0), (9, .pointer (some ⟨b15, 0, none⟩)), (10, .int .i64 s_8), (11, .int .i64 v_10), (40, .slice a_p2 p2.length c_p2), (41, .int .i64 (p2.length : Int)), (42, .int .i64 s_8), (53, .slice a35 (((l_7.take l_7.length).drop (w64 (s_8 * p0_0) : Int).toNat).length) c36), (54, .pointer (some ⟨b4, 3, none⟩))] rfl ⟨rfl, rfl, rfl, rfl, rfl, rfl, rfl, rfl, rfl, rfl, rfl, trivial⟩ ?_
              refine WO_loadB tbok 0 rfl rfl rfl rfl (fun _ h => h) rfl rfl ?_
              refine WO_pure tbok 2 [(3, .pointer (some ⟨b4, 0, none⟩)), (6, .pointer (some ⟨b6, 0, none⟩)), (7, .int .i64 0), (9, .pointer (some ⟨b15, 0, none⟩)), (10, .int .i64 s_8), (11, .int .i64 v_10), (40, .slice a_p2 p2.length c_p2), (41, .int .i64 (p2.length : Int)), (42, .int .i64 s_8), (53, .slice a35 (((l_7.take l_7.length).drop (w64 (s_8 * p0_0) : Int).toNat).length) c36), (55, .slice a_p0_3 p0_3.length c_p0_3), (56, .int .i64 s_8), (57, .pointer (some ⟨b4, 0, none⟩))] rfl ⟨rfl, rfl, rfl, rfl, rfl, rfl, rfl, rfl, rfl, rfl, rfl, rfl, rfl, trivial⟩ ?_
              refine WO_loadB tbok 0 rfl rfl rfl rfl (fun _ h => h) rfl rfl ?_
              refine WO_pure tbok 3 [(3, .pointer (some ⟨b4, 0, none⟩)), (6, .pointer (some ⟨b6, 0, none⟩)), (7, .int .i64 0), (9, .pointer (some ⟨b15, 0, none⟩)), (11, .int .i64 v_10), (40, .slice a_p2 p2.length c_p2), (41, .int .i64 (p2.length : Int)), (42, .int .i64 s_8), (53, .slice a35 (((l_7.take l_7.length).drop (w64 (s_8 * p0_0) : Int).toNat).length) c36), (55, .slice a_p0_3 p0_3.length c_p0_3), (59, .int .i64 (w64 (s_8 * p0_0))), (60, .int .i64 s_8), (61, .pointer (some ⟨b4, 0, none⟩))] rfl ⟨rfl, rfl, rfl, rfl, rfl, rfl, rfl, rfl, rfl, rfl, rfl, rfl, rfl, trivial⟩ ?_
              refine WO_loadB tbok 0 rfl rfl rfl rfl (fun _ h => h) rfl rfl ?_
              refine WO_pure tbok 3 [(3, .pointer (some ⟨b4, 0, none⟩)), (6, .pointer (some ⟨b6, 0, none⟩)), (7, .int .i64 0), (9, .pointer (some ⟨b15, 0, none⟩)), (40, .slice a_p2 p2.length c_p2), (41, .int .i64 (p2.length : Int)), (42, .int .i64 s_8), (53, .slice a35 (((l_7.take l_7.length).drop (w64 (s_8 * p0_0) : Int).toNat).length) c36), (55, .slice a_p0_3 p0_3.length c_p0_3), (59, .int .i64 (w64 (s_8 * p0_0))), (65, .int .i64 (w64 ((w64 (s_8 * p0_0)) + v_10)))] rfl ⟨rfl, rfl, rfl, rfl, rfl, rfl, rfl, rfl, rfl, rfl, rfl, trivial⟩ ?_
              obtain ⟨hc40, hm25⟩ := chk_some hm25
              have hc40 : 0 ≤ (w64 (s_8 * p0_0) : Int) ∧ (w64 (s_8 * p0_0) : Int) ≤ (w64 ((w64 (s_8 * p0_0)) + v_10) : Int) ∧ (w64 ((w64 (s_8 * p0_0)) + v_10) : Int) ≤ (p0_3.length : Int) := hc40
              have hz44 : SlR (FE (I1 .i64)) 1 m (.slice a_p0_3 p0_3.length c_p0_3) p0_3 := h_p0_3
              refine WO_slice tbok (some (w64 (s_8 * p0_0) : Int)) (some (w64 ((w64 (s_8 * p0_0)) + v_10) : Int)) none (w64 (s_8 * p0_0) : Int).toNat (w64 ((w64 (s_8 * p0_0)) + v_10) : Int).toNat rfl rfl rfl rfl rfl rfl rfl rfl rfl rfl rfl hz44 (by simp only [Option.getD_some] <;> omega) (by simp only [Option.getD_some] <;> omega) (fun q hq => by cases hq) (by omega) (by omega) (fun hh => by cases hh) (fun a41 c42 h43 => ?_)
              refine WO_tail ?_
              have hz47 : OwnE 3 1 (I1 .i64) (.slice a12 ((l_3).length) c13) l_7 L19 := hL19
              refine WO_copy (E := (I1 .i64)) tbok (fun _ => rfl) (fun _ => rfl) 4 ((w64 (s_8 * p0_0) : Int).toNat) ((p0_3.take (w64 ((w64 (s_8 * p0_0)) + v_10) : Int).toNat).drop (w64 (s_8 * p0_0) : Int).toNat) (((l_7.take l_7.length).drop (w64 (s_8 * p0_0) : Int).toNat).length) rfl rfl rfl rfl rfl rfl rfl rfl rfl rfl hz47 rfl rfl (by rw [List.length_drop, List.length_take]; omega) h37d (fun w hw => ⟨_, hw.sat, h43⟩) (fun L46 hL46 => ?_)
              refine WO.cls (C' := St w0 m m [[⟨b4, 24, [.int .i64 p0_0, .int .i64 p0_1, .int .i64 p0_2, .slice a_p0_3 p0_3.length c_p0_3]⟩], [⟨b5, 24, [.int .i64 p1_0, .int .i64 p1_1, .int .i64 p1_2, .slice a_p1_3 p1_3.length c_p1_3]⟩], [⟨b6, 24, [.int .i64 0, .int .i64 0, .int .i64 0, .slice none 0 0]⟩], [⟨b15, 24, [.int .i64 s_4, .int .i64 s_5, .int .i64 s_6, .slice a12 ((l_3).length) c13]⟩], L46]) (fun _ h => h) ?_
              refine WO_end ?_
              refine WK_blk ?_
              refine WK_region ?_
              refine WO_pure tbok 2 [(3, .pointer (some ⟨b4, 0, none⟩)), (6, .pointer (some ⟨b6, 0, none⟩)), (7, .int .i64 0), (9, .pointer (some ⟨b15, 0, none⟩)), (40, .slice a_p2 p2.length c_p2), (41, .int .i64 (p2.length : Int)), (42, .int .i64 (w64 (s_8 + 1)))] rfl ⟨rfl, rfl, rfl, rfl, rfl, rfl, rfl, trivial⟩ ?_
              refine WO_end ?_
              cases hm25
              refine WK.sub ?_ (WK.cls (fun _ h => h) (hn28 _ L46 rfl hL46))
              exact ⟨rfl, rfl, rfl, rfl, rfl, rfl, rfl, trivial⟩
            · have hm25 := ifF hb31 hm25
              refine WK_exit rfl ?_
              cases hm25
              refine WK.sub ?_ (WK.cls (fun _ h => h) (hk24 (l_7, L19) ⟨(hd29 _ rfl), hL19⟩))
              exact ⟨rfl, rfl, rfl, trivial⟩
        · refine WK_plan 11 [0, 2, 4, 6] (.run [1, 3, 5, 7] (.alt 8 (.run [9, 10] .fin) (.alt 10 (.run [8, 9] .fin) .none))) follows_ok (by kernel_rfl) St_closed ?_
          refine WO_pure tbok 4 [(2, .slice a_p2 p2.length c_p2), (3, .pointer (some ⟨b4, 0, none⟩)), (6, .pointer (some ⟨b6, 0, none⟩)), (7, .int .i64 0), (30, .pointer (some ⟨b4, 0, none⟩)), (32, .pointer (some ⟨b4, 1, none⟩)), (34, .pointer (some ⟨b4, 2, none⟩)), (36, .pointer (some ⟨b5, 3, none⟩))] rfl ⟨rfl, rfl, rfl, rfl, rfl, rfl, rfl, rfl, trivial⟩ ?_
          refine WO_plan ?_
          refine WT_run ?_
          refine WO_loadB tbok 0 rfl rfl rfl rfl (fun _ h => h) rfl rfl ?_
          refine WO_loadB tbok 0 rfl rfl rfl rfl (fun _ h => h) rfl rfl ?_
          refine WO_loadB tbok 0 rfl rfl rfl rfl (fun _ h => h) rfl rfl ?_
          refine WO_loadB tbok 1 rfl rfl rfl rfl (fun _ h => h) rfl rfl ?_
          refine WO_tree rfl ?_
          refine WT_alt rfl ?_ ?_
          · obtain ⟨y_11, hc49, hx16⟩ := bind_some hx16
            refine WO_call1 (slices_Clone_sint_Q y_11) rfl rfl St_closed rfl rfl rfl rfl ⟨42, #[], #[], rfl, callable_42, fun w hw => ⟨_, hw.sat, slices_Clone_sint_walk h_p1_3 hc49⟩⟩ (fun v54 L53 hq => ?_)
            obtain ⟨a50, qa50, c51, rfl, hL53⟩ := hq
            obtain rfl := OwnE.qlen hL53
            refine WO.cls (C' := St w0 m m [[⟨b4, 24, [.int .i64 p0_0, .int .i64 p0_1, .int .i64 p0_2, .slice a_p0_3 p0_3.length c_p0_3]⟩], [⟨b5, 24, [.int .i64 p1_0, .int .i64 p1_1, .int .i64 p1_2, .slice a_p1_3 p1_3.length c_p1_3]⟩], [⟨b6, 24, [.int .i64 0, .int .i64 0, .int .i64 0, .slice none 0 0]⟩], L53]) (fun _ h => h) ?_
            refine WO_tree rfl ?_
            refine WT_run ?_
            refine WO_pure tbok 1 [(2, .slice a_p2 p2.length c_p2), (3, .pointer (some ⟨b4, 0, none⟩)), (6, .pointer (some ⟨b6, 0, none⟩)), (7, .int .i64 0), (39, .agg #[.int .i64 p0_0, .int .i64 p0_1, .int .i64 p0_2, .slice a50 ((y_11).length) c51])] rfl ⟨rfl, rfl, rfl, rfl, rfl, trivial⟩ ?_
            refine WO_alloc tbok [.int .i64 0, .int .i64 0, .int .i64 0, .slice none 0 0] rfl rfl St_closed rfl rfl rfl rfl (fun b55 => ?_)
            refine WO.cls (C' := St w0 m m [[⟨b4, 24, [.int .i64 p0_0, .int .i64 p0_1, .int .i64 p0_2, .slice a_p0_3 p0_3.length c_p0_3]⟩], [⟨b5, 24, [.int .i64 p1_0, .int .i64 p1_1, .int .i64 p1_2, .slice a_p1_3 p1_3.length c_p1_3]⟩], [⟨b6, 24, [.int .i64 0, .int .i64 0, .int .i64 0, .slice none 0 0]⟩], L53, [⟨b55, 24, [.int .i64 0, .int .i64 0, .int .i64 0, .slice none 0 0]⟩]]) (fun _ h => h) ?_
            refine WO_tree rfl ?_
            refine WT_fin ?_
            refine WO_storeB tbok 4 [.int .i64 p0_0, .int .i64 p0_1, .int .i64 p0_2, .slice a50 ((y_11).length) c51] rfl rfl rfl rfl rfl rfl rfl ?_
            refine WO.cls (C' := St w0 m m [[⟨b4, 24, [.int .i64 p0_0, .int .i64 p0_1, .int .i64 p0_2, .slice a_p0_3 p0_3.length c_p0_3]⟩], [⟨b5, 24, [.int .i64 p1_0, .int .i64 p1_1, .int .i64 p1_2, .slice a_p1_3 p1_3.length c_p1_3]⟩], [⟨b6, 24, [.int .i64 0, .int .i64 0, .int .i64 0, .slice none 0 0]⟩], L53, [⟨b55, 24, [.int .i64 p0_0, .int .i64 p0_1, .int .i64 p0_2, .slice a50 ((y_11).length) c51]⟩]]) (fun _ h => h) ?_
            refine WO_end ?_
            refine WK.cls (fun _ h => h.perm (Ls' := [[⟨b4, 24, [.int .i64 p0_0, .int .i64 p0_1, .int .i64 p0_2, .slice a_p0_3 p0_3.length c_p0_3]⟩], [⟨b5, 24, [.int .i64 p1_0, .int .i64 p1_1, .int .i64 p1_2, .slice a_p1_3 p1_3.length c_p1_3]⟩], [⟨b6, 24, [.int .i64 0, .int .i64 0, .int .i64 0, .slice none 0 0]⟩], [⟨b55, 24, [.int .i64 p0_0, .int .i64 p0_1, .int .i64 p0_2, .slice a50 ((y_11).length) c51]⟩], L53]) (List.Perm.flatten (List.Perm.cons _ (List.Perm.cons _ (List.Perm.cons _ (List.Perm.swap _ _ _)))))) ?_
            cases hx16
            refine WK.sub ?_ (hk17 ⟨a50, c51, L53, b55⟩ hL53)
            exact ⟨rfl, rfl, rfl, rfl, rfl, trivial⟩
          · refine WT_alt rfl ?_ ?_
            · refine WO_alloc tbok [.int .i64 0, .int .i64 0, .int .i64 0, .slice none 0 0] rfl rfl St_closed rfl rfl rfl rfl (fun b56 => ?_)
              refine WO.cls (C' := St w0 m m [[⟨b4, 24, [.int .i64 p0_0, .int .i64 p0_1, .int .i64 p0_2, .slice a_p0_3 p0_3.length c_p0_3]⟩], [⟨b5, 24, [.int .i64 p1_0, .int .i64 p1_1, .int .i64 p1_2, .slice a_p1_3 p1_3.length c_p1_3]⟩], [⟨b6, 24, [.int .i64 0, .int .i64 0, .int .i64 0, .slice none 0 0]⟩], [⟨b56, 24, [.int .i64 0, .int .i64 0, .int .i64 0, .slice none 0 0]⟩]]) (fun _ h => h) ?_
              refine WO_tree rfl ?_
              refine WT_run ?_
              obtain ⟨y_11, hc57, hx16⟩ := bind_some hx16
              refine WO_call1 (slices_Clone_sint_Q y_11) rfl rfl St_closed rfl rfl rfl rfl ⟨42, #[], #[], rfl, callable_42, fun w hw => ⟨_, hw.sat, slices_Clone_sint_walk h_p1_3 hc57⟩⟩ (fun v62 L61 hq => ?_)
              obtain ⟨a58, qa58, c59, rfl, hL61⟩ := hq
              obtain rfl := OwnE.qlen hL61
              refine WO.cls (C' := St w0 m m [[⟨b4, 24, [.int .i64 p0_0, .int .i64 p0_1, .int .i64 p0_2, .slice a_p0_3 p0_3.length c_p0_3]⟩], [⟨b5, 24, [.int .i64 p1_0, .int .i64 p1_1, .int .i64 p1_2, .slice a_p1_3 p1_3.length c_p1_3]⟩], [⟨b6, 24, [.int .i64 0, .int .i64 0, .int .i64 0, .slice none 0 0]⟩], [⟨b56, 24, [.int .i64 0, .int .i64 0, .int .i64 0, .slice none 0 0]⟩], L61]) (fun _ h => h) ?_
              refine WO_pure tbok 1 [(2, .slice a_p2 p2.length c_p2), (3, .pointer (some ⟨b4, 0, none⟩)), (6, .pointer (some ⟨b6, 0, none⟩)), (7, .int .i64 0), (9, .pointer (some ⟨b56, 0, none⟩)), (39, .agg #[.int .i64 p0_0, .int .i64 p0_1, .int .i64 p0_2, .slice a58 ((y_11).length) c59])] rfl ⟨rfl, rfl, rfl, rfl, rfl, rfl, trivial⟩ ?_
              refine WO_tree rfl ?_
              refine WT_fin ?_
              refine WO_storeB tbok 3 [.int .i64 p0_0, .int .i64 p0_1, .int .i64 p0_2, .slice a58 ((y_11).length) c59] rfl rfl rfl rfl rfl rfl rfl ?_
              refine WO.cls (C' := St w0 m m [[⟨b4, 24, [.int .i64 p0_0, .int .i64 p0_1, .int .i64 p0_2, .slice a_p0_3 p0_3.length c_p0_3]⟩], [⟨b5, 24, [.int .i64 p1_0, .int .i64 p1_1, .int .i64 p1_2, .slice a_p1_3 p1_3.length c_p1_3]⟩], [⟨b6, 24, [.int .i64 0, .int .i64 0, .int .i64 0, .slice none 0 0]⟩], [⟨b56, 24, [.int .i64 p0_0, .int .i64 p0_1, .int .i64 p0_2, .slice a58 ((y_11).length) c59]⟩], L61]) (fun _ h => h) ?_
              refine WO_end ?_
              cases hx16
              refine WK.sub ?_ (hk17 ⟨a58, c59, L61, b56⟩ hL61)
              exact ⟨rfl, rfl, rfl, rfl, rfl, trivial⟩
            · exact WT_none
    · refine WK_region ?_
      refine WO_pure tbok 3 [(2, .slice a_p2 p2.length c_p2), (3, .pointer (some ⟨b4, 0, none⟩)), (4, .pointer (some ⟨b5, 0, none⟩)), (6, .pointer (some ⟨b6, 0, none⟩)), (7, .int .i64 0), (20, .int .i64 (p2.length : Int)), (21, .pointer (some ⟨b4, 1, none⟩))] rfl ⟨rfl, rfl, rfl, rfl, rfl, rfl, rfl, trivial⟩ ?_
      refine WO_loadB tbok 0 rfl rfl rfl rfl (fun _ h => h) rfl rfl ?_
      refine WO_pure tbok 2 [(2, .slice a_p2 p2.length c_p2), (3, .pointer (some ⟨b4, 0, none⟩)), (4, .pointer (some ⟨b5, 0, none⟩)), (6, .pointer (some ⟨b6, 0, none⟩)), (7, .int .i64 0), (24, .bool ((p2.length : Int) != p0_1))] rfl ⟨rfl, rfl, rfl, rfl, rfl, rfl, trivial⟩ ?_
      refine WO_split (d := 24) (b := (p2.length : Int) != p0_1) rfl (fun hb63 => ?_) (fun hb63 => ?_)
      · have hx9 := ifT hb63 hx9
        refine WO_pure tbok 2 [(2, .slice a_p2 p2.length c_p2), (3, .pointer (some ⟨b4, 0, none⟩)), (4, .pointer (some ⟨b5, 0, none⟩)), (6, .pointer (some ⟨b6, 0, none⟩)), (7, .int .i64 0), (24, .bool true)] rfl ⟨rfl, rfl, rfl, rfl, rfl, rfl, trivial⟩ ?_
        refine WO_skip rfl rfl ?_
        refine WO_pure tbok 1 [(2, .slice a_p2 p2.length c_p2), (3, .pointer (some ⟨b4, 0, none⟩)), (4, .pointer (some ⟨b5, 0, none⟩)), (6, .pointer (some ⟨b6, 0, none⟩)), (7, .int .i64 0), (28, .bool true)] rfl ⟨rfl, rfl, rfl, rfl, rfl, rfl, trivial⟩ ?_
        refine WO_end ?_
        cases hx9
        refine WK.sub ?_ (WK.cls (fun _ h => h) hk10)
        exact ⟨rfl, rfl, rfl, rfl, rfl, rfl, trivial⟩
      · have hx9 := ifF hb63 hx9
        refine WO_pure tbok 2 [(2, .slice a_p2 p2.length c_p2), (3, .pointer (some ⟨b4, 0, none⟩)), (4, .pointer (some ⟨b5, 0, none⟩)), (6, .pointer (some ⟨b6, 0, none⟩)), (7, .int .i64 0), (24, .bool false), (25, .slice a_p2 p2.length c_p2), (26, .func (.func 41) #[] #[.pointer (some ⟨b4, 0, none⟩)])] rfl ⟨rfl, rfl, rfl, rfl, rfl, rfl, rfl, rfl, trivial⟩ ?_
        obtain ⟨y_13, hc64, hx9⟩ := bind_some hx9
        refine WO_call0 (.bool y_13) rfl rfl trivial rfl rfl rfl rfl St_closed ⟨40, #[], #[], rfl, callable_40, fun w hw => ⟨_, hw.satV, slices_ContainsFunc_sint_walk (h_p2.mono (mono_FE _) hw.leV) (fun m1 hm1 z_12 _ h => specV_cap callable_41 (seam_Mosaic_c1_walk (hm1 _ _ (hw.memV (i := 0) rfl (List.mem_singleton.2 rfl))) ((h_p0_3.mono (mono_FE _) hw.leV).mono (mono_FE _) hm1) h)) hc64⟩⟩ ?_
        refine WO_pure tbok 1 [(2, .slice a_p2 p2.length c_p2), (3, .pointer (some ⟨b4, 0, none⟩)), (4, .pointer (some ⟨b5, 0, none⟩)), (6, .pointer (some ⟨b6, 0, none⟩)), (7, .int .i64 0), (28, .bool y_13)] rfl ⟨rfl, rfl, rfl, rfl, rfl, rfl, trivial⟩ ?_
        refine WO_end ?_
        cases hx9
        refine WK.sub ?_ (WK.cls (fun _ h => h) hk10)
        exact ⟨rfl, rfl, rfl, rfl, rfl, rfl, trivial⟩
end Go.Proofs.Ytbolefkhmfbnlaa
