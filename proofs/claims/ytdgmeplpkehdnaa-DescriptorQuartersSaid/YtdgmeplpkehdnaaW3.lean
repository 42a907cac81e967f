import Derived.Test.YtdgmeplpkehdnaaTab
import Derived.Test.YtdgmeplpkehdnaaM
import Derived.Test.YtdgmeplpkehdnaaW2
set_option linter.unusedVariables false
set_option maxRecDepth 100000
set_option maxHeartbeats 4000000
namespace Go.Proofs.Ytdgmeplpkehdnaa
open Go.E Go.RowKit
attribute [local irreducible] Go.E.WO Go.E.WK
theorem fiduciallaw21_word_walk {m : Mu} {p0_0 : Int} {p0_1 : Int} {p0_2 : Int} {p0_3 : List Int} {p1 : List (Int × Int × Int × Int × Int × Int × Int × Int)} {p2 : Int} {p3 : Int} {a_p0_3 : Option Addr} {q_p0_3 c_p0_3 : Nat} {a_p1 : Option Addr} {q_p1 c_p1 : Nat} (h_p0_3 : SlR (FE (I1 .i64)) 1 m (.slice a_p0_3 q_p0_3 c_p0_3) p0_3) (h_p1 : SlR (FE T8) 8 m (.slice a_p1 q_p1 c_p1) p1) {r : Int × Bool} (hm : fiduciallaw21_word p0_0 p0_1 p0_2 p0_3 p1 p2 p3 = some r) :
    Go.E.Spec Try.prog 18 [.agg #[.int .i64 p0_0, .int .i64 p0_1, .int .i64 p0_2, .slice a_p0_3 q_p0_3 c_p0_3], .slice a_p1 q_p1 c_p1, .int .i64 p2, .int .i64 p3] m (fun v _ _ => v = .tuple #[.int .u64 r.1, .bool r.2]) := by
  refine Spec_enter Try.func18 rfl rfl rfl (fun w0 => ?_)
  refine WK.sub (e' := [(0, .agg #[.int .i64 p0_0, .int .i64 p0_1, .int .i64 p0_2, .slice a_p0_3 q_p0_3 c_p0_3]), (1, .slice a_p1 q_p1 c_p1), (2, .int .i64 p2), (3, .int .i64 p3)]) ⟨rfl, rfl, rfl, rfl, trivial⟩ ?_
  obtain rfl := SlR.qlen h_p0_3
  obtain rfl := SlR.qlen h_p1
  refine WK.sub (e' := [(0, .agg #[.int .i64 p0_0, .int .i64 p0_1, .int .i64 p0_2, .slice a_p0_3 p0_3.length c_p0_3]), (1, .slice a_p1 p1.length c_p1), (2, .int .i64 p2), (3, .int .i64 p3)]) ⟨rfl, rfl, rfl, rfl, trivial⟩ ?_
  unfold fiduciallaw21_word at hm
  refine WK_seq ?_
  refine WK_region ?_
  refine WO_box [.int .i64 p0_0, .int .i64 p0_1, .int .i64 p0_2, .slice a_p0_3 p0_3.length c_p0_3] rfl rfl trivial rfl rfl rfl (fun b3 => ?_)
  refine WO.cls (C' := St w0 m m [[⟨b3, 29, [.int .i64 p0_0, .int .i64 p0_1, .int .i64 p0_2, .slice a_p0_3 p0_3.length c_p0_3]⟩]]) (fun _ h => h) ?_
  refine WO_pure tbok 2 [(1, .slice a_p1 p1.length c_p1), (2, .int .i64 p2), (3, .int .i64 p3), (4, .pointer (some ⟨b3, 0, none⟩)), (8, .int .u64 0), (9, .bool false)] rfl ⟨rfl, rfl, rfl, rfl, rfl, rfl, trivial⟩ ?_
  refine WO_end ?_
  refine WK_seq ?_
  refine WK_region ?_
  refine WO_pure tbok 1 [(1, .slice a_p1 p1.length c_p1), (2, .int .i64 p2), (3, .int .i64 p3), (4, .pointer (some ⟨b3, 0, none⟩)), (8, .int .u64 0), (9, .bool false), (10, .int .u64 0)] rfl ⟨rfl, rfl, rfl, rfl, rfl, rfl, rfl, trivial⟩ ?_
  refine WO_end ?_
  refine WK_seq ?_
  refine WK_seq ?_
  refine WK_region ?_
  refine WO_pure tbok 3 [(2, .int .i64 p2), (3, .int .i64 p3), (4, .pointer (some ⟨b3, 0, none⟩)), (8, .int .u64 0), (9, .bool false), (10, .int .u64 0), (15, .slice a_p1 p1.length c_p1), (16, .int .i64 (p1.length : Int)), (17, .int .i64 0)] rfl ⟨rfl, rfl, rfl, rfl, rfl, rfl, rfl, rfl, rfl, trivial⟩ ?_
  refine WO_end ?_
  obtain ⟨x4, hx5, hm⟩ := bind_some hm
  refine WK_join (β := Int × Unit) (fun p => Sum.inr p.1 = x4) (fun p => [(8, .int .u64 0), (9, .bool false), (10, .int .u64 p.1)]) (fun p => St w0 m m [[⟨b3, 29, [.int .i64 p0_0, .int .i64 p0_1, .int .i64 p0_2, .slice a_p0_3 p0_3.length c_p0_3]⟩]]) ?_ (fun hk6 => ?_)
  · rintro ⟨s_3, ⟨⟩⟩ hq12
    subst hq12
    refine WK.sub (e' := [(8, .int .u64 0), (9, .bool false), (10, .int .u64 s_3)]) ⟨rfl, rfl, rfl, trivial⟩ (WK.cls (C' := St w0 m m [[⟨b3, 29, [.int .i64 p0_0, .int .i64 p0_1, .int .i64 p0_2, .slice a_p0_3 p0_3.length c_p0_3]⟩]]) (fun _ h => h) ?_)
    refine WK_seq ?_
    refine WK_region ?_
    refine WO_pure tbok 3 [(8, .int .u64 s_3), (9, .bool true)] rfl ⟨rfl, rfl, trivial⟩ ?_
    refine WO_end ?_
    cases hm
    exact WK_ret (ret_out (L := []) (RLc_tmp rfl (RLc_tmp rfl RLc_nil)) (List.nil_sublist _) rfl)
  · refine WK_block ?_
    refine WK_loop (S := Int × Int) (G := Unit) (fun s => fiduciallaw21_word_s1 p0_0 p0_1 p0_2 p0_3 p1 p2 p3 s.1 s.2) (fun s g => [(2, .int .i64 p2), (3, .int .i64 p3), (4, .pointer (some ⟨b3, 0, none⟩)), (8, .int .u64 0), (9, .bool false), (10, .int .u64 s.1), (15, .slice a_p1 p1.length c_p1), (16, .int .i64 (p1.length : Int)), (17, .int .i64 s.2)]) (fun s g => St w0 m m [[⟨b3, 29, [.int .i64 p0_0, .int .i64 p0_1, .int .i64 p0_2, .slice a_p0_3 p0_3.length c_p0_3]⟩]]) (fun s g => True) FUEL (0, 0) () x4 hx5 trivial ⟨rfl, rfl, rfl, rfl, rfl, rfl, rfl, rfl, rfl, trivial⟩ (fun _ h => h) ?_
    rintro ⟨s_1, s_2⟩ ⟨⟩ o8 fl9 hm7 - hn10 hd11
    have hm7 : fiduciallaw21_word_s1 p0_0 p0_1 p0_2 p0_3 p1 p2 p3 s_1 s_2 = some o8 := hm7
    unfold fiduciallaw21_word_s1 at hm7
    refine WK.sub (e' := [(2, .int .i64 p2), (3, .int .i64 p3), (4, .pointer (some ⟨b3, 0, none⟩)), (8, .int .u64 0), (9, .bool false), (10, .int .u64 s_1), (15, .slice a_p1 p1.length c_p1), (16, .int .i64 (p1.length : Int)), (17, .int .i64 s_2)]) ⟨rfl, rfl, rfl, rfl, rfl, rfl, rfl, rfl, rfl, trivial⟩ (WK.cls (C' := St w0 m m [[⟨b3, 29, [.int .i64 p0_0, .int .i64 p0_1, .int .i64 p0_2, .slice a_p0_3 p0_3.length c_p0_3]⟩]]) (fun _ h => h) ?_)
    refine WK_seq ?_
    refine WK_region ?_
    refine WO_pure tbok 1 [(2, .int .i64 p2), (3, .int .i64 p3), (4, .pointer (some ⟨b3, 0, none⟩)), (8, .int .u64 0), (9, .bool false), (10, .int .u64 s_1), (15, .slice a_p1 p1.length c_p1), (16, .int .i64 (p1.length : Int)), (17, .int .i64 s_2), (18, .bool (decide (s_2 < (p1.length : Int))))] rfl ⟨rfl, rfl, rfl, rfl, rfl, rfl, rfl, rfl, rfl, rfl, trivial⟩ ?_
    refine WO_end ?_
    refine WK_seq ?_
    refine WK_cond (b := decide (s_2 < (p1.length : Int))) rfl (fun hb13 => ?_) (fun hb13 => ?_)
    · have hm7 := ifT hb13 hm7
      refine WK_skip ?_
      refine WK_seq ?_
      refine WK_block ?_
      refine WK_seq ?_
      refine WK_region ?_
      refine WO_pure tbok 1 [(2, .int .i64 p2), (3, .int .i64 p3), (4, .pointer (some ⟨b3, 0, none⟩)), (8, .int .u64 0), (9, .bool false), (10, .int .u64 s_1), (15, .slice a_p1 p1.length c_p1), (16, .int .i64 (p1.length : Int)), (17, .int .i64 s_2), (19, .int .i64 s_2)] rfl ⟨rfl, rfl, rfl, rfl, rfl, rfl, rfl, rfl, rfl, rfl, trivial⟩ ?_
      obtain ⟨v_4, hy14, hm7⟩ := bind_some hm7
      obtain ⟨hc15, hy14⟩ := ix_some hy14
      refine WO_index tbok rfl rfl rfl rfl rfl rfl rfl rfl (SlR.addr h_p1) hc15 ?_
      refine WO_loadE tbok rfl rfl rfl rfl (fun _ h => St.sat h) h_p1 hy14 rfl ?_
      refine WO_alloc tbok [.int .i64 0, .int .i64 0, .int .i64 0, .int .i64 0, .int .i64 0, .int .i64 0, .int .i64 0, .int .i64 0] rfl rfl trivial rfl rfl rfl rfl (fun b16 => ?_)
      refine WO.cls (C' := St w0 m m [[⟨b3, 29, [.int .i64 p0_0, .int .i64 p0_1, .int .i64 p0_2, .slice a_p0_3 p0_3.length c_p0_3]⟩], [⟨b16, 46, [.int .i64 0, .int .i64 0, .int .i64 0, .int .i64 0, .int .i64 0, .int .i64 0, .int .i64 0, .int .i64 0]⟩]]) (fun _ h => h) ?_
      refine WO_pure tbok 1 [(2, .int .i64 p2), (3, .int .i64 p3), (4, .pointer (some ⟨b3, 0, none⟩)), (8, .int .u64 0), (9, .bool false), (10, .int .u64 s_1), (11, .int .i64 s_2), (12, .pointer (some ⟨b16, 0, none⟩)), (15, .slice a_p1 p1.length c_p1), (16, .int .i64 (p1.length : Int)), (17, .int .i64 s_2), (21, .agg #[.int .i64 v_4.1, .int .i64 v_4.2.1, .int .i64 v_4.2.2.1, .int .i64 v_4.2.2.2.1, .int .i64 v_4.2.2.2.2.1, .int .i64 v_4.2.2.2.2.2.1, .int .i64 v_4.2.2.2.2.2.2.1, .int .i64 v_4.2.2.2.2.2.2.2])] rfl ⟨rfl, rfl, rfl, rfl, rfl, rfl, rfl, rfl, rfl, rfl, rfl, rfl, trivial⟩ ?_
      refine WO_storeB tbok 1 [.int .i64 v_4.1, .int .i64 v_4.2.1, .int .i64 v_4.2.2.1, .int .i64 v_4.2.2.2.1, .int .i64 v_4.2.2.2.2.1, .int .i64 v_4.2.2.2.2.2.1, .int .i64 v_4.2.2.2.2.2.2.1, .int .i64 v_4.2.2.2.2.2.2.2] rfl rfl rfl rfl rfl rfl rfl ?_
      refine WO.cls (C' := St w0 m m [[⟨b3, 29, [.int .i64 p0_0, .int .i64 p0_1, .int .i64 p0_2, .slice a_p0_3 p0_3.length c_p0_3]⟩], [⟨b16, 46, [.int .i64 v_4.1, .int .i64 v_4.2.1, .int .i64 v_4.2.2.1, .int .i64 v_4.2.2.2.1, .int .i64 v_4.2.2.2.2.1, .int .i64 v_4.2.2.2.2.2.1, .int .i64 v_4.2.2.2.2.2.2.1, .int .i64 v_4.2.2.2.2.2.2.2]⟩]]) (fun _ h => h) ?_
      refine WO_end ?_
      refine WK_seq ?_
      refine WK_seq ?_
      obtain ⟨s_5, hx17, hm7⟩ := bind_some hm7
      refine WK_meet [(2, .int .i64 p2), (3, .int .i64 p3), (4, .pointer (some ⟨b3, 0, none⟩)), (8, .int .u64 0), (9, .bool false), (10, .int .u64 s_1), (11, .int .i64 s_2), (12, .pointer (some ⟨b16, 0, none⟩)), (15, .slice a_p1 p1.length c_p1), (16, .int .i64 (p1.length : Int)), (17, .int .i64 s_2), (37, .bool s_5)] (St w0 m m [[⟨b3, 29, [.int .i64 p0_0, .int .i64 p0_1, .int .i64 p0_2, .slice a_p0_3 p0_3.length c_p0_3]⟩], [⟨b16, 46, [.int .i64 v_4.1, .int .i64 v_4.2.1, .int .i64 v_4.2.2.1, .int .i64 v_4.2.2.2.1, .int .i64 v_4.2.2.2.2.1, .int .i64 v_4.2.2.2.2.2.1, .int .i64 v_4.2.2.2.2.2.2.1, .int .i64 v_4.2.2.2.2.2.2.2]⟩]]) ?_ (fun hk18 => ?_)
      · refine WK_cond (b := s_5) rfl (fun hb19 => ?_) (fun hb19 => ?_)
        · have hm7 := ifT hb19 hm7
          refine WK_seq ?_
          refine WK_region ?_
          refine WO_pure tbok 2 [(2, .int .i64 p2), (3, .int .i64 p3), (4, .pointer (some ⟨b3, 0, none⟩)), (8, .int .u64 0), (9, .bool false), (10, .int .u64 s_1), (11, .int .i64 s_2), (12, .pointer (some ⟨b16, 0, none⟩)), (15, .slice a_p1 p1.length c_p1), (16, .int .i64 (p1.length : Int)), (17, .int .i64 s_2)] rfl ⟨rfl, rfl, rfl, rfl, rfl, rfl, rfl, rfl, rfl, rfl, rfl, trivial⟩ ?_
          refine WO_end ?_
          cases hm7
          have hq := hd11 _ rfl
          subst hq
          have hm : some _ = some _ := hm
          cases hm
          exact WK_ret (ret_out (L := []) (RLc_tmp rfl (RLc_tmp rfl RLc_nil)) (List.nil_sublist _) rfl)
        · have hm7 := ifF hb19 hm7
          refine WK_skip ?_
          refine WK_seq ?_
          refine WK_draw 27 [0, 1, 2, 3, 4, 5, 6, 7, 8, 9, 10, 11, 12, 13, 14, 15, 16, 18, 19, 20, 22, 23, 24, 17, 21, 25, 26] follows_ok (by kernel_rfl) St_closed ?_
          refine WO_loadB tbok 0 rfl rfl rfl rfl (fun _ h => h) rfl rfl ?_
          refine WO_pure tbok 3 [(2, .int .i64 p2), (3, .int .i64 p3), (4, .pointer (some ⟨b3, 0, none⟩)), (8, .int .u64 0), (9, .bool false), (10, .int .u64 s_1), (11, .int .i64 s_2), (12, .pointer (some ⟨b16, 0, none⟩)), (15, .slice a_p1 p1.length c_p1), (16, .int .i64 (p1.length : Int)), (17, .int .i64 s_2), (38, .agg #[.int .i64 p0_0, .int .i64 p0_1, .int .i64 p0_2, .slice a_p0_3 p0_3.length c_p0_3]), (39, .int .i64 p2), (41, .pointer (some ⟨b16, 0, none⟩))] rfl ⟨rfl, rfl, rfl, rfl, rfl, rfl, rfl, rfl, rfl, rfl, rfl, rfl, rfl, rfl, trivial⟩ ?_
          refine WO_loadB tbok 1 rfl rfl rfl rfl (fun _ h => h) rfl rfl ?_
          refine WO_pure tbok 4 [(2, .int .i64 p2), (3, .int .i64 p3), (4, .pointer (some ⟨b3, 0, none⟩)), (8, .int .u64 0), (9, .bool false), (10, .int .u64 s_1), (11, .int .i64 s_2), (12, .pointer (some ⟨b16, 0, none⟩)), (15, .slice a_p1 p1.length c_p1), (16, .int .i64 (p1.length : Int)), (17, .int .i64 s_2), (38, .agg #[.int .i64 p0_0, .int .i64 p0_1, .int .i64 p0_2, .slice a_p0_3 p0_3.length c_p0_3]), (43, .int .i64 (w64 (p2 + v_4.1))), (44, .int .i64 p3), (46, .pointer (some ⟨b16, 1, none⟩))] rfl ⟨rfl, rfl, rfl, rfl, rfl, rfl, rfl, rfl, rfl, rfl, rfl, rfl, rfl, rfl, rfl, trivial⟩ ?_
          refine WO_loadB tbok 1 rfl rfl rfl rfl (fun _ h => h) rfl rfl ?_
          refine WO_pure tbok 3 [(2, .int .i64 p2), (3, .int .i64 p3), (4, .pointer (some ⟨b3, 0, none⟩)), (8, .int .u64 0), (9, .bool false), (10, .int .u64 s_1), (11, .int .i64 s_2), (12, .pointer (some ⟨b16, 0, none⟩)), (15, .slice a_p1 p1.length c_p1), (16, .int .i64 (p1.length : Int)), (17, .int .i64 s_2), (38, .agg #[.int .i64 p0_0, .int .i64 p0_1, .int .i64 p0_2, .slice a_p0_3 p0_3.length c_p0_3]), (43, .int .i64 (w64 (p2 + v_4.1))), (48, .int .i64 (w64 (p3 + v_4.2.1))), (50, .pointer (some ⟨b16, 2, none⟩))] rfl ⟨rfl, rfl, rfl, rfl, rfl, rfl, rfl, rfl, rfl, rfl, rfl, rfl, rfl, rfl, rfl, trivial⟩ ?_
          refine WO_loadB tbok 1 rfl rfl rfl rfl (fun _ h => h) rfl rfl ?_
          refine WO_pure tbok 2 [(2, .int .i64 p2), (3, .int .i64 p3), (4, .pointer (some ⟨b3, 0, none⟩)), (8, .int .u64 0), (9, .bool false), (10, .int .u64 s_1), (11, .int .i64 s_2), (12, .pointer (some ⟨b16, 0, none⟩)), (15, .slice a_p1 p1.length c_p1), (16, .int .i64 (p1.length : Int)), (17, .int .i64 s_2), (38, .agg #[.int .i64 p0_0, .int .i64 p0_1, .int .i64 p0_2, .slice a_p0_3 p0_3.length c_p0_3]), (43, .int .i64 (w64 (p2 + v_4.1))), (48, .int .i64 (w64 (p3 + v_4.2.1))), (51, .int .i64 v_4.2.2.1), (53, .pointer (some ⟨b16, 3, none⟩))] rfl ⟨rfl, rfl, rfl, rfl, rfl, rfl, rfl, rfl, rfl, rfl, rfl, rfl, rfl, rfl, rfl, rfl, trivial⟩ ?_
          refine WO_loadB tbok 1 rfl rfl rfl rfl (fun _ h => h) rfl rfl ?_
          refine WO_pure tbok 2 [(2, .int .i64 p2), (3, .int .i64 p3), (4, .pointer (some ⟨b3, 0, none⟩)), (8, .int .u64 0), (9, .bool false), (10, .int .u64 s_1), (11, .int .i64 s_2), (12, .pointer (some ⟨b16, 0, none⟩)), (15, .slice a_p1 p1.length c_p1), (16, .int .i64 (p1.length : Int)), (17, .int .i64 s_2), (38, .agg #[.int .i64 p0_0, .int .i64 p0_1, .int .i64 p0_2, .slice a_p0_3 p0_3.length c_p0_3]), (43, .int .i64 (w64 (p2 + v_4.1))), (48, .int .i64 (w64 (p3 + v_4.2.1))), (51, .int .i64 v_4.2.2.1), (54, .int .i64 v_4.2.2.2.1), (57, .pointer (some ⟨b16, 6, none⟩))] rfl ⟨rfl, rfl, rfl, rfl, rfl, rfl, rfl, rfl, rfl, rfl, rfl, rfl, rfl, rfl, rfl, rfl, rfl, trivial⟩ ?_
          refine WO_loadB tbok 1 rfl rfl rfl rfl (fun _ h => h) rfl rfl ?_
          refine WO_pure tbok 2 [(2, .int .i64 p2), (3, .int .i64 p3), (4, .pointer (some ⟨b3, 0, none⟩)), (8, .int .u64 0), (9, .bool false), (10, .int .u64 s_1), (11, .int .i64 s_2), (12, .pointer (some ⟨b16, 0, none⟩)), (15, .slice a_p1 p1.length c_p1), (16, .int .i64 (p1.length : Int)), (17, .int .i64 s_2), (38, .agg #[.int .i64 p0_0, .int .i64 p0_1, .int .i64 p0_2, .slice a_p0_3 p0_3.length c_p0_3]), (43, .int .i64 (w64 (p2 + v_4.1))), (48, .int .i64 (w64 (p3 + v_4.2.1))), (51, .int .i64 v_4.2.2.1), (54, .int .i64 v_4.2.2.2.1), (58, .int .i64 v_4.2.2.2.2.2.2.1), (61, .pointer (some ⟨b16, 7, none⟩))] rfl ⟨rfl, rfl, rfl, rfl, rfl, rfl, rfl, rfl, rfl, rfl, rfl, rfl, rfl, rfl, rfl, rfl, rfl, rfl, trivial⟩ ?_
          refine WO_loadB tbok 1 rfl rfl rfl rfl (fun _ h => h) rfl rfl ?_
          obtain ⟨y_6, hc20, hm7⟩ := bind_some hm7
          refine WO_call0 (.int .i64 y_6) rfl rfl St_closed rfl rfl rfl rfl St_closed ⟨40, #[], #[], rfl, callable_40, fun w hw => ⟨_, hw.sat, fiducialref13_Sum_walk h_p0_3 hc20⟩⟩ ?_
          refine WO_pure tbok 3 [(2, .int .i64 p2), (3, .int .i64 p3), (4, .pointer (some ⟨b3, 0, none⟩)), (8, .int .u64 0), (9, .bool false), (10, .int .u64 s_1), (11, .int .i64 s_2), (12, .pointer (some ⟨b16, 0, none⟩)), (13, .int .i64 (w64 ((w64 (y_6 * v_4.2.2.2.2.2.2.1)) * v_4.2.2.2.2.2.2.2))), (15, .slice a_p1 p1.length c_p1), (16, .int .i64 (p1.length : Int)), (17, .int .i64 s_2)] rfl ⟨rfl, rfl, rfl, rfl, rfl, rfl, rfl, rfl, rfl, rfl, rfl, rfl, trivial⟩ ?_
          refine WO_tail ?_
          refine WO_end ?_
          refine WK_seq ?_
          refine WK_draw 27 [0, 1, 2, 3, 4, 5, 6, 7, 8, 9, 10, 11, 12, 13, 14, 15, 16, 18, 19, 20, 22, 23, 24, 17, 21, 25, 26] follows_ok (by kernel_rfl) St_closed ?_
          refine WO_loadB tbok 0 rfl rfl rfl rfl (fun _ h => h) rfl rfl ?_
          refine WO_pure tbok 3 [(2, .int .i64 p2), (3, .int .i64 p3), (4, .pointer (some ⟨b3, 0, none⟩)), (8, .int .u64 0), (9, .bool false), (10, .int .u64 s_1), (11, .int .i64 s_2), (12, .pointer (some ⟨b16, 0, none⟩)), (13, .int .i64 (w64 ((w64 (y_6 * v_4.2.2.2.2.2.2.1)) * v_4.2.2.2.2.2.2.2))), (15, .slice a_p1 p1.length c_p1), (16, .int .i64 (p1.length : Int)), (17, .int .i64 s_2), (64, .agg #[.int .i64 p0_0, .int .i64 p0_1, .int .i64 p0_2, .slice a_p0_3 p0_3.length c_p0_3]), (65, .int .i64 p2), (67, .pointer (some ⟨b16, 4, none⟩))] rfl ⟨rfl, rfl, rfl, rfl, rfl, rfl, rfl, rfl, rfl, rfl, rfl, rfl, rfl, rfl, rfl, trivial⟩ ?_
          refine WO_loadB tbok 1 rfl rfl rfl rfl (fun _ h => h) rfl rfl ?_
          refine WO_pure tbok 4 [(2, .int .i64 p2), (3, .int .i64 p3), (4, .pointer (some ⟨b3, 0, none⟩)), (8, .int .u64 0), (9, .bool false), (10, .int .u64 s_1), (11, .int .i64 s_2), (12, .pointer (some ⟨b16, 0, none⟩)), (13, .int .i64 (w64 ((w64 (y_6 * v_4.2.2.2.2.2.2.1)) * v_4.2.2.2.2.2.2.2))), (15, .slice a_p1 p1.length c_p1), (16, .int .i64 (p1.length : Int)), (17, .int .i64 s_2), (64, .agg #[.int .i64 p0_0, .int .i64 p0_1, .int .i64 p0_2, .slice a_p0_3 p0_3.length c_p0_3]), (69, .int .i64 (w64 (p2 + v_4.2.2.2.2.1))), (70, .int .i64 p3), (72, .pointer (some ⟨b16, 5, none⟩))] rfl ⟨rfl, rfl, rfl, rfl, rfl, rfl, rfl, rfl, rfl, rfl, rfl, rfl, rfl, rfl, rfl, rfl, trivial⟩ ?_
          refine WO_loadB tbok 1 rfl rfl rfl rfl (fun _ h => h) rfl rfl ?_
          refine WO_pure tbok 3 [(2, .int .i64 p2), (3, .int .i64 p3), (4, .pointer (some ⟨b3, 0, none⟩)), (8, .int .u64 0), (9, .bool false), (10, .int .u64 s_1), (11, .int .i64 s_2), (12, .pointer (some ⟨b16, 0, none⟩)), (13, .int .i64 (w64 ((w64 (y_6 * v_4.2.2.2.2.2.2.1)) * v_4.2.2.2.2.2.2.2))), (15, .slice a_p1 p1.length c_p1), (16, .int .i64 (p1.length : Int)), (17, .int .i64 s_2), (64, .agg #[.int .i64 p0_0, .int .i64 p0_1, .int .i64 p0_2, .slice a_p0_3 p0_3.length c_p0_3]), (69, .int .i64 (w64 (p2 + v_4.2.2.2.2.1))), (74, .int .i64 (w64 (p3 + v_4.2.2.2.2.2.1))), (76, .pointer (some ⟨b16, 6, none⟩))] rfl ⟨rfl, rfl, rfl, rfl, rfl, rfl, rfl, rfl, rfl, rfl, rfl, rfl, rfl, rfl, rfl, rfl, trivial⟩ ?_
          refine WO_loadB tbok 1 rfl rfl rfl rfl (fun _ h => h) rfl rfl ?_
          refine WO_pure tbok 2 [(2, .int .i64 p2), (3, .int .i64 p3), (4, .pointer (some ⟨b3, 0, none⟩)), (8, .int .u64 0), (9, .bool false), (10, .int .u64 s_1), (11, .int .i64 s_2), (12, .pointer (some ⟨b16, 0, none⟩)), (13, .int .i64 (w64 ((w64 (y_6 * v_4.2.2.2.2.2.2.1)) * v_4.2.2.2.2.2.2.2))), (15, .slice a_p1 p1.length c_p1), (16, .int .i64 (p1.length : Int)), (17, .int .i64 s_2), (64, .agg #[.int .i64 p0_0, .int .i64 p0_1, .int .i64 p0_2, .slice a_p0_3 p0_3.length c_p0_3]), (69, .int .i64 (w64 (p2 + v_4.2.2.2.2.1))), (74, .int .i64 (w64 (p3 + v_4.2.2.2.2.2.1))), (77, .int .i64 v_4.2.2.2.2.2.2.1), (79, .pointer (some ⟨b16, 7, none⟩))] rfl ⟨rfl, rfl, rfl, rfl, rfl, rfl, rfl, rfl, rfl, rfl, rfl, rfl, rfl, rfl, rfl, rfl, rfl, trivial⟩ ?_
          refine WO_loadB tbok 1 rfl rfl rfl rfl (fun _ h => h) rfl rfl ?_
          refine WO_pure tbok 2 [(2, .int .i64 p2), (3, .int .i64 p3), (4, .pointer (some ⟨b3, 0, none⟩)), (8, .int .u64 0), (9, .bool false), (10, .int .u64 s_1), (11, .int .i64 s_2), (12, .pointer (some ⟨b16, 0, none⟩)), (13, .int .i64 (w64 ((w64 (y_6 * v_4.2.2.2.2.2.2.1)) * v_4.2.2.2.2.2.2.2))), (15, .slice a_p1 p1.length c_p1), (16, .int .i64 (p1.length : Int)), (17, .int .i64 s_2), (64, .agg #[.int .i64 p0_0, .int .i64 p0_1, .int .i64 p0_2, .slice a_p0_3 p0_3.length c_p0_3]), (69, .int .i64 (w64 (p2 + v_4.2.2.2.2.1))), (74, .int .i64 (w64 (p3 + v_4.2.2.2.2.2.1))), (77, .int .i64 v_4.2.2.2.2.2.2.1), (80, .int .i64 v_4.2.2.2.2.2.2.2), (83, .pointer (some ⟨b16, 2, none⟩))] rfl ⟨rfl, rfl, rfl, rfl, rfl, rfl, rfl, rfl, rfl, rfl, rfl, rfl, rfl, rfl, rfl, rfl, rfl, rfl, trivial⟩ ?_
          refine WO_loadB tbok 1 rfl rfl rfl rfl (fun _ h => h) rfl rfl ?_
          refine WO_pure tbok 2 [(2, .int .i64 p2), (3, .int .i64 p3), (4, .pointer (some ⟨b3, 0, none⟩)), (8, .int .u64 0), (9, .bool false), (10, .int .u64 s_1), (11, .int .i64 s_2), (13, .int .i64 (w64 ((w64 (y_6 * v_4.2.2.2.2.2.2.1)) * v_4.2.2.2.2.2.2.2))), (15, .slice a_p1 p1.length c_p1), (16, .int .i64 (p1.length : Int)), (17, .int .i64 s_2), (64, .agg #[.int .i64 p0_0, .int .i64 p0_1, .int .i64 p0_2, .slice a_p0_3 p0_3.length c_p0_3]), (69, .int .i64 (w64 (p2 + v_4.2.2.2.2.1))), (74, .int .i64 (w64 (p3 + v_4.2.2.2.2.2.1))), (77, .int .i64 v_4.2.2.2.2.2.2.1), (80, .int .i64 v_4.2.2.2.2.2.2.2), (84, .int .i64 v_4.2.2.1), (87, .pointer (some ⟨b16, 3, none⟩))] rfl ⟨rfl, rfl, rfl, rfl, rfl, rfl, rfl, rfl, rfl, rfl, rfl, rfl, rfl, rfl, rfl, rfl, rfl, rfl, trivial⟩ ?_
          refine WO_loadB tbok 1 rfl rfl rfl rfl (fun _ h => h) rfl rfl ?_
          obtain ⟨y_7, hc21, hm7⟩ := bind_some hm7
          refine WO_call0 (.int .i64 y_7) rfl rfl St_closed rfl rfl rfl rfl St_closed ⟨40, #[], #[], rfl, callable_40, fun w hw => ⟨_, hw.sat, fiducialref13_Sum_walk h_p0_3 hc21⟩⟩ ?_
          refine WO_pure tbok 3 [(2, .int .i64 p2), (3, .int .i64 p3), (4, .pointer (some ⟨b3, 0, none⟩)), (8, .int .u64 0), (9, .bool false), (10, .int .u64 s_1), (11, .int .i64 s_2), (13, .int .i64 (w64 ((w64 (y_6 * v_4.2.2.2.2.2.2.1)) * v_4.2.2.2.2.2.2.2))), (14, .int .i64 (w64 ((w64 (y_7 * v_4.2.2.1)) * v_4.2.2.2.1))), (15, .slice a_p1 p1.length c_p1), (16, .int .i64 (p1.length : Int)), (17, .int .i64 s_2)] rfl ⟨rfl, rfl, rfl, rfl, rfl, rfl, rfl, rfl, rfl, rfl, rfl, rfl, trivial⟩ ?_
          refine WO_tail ?_
          refine WO_end ?_
          refine WK_seq ?_
          refine WK_region ?_
          refine WO_pure tbok 3 [(2, .int .i64 p2), (3, .int .i64 p3), (4, .pointer (some ⟨b3, 0, none⟩)), (8, .int .u64 0), (9, .bool false), (10, .int .u64 s_1), (11, .int .i64 s_2), (15, .slice a_p1 p1.length c_p1), (16, .int .i64 (p1.length : Int)), (17, .int .i64 s_2), (92, .bool (decide ((w64 ((w64 (y_6 * v_4.2.2.2.2.2.2.1)) * v_4.2.2.2.2.2.2.2)) < (w64 ((w64 (y_7 * v_4.2.2.1)) * v_4.2.2.2.1)))))] rfl ⟨rfl, rfl, rfl, rfl, rfl, rfl, rfl, rfl, rfl, rfl, rfl, trivial⟩ ?_
          refine WO_end ?_
          obtain ⟨s_8, hx22, hm7⟩ := bind_some hm7
          refine WK_meet [(2, .int .i64 p2), (3, .int .i64 p3), (4, .pointer (some ⟨b3, 0, none⟩)), (8, .int .u64 0), (9, .bool false), (10, .int .u64 s_8), (15, .slice a_p1 p1.length c_p1), (16, .int .i64 (p1.length : Int)), (17, .int .i64 s_2)] (St w0 m m [[⟨b3, 29, [.int .i64 p0_0, .int .i64 p0_1, .int .i64 p0_2, .slice a_p0_3 p0_3.length c_p0_3]⟩], [⟨b16, 46, [.int .i64 v_4.1, .int .i64 v_4.2.1, .int .i64 v_4.2.2.1, .int .i64 v_4.2.2.2.1, .int .i64 v_4.2.2.2.2.1, .int .i64 v_4.2.2.2.2.2.1, .int .i64 v_4.2.2.2.2.2.2.1, .int .i64 v_4.2.2.2.2.2.2.2]⟩]]) ?_ (fun hk23 => ?_)
          · refine WK_blk ?_
            refine WK_region ?_
            refine WO_pure tbok 2 [(2, .int .i64 p2), (3, .int .i64 p3), (4, .pointer (some ⟨b3, 0, none⟩)), (8, .int .u64 0), (9, .bool false), (10, .int .u64 s_8), (15, .slice a_p1 p1.length c_p1), (16, .int .i64 (p1.length : Int)), (17, .int .i64 (w64 (s_2 + 1)))] rfl ⟨rfl, rfl, rfl, rfl, rfl, rfl, rfl, rfl, rfl, trivial⟩ ?_
            refine WO_end ?_
            cases hm7
            refine WK.sub ?_ (WK.cls (fun _ h => St.take 1 h) (hn10 _ () rfl trivial))
            exact ⟨rfl, rfl, rfl, rfl, rfl, rfl, rfl, rfl, rfl, trivial⟩
          · refine WK_cond (b := decide ((w64 ((w64 (y_6 * v_4.2.2.2.2.2.2.1)) * v_4.2.2.2.2.2.2.2)) < (w64 ((w64 (y_7 * v_4.2.2.1)) * v_4.2.2.2.1)))) rfl (fun hb24 => ?_) (fun hb24 => ?_)
            · have hx22 := ifT hb24 hx22
              refine WK_region ?_
              refine WO_pure tbok 2 [(2, .int .i64 p2), (3, .int .i64 p3), (4, .pointer (some ⟨b3, 0, none⟩)), (8, .int .u64 0), (9, .bool false), (10, .int .u64 s_1), (15, .slice a_p1 p1.length c_p1), (16, .int .i64 (p1.length : Int)), (17, .int .i64 s_2), (93, .int .u64 s_1), (94, .int .i64 s_2)] rfl ⟨rfl, rfl, rfl, rfl, rfl, rfl, rfl, rfl, rfl, rfl, rfl, trivial⟩ ?_
              obtain ⟨hc25, hx22⟩ := chk_some hx22
              refine WO_shl rfl rfl rfl rfl rfl hc25 ?_
              refine WO_pure tbok 2 [(2, .int .i64 p2), (3, .int .i64 p3), (4, .pointer (some ⟨b3, 0, none⟩)), (8, .int .u64 0), (9, .bool false), (10, .int .u64 (wu64 (((BitVec.ofInt 64 s_1 ||| BitVec.ofInt 64 (wu64 (1 * 2 ^ (min (s_2 : Int).toNat 64)))).toNat : Int)))), (15, .slice a_p1 p1.length c_p1), (16, .int .i64 (p1.length : Int)), (17, .int .i64 s_2)] rfl ⟨rfl, rfl, rfl, rfl, rfl, rfl, rfl, rfl, rfl, trivial⟩ ?_
              refine WO_end ?_
              cases hx22
              refine WK.sub ?_ (WK.cls (fun _ h => h) hk23)
              exact ⟨rfl, rfl, rfl, rfl, rfl, rfl, rfl, rfl, rfl, trivial⟩
            · have hx22 := ifF hb24 hx22
              refine WK_skip ?_
              cases hx22
              refine WK.sub ?_ (WK.cls (fun _ h => h) hk23)
              exact ⟨rfl, rfl, rfl, rfl, rfl, rfl, rfl, rfl, rfl, trivial⟩
      · refine WK_region ?_
        refine WO_loadB tbok 0 rfl rfl rfl rfl (fun _ h => h) rfl rfl ?_
        refine WO_pure tbok 1 [(2, .int .i64 p2), (3, .int .i64 p3), (4, .pointer (some ⟨b3, 0, none⟩)), (8, .int .u64 0), (9, .bool false), (10, .int .u64 s_1), (11, .int .i64 s_2), (12, .pointer (some ⟨b16, 0, none⟩)), (15, .slice a_p1 p1.length c_p1), (16, .int .i64 (p1.length : Int)), (17, .int .i64 s_2), (22, .agg #[.int .i64 p0_0, .int .i64 p0_1, .int .i64 p0_2, .slice a_p0_3 p0_3.length c_p0_3]), (23, .pointer (some ⟨b16, 0, none⟩))] rfl ⟨rfl, rfl, rfl, rfl, rfl, rfl, rfl, rfl, rfl, rfl, rfl, rfl, rfl, trivial⟩ ?_
        refine WO_loadB tbok 1 rfl rfl rfl rfl (fun _ h => h) rfl rfl ?_
        refine WO_pure tbok 2 [(2, .int .i64 p2), (3, .int .i64 p3), (4, .pointer (some ⟨b3, 0, none⟩)), (8, .int .u64 0), (9, .bool false), (10, .int .u64 s_1), (11, .int .i64 s_2), (12, .pointer (some ⟨b16, 0, none⟩)), (15, .slice a_p1 p1.length c_p1), (16, .int .i64 (p1.length : Int)), (17, .int .i64 s_2), (22, .agg #[.int .i64 p0_0, .int .i64 p0_1, .int .i64 p0_2, .slice a_p0_3 p0_3.length c_p0_3]), (24, .agg #[.int .i64 v_4.1, .int .i64 v_4.2.1, .int .i64 v_4.2.2.1, .int .i64 v_4.2.2.2.1]), (25, .int .i64 p2), (26, .int .i64 p3)] rfl ⟨rfl, rfl, rfl, rfl, rfl, rfl, rfl, rfl, rfl, rfl, rfl, rfl, rfl, rfl, rfl, trivial⟩ ?_
        obtain ⟨y_9, hc26, hx17⟩ := bind_some hx17
        refine WO_call0 (.bool y_9) rfl rfl trivial rfl rfl rfl rfl St_closed ⟨39, #[], #[], rfl, callable_39, fun w hw => ⟨_, hw.sat, fiduciallaw21_fits_walk h_p0_3 hc26⟩⟩ ?_
        refine WO_pure tbok 2 [(2, .int .i64 p2), (3, .int .i64 p3), (4, .pointer (some ⟨b3, 0, none⟩)), (8, .int .u64 0), (9, .bool false), (10, .int .u64 s_1), (11, .int .i64 s_2), (12, .pointer (some ⟨b16, 0, none⟩)), (15, .slice a_p1 p1.length c_p1), (16, .int .i64 (p1.length : Int)), (17, .int .i64 s_2), (29, .bool (!y_9))] rfl ⟨rfl, rfl, rfl, rfl, rfl, rfl, rfl, rfl, rfl, rfl, rfl, rfl, trivial⟩ ?_
        refine WO_split (d := 29) (b := !y_9) rfl (fun hb27 => ?_) (fun hb27 => ?_)
        · have hx17 := ifT hb27 hx17
          refine WO_pure tbok 5 [(2, .int .i64 p2), (3, .int .i64 p3), (4, .pointer (some ⟨b3, 0, none⟩)), (8, .int .u64 0), (9, .bool false), (10, .int .u64 s_1), (11, .int .i64 s_2), (12, .pointer (some ⟨b16, 0, none⟩)), (15, .slice a_p1 p1.length c_p1), (16, .int .i64 (p1.length : Int)), (17, .int .i64 s_2), (29, .bool true)] rfl ⟨rfl, rfl, rfl, rfl, rfl, rfl, rfl, rfl, rfl, rfl, rfl, rfl, trivial⟩ ?_
          refine WO_skip rfl rfl ?_
          refine WO_pure tbok 2 [(2, .int .i64 p2), (3, .int .i64 p3), (4, .pointer (some ⟨b3, 0, none⟩)), (8, .int .u64 0), (9, .bool false), (10, .int .u64 s_1), (11, .int .i64 s_2), (12, .pointer (some ⟨b16, 0, none⟩)), (15, .slice a_p1 p1.length c_p1), (16, .int .i64 (p1.length : Int)), (17, .int .i64 s_2), (37, .bool true)] rfl ⟨rfl, rfl, rfl, rfl, rfl, rfl, rfl, rfl, rfl, rfl, rfl, rfl, trivial⟩ ?_
          refine WO_end ?_
          cases hx17
          refine WK.sub ?_ (WK.cls (fun _ h => h) hk18)
          exact ⟨rfl, rfl, rfl, rfl, rfl, rfl, rfl, rfl, rfl, rfl, rfl, rfl, trivial⟩
        · have hx17 := ifF hb27 hx17
          refine WO_loadB tbok 0 rfl rfl rfl rfl (fun _ h => h) rfl rfl ?_
          refine WO_pure tbok 1 [(2, .int .i64 p2), (3, .int .i64 p3), (4, .pointer (some ⟨b3, 0, none⟩)), (8, .int .u64 0), (9, .bool false), (10, .int .u64 s_1), (11, .int .i64 s_2), (12, .pointer (some ⟨b16, 0, none⟩)), (15, .slice a_p1 p1.length c_p1), (16, .int .i64 (p1.length : Int)), (17, .int .i64 s_2), (29, .bool false), (30, .agg #[.int .i64 p0_0, .int .i64 p0_1, .int .i64 p0_2, .slice a_p0_3 p0_3.length c_p0_3]), (31, .pointer (some ⟨b16, 4, none⟩))] rfl ⟨rfl, rfl, rfl, rfl, rfl, rfl, rfl, rfl, rfl, rfl, rfl, rfl, rfl, rfl, trivial⟩ ?_
          refine WO_loadB tbok 1 rfl rfl rfl rfl (fun _ h => h) rfl rfl ?_
          refine WO_pure tbok 2 [(2, .int .i64 p2), (3, .int .i64 p3), (4, .pointer (some ⟨b3, 0, none⟩)), (8, .int .u64 0), (9, .bool false), (10, .int .u64 s_1), (11, .int .i64 s_2), (12, .pointer (some ⟨b16, 0, none⟩)), (15, .slice a_p1 p1.length c_p1), (16, .int .i64 (p1.length : Int)), (17, .int .i64 s_2), (29, .bool false), (30, .agg #[.int .i64 p0_0, .int .i64 p0_1, .int .i64 p0_2, .slice a_p0_3 p0_3.length c_p0_3]), (32, .agg #[.int .i64 v_4.2.2.2.2.1, .int .i64 v_4.2.2.2.2.2.1, .int .i64 v_4.2.2.2.2.2.2.1, .int .i64 v_4.2.2.2.2.2.2.2]), (33, .int .i64 p2), (34, .int .i64 p3)] rfl ⟨rfl, rfl, rfl, rfl, rfl, rfl, rfl, rfl, rfl, rfl, rfl, rfl, rfl, rfl, rfl, rfl, trivial⟩ ?_
          obtain ⟨y_10, hc28, hx17⟩ := bind_some hx17
          refine WO_call0 (.bool y_10) rfl rfl trivial rfl rfl rfl rfl St_closed ⟨39, #[], #[], rfl, callable_39, fun w hw => ⟨_, hw.sat, fiduciallaw21_fits_walk h_p0_3 hc28⟩⟩ ?_
          refine WO_pure tbok 2 [(2, .int .i64 p2), (3, .int .i64 p3), (4, .pointer (some ⟨b3, 0, none⟩)), (8, .int .u64 0), (9, .bool false), (10, .int .u64 s_1), (11, .int .i64 s_2), (12, .pointer (some ⟨b16, 0, none⟩)), (15, .slice a_p1 p1.length c_p1), (16, .int .i64 (p1.length : Int)), (17, .int .i64 s_2), (37, .bool (!y_10))] rfl ⟨rfl, rfl, rfl, rfl, rfl, rfl, rfl, rfl, rfl, rfl, rfl, rfl, trivial⟩ ?_
          refine WO_end ?_
          cases hx17
          refine WK.sub ?_ (WK.cls (fun _ h => h) hk18)
          exact ⟨rfl, rfl, rfl, rfl, rfl, rfl, rfl, rfl, rfl, rfl, rfl, rfl, trivial⟩
    · have hm7 := ifF hb13 hm7
      refine WK_exit rfl ?_
      cases hm7
      refine WK.sub ?_ (WK.cls (fun _ h => h) (hk6 (s_1, ()) (hd11 _ rfl)))
      exact ⟨rfl, rfl, rfl, trivial⟩
theorem fiduciallaw21_DescriptorWords_walk {m : Mu} {p0_0 : Int} {p0_1 : Int} {p0_2 : Int} {p0_3 : List Int} {p1 : List (Int × Int × Int × Int × Int × Int × Int × Int)} {p2_0 : Int} {p2_1 : Int} {a_p0_3 : Option Addr} {q_p0_3 c_p0_3 : Nat} {a_p1 : Option Addr} {q_p1 c_p1 : Nat} (h_p0_3 : SlR (FE (I1 .i64)) 1 m (.slice a_p0_3 q_p0_3 c_p0_3) p0_3) (h_p1 : SlR (FE T8) 8 m (.slice a_p1 q_p1 c_p1) p1) {r : Bool} (hm : fiduciallaw21_DescriptorWords p0_0 p0_1 p0_2 p0_3 p1 p2_0 p2_1 = some r) :
    Go.E.Spec Try.prog 4 [.agg #[.int .i64 p0_0, .int .i64 p0_1, .int .i64 p0_2, .slice a_p0_3 q_p0_3 c_p0_3], .slice a_p1 q_p1 c_p1, .agg #[.int .i64 p2_0, .int .i64 p2_1]] m (fun v _ _ => v = .bool r) := by
  refine Spec_enter Try.func4 rfl rfl rfl (fun w0 => ?_)
  refine WK.sub (e' := [(0, .agg #[.int .i64 p0_0, .int .i64 p0_1, .int .i64 p0_2, .slice a_p0_3 q_p0_3 c_p0_3]), (1, .slice a_p1 q_p1 c_p1), (2, .agg #[.int .i64 p2_0, .int .i64 p2_1])]) ⟨rfl, rfl, rfl, trivial⟩ ?_
  obtain rfl := SlR.qlen h_p0_3
  obtain rfl := SlR.qlen h_p1
  refine WK.sub (e' := [(0, .agg #[.int .i64 p0_0, .int .i64 p0_1, .int .i64 p0_2, .slice a_p0_3 p0_3.length c_p0_3]), (1, .slice a_p1 p1.length c_p1), (2, .agg #[.int .i64 p2_0, .int .i64 p2_1])]) ⟨rfl, rfl, rfl, trivial⟩ ?_
  unfold fiduciallaw21_DescriptorWords at hm
  refine WK_seq ?_
  refine WK_region ?_
  refine WO_box [.int .i64 p0_0, .int .i64 p0_1, .int .i64 p0_2, .slice a_p0_3 p0_3.length c_p0_3] rfl rfl trivial rfl rfl rfl (fun b3 => ?_)
  refine WO.cls (C' := St w0 m m [[⟨b3, 29, [.int .i64 p0_0, .int .i64 p0_1, .int .i64 p0_2, .slice a_p0_3 p0_3.length c_p0_3]⟩]]) (fun _ h => h) ?_
  refine WO_box [.int .i64 p2_0, .int .i64 p2_1] rfl rfl trivial rfl rfl rfl (fun b4 => ?_)
  refine WO.cls (C' := St w0 m m [[⟨b3, 29, [.int .i64 p0_0, .int .i64 p0_1, .int .i64 p0_2, .slice a_p0_3 p0_3.length c_p0_3]⟩], [⟨b4, 31, [.int .i64 p2_0, .int .i64 p2_1]⟩]]) (fun _ h => h) ?_
  refine WO_pure tbok 1 [(1, .slice a_p1 p1.length c_p1), (3, .pointer (some ⟨b3, 0, none⟩)), (5, .pointer (some ⟨b4, 0, none⟩)), (6, .bool false)] rfl ⟨rfl, rfl, rfl, rfl, trivial⟩ ?_
  refine WO_end ?_
  refine WK_seq ?_
  refine WK_seq ?_
  refine WK_region ?_
  obtain ⟨y_1, hc5, hm⟩ := bind_some hm
  refine WO_call0 (.bool y_1) rfl rfl trivial rfl rfl rfl rfl St_closed ⟨11, #[], #[], rfl, callable_11, fun w hw => ⟨_, hw.sat, fiduciallaw21_known_walk hc5⟩⟩ ?_
  refine WO_pure tbok 1 [(1, .slice a_p1 p1.length c_p1), (3, .pointer (some ⟨b3, 0, none⟩)), (5, .pointer (some ⟨b4, 0, none⟩)), (6, .bool false), (13, .bool (!y_1))] rfl ⟨rfl, rfl, rfl, rfl, rfl, trivial⟩ ?_
  refine WO_end ?_
  refine WK_cond (b := !y_1) rfl (fun hb6 => ?_) (fun hb6 => ?_)
  · have hm := ifT hb6 hm
    refine WK_seq ?_
    refine WK_region ?_
    refine WO_pure tbok 1 [(1, .slice a_p1 p1.length c_p1), (3, .pointer (some ⟨b3, 0, none⟩)), (5, .pointer (some ⟨b4, 0, none⟩)), (6, .bool false)] rfl ⟨rfl, rfl, rfl, rfl, trivial⟩ ?_
    refine WO_end ?_
    cases hm
    exact WK_ret (ret_out (L := []) (RLc_tmp rfl RLc_nil) (List.nil_sublist _) rfl)
  · have hm := ifF hb6 hm
    refine WK_skip ?_
    refine WK_seq ?_
    refine WK_seq ?_
    refine WK_region ?_
    refine WO_loadB tbok 0 rfl rfl rfl rfl (fun _ h => h) rfl rfl ?_
    refine WO_pure tbok 1 [(1, .slice a_p1 p1.length c_p1), (3, .pointer (some ⟨b3, 0, none⟩)), (5, .pointer (some ⟨b4, 0, none⟩)), (6, .bool false), (14, .agg #[.int .i64 p0_0, .int .i64 p0_1, .int .i64 p0_2, .slice a_p0_3 p0_3.length c_p0_3]), (15, .slice a_p1 p1.length c_p1)] rfl ⟨rfl, rfl, rfl, rfl, rfl, rfl, trivial⟩ ?_
    obtain ⟨y_2, hc7, hm⟩ := bind_some hm
    refine WO_call0 (.bool y_2) rfl rfl trivial rfl rfl rfl rfl St_closed ⟨14, #[], #[], rfl, callable_14, fun w hw => ⟨_, hw.sat, fiduciallaw21_few_walk h_p0_3 h_p1 hc7⟩⟩ ?_
    refine WO_pure tbok 1 [(1, .slice a_p1 p1.length c_p1), (3, .pointer (some ⟨b3, 0, none⟩)), (5, .pointer (some ⟨b4, 0, none⟩)), (6, .bool false), (17, .bool (!y_2))] rfl ⟨rfl, rfl, rfl, rfl, rfl, trivial⟩ ?_
    refine WO_end ?_
    refine WK_cond (b := !y_2) rfl (fun hb8 => ?_) (fun hb8 => ?_)
    · have hm := ifT hb8 hm
      refine WK_seq ?_
      refine WK_region ?_
      refine WO_pure tbok 1 [(1, .slice a_p1 p1.length c_p1), (3, .pointer (some ⟨b3, 0, none⟩)), (5, .pointer (some ⟨b4, 0, none⟩)), (6, .bool true)] rfl ⟨rfl, rfl, rfl, rfl, trivial⟩ ?_
      refine WO_end ?_
      cases hm
      exact WK_ret (ret_out (L := []) (RLc_tmp rfl RLc_nil) (List.nil_sublist _) rfl)
    · have hm := ifF hb8 hm
      refine WK_skip ?_
      refine WK_seq ?_
      refine WK_region ?_
      refine WO_loadB tbok 0 rfl rfl rfl rfl (fun _ h => h) rfl rfl ?_
      refine WO_pure tbok 2 [(1, .slice a_p1 p1.length c_p1), (3, .pointer (some ⟨b3, 0, none⟩)), (5, .pointer (some ⟨b4, 0, none⟩)), (6, .bool false), (19, .agg #[.int .i64 p0_0, .int .i64 p0_1, .int .i64 p0_2, .slice a_p0_3 p0_3.length c_p0_3]), (20, .slice a_p1 p1.length c_p1), (21, .pointer (some ⟨b4, 0, none⟩))] rfl ⟨rfl, rfl, rfl, rfl, rfl, rfl, rfl, trivial⟩ ?_
      refine WO_loadB tbok 1 rfl rfl rfl rfl (fun _ h => h) rfl rfl ?_
      refine WO_pure tbok 1 [(1, .slice a_p1 p1.length c_p1), (3, .pointer (some ⟨b3, 0, none⟩)), (5, .pointer (some ⟨b4, 0, none⟩)), (6, .bool false), (19, .agg #[.int .i64 p0_0, .int .i64 p0_1, .int .i64 p0_2, .slice a_p0_3 p0_3.length c_p0_3]), (20, .slice a_p1 p1.length c_p1), (22, .int .i64 p2_0), (23, .pointer (some ⟨b4, 1, none⟩))] rfl ⟨rfl, rfl, rfl, rfl, rfl, rfl, rfl, rfl, trivial⟩ ?_
      refine WO_loadB tbok 1 rfl rfl rfl rfl (fun _ h => h) rfl rfl ?_
      obtain ⟨⟨y_3, y_4⟩, hc9, hm⟩ := bind_some hm
      refine WO_call0 (.tuple #[.int .u64 y_3, .int .i64 y_4]) rfl rfl trivial rfl rfl rfl rfl St_closed ⟨15, #[], #[], rfl, callable_15, fun w hw => ⟨_, hw.sat, descriptor_Describe_walk h_p0_3 h_p1 hc9⟩⟩ ?_
      refine WO_pure tbok 5 [(1, .slice a_p1 p1.length c_p1), (3, .pointer (some ⟨b3, 0, none⟩)), (5, .pointer (some ⟨b4, 0, none⟩)), (6, .bool false), (7, .int .u64 y_3), (8, .int .i64 y_4)] rfl ⟨rfl, rfl, rfl, rfl, rfl, rfl, trivial⟩ ?_
      refine WO_end ?_
      refine WK_seq ?_
      refine WK_region ?_
      refine WO_loadB tbok 0 rfl rfl rfl rfl (fun _ h => h) rfl rfl ?_
      refine WO_pure tbok 1 [(1, .slice a_p1 p1.length c_p1), (3, .pointer (some ⟨b3, 0, none⟩)), (5, .pointer (some ⟨b4, 0, none⟩)), (6, .bool false), (7, .int .u64 y_3), (8, .int .i64 y_4), (28, .agg #[.int .i64 p0_0, .int .i64 p0_1, .int .i64 p0_2, .slice a_p0_3 p0_3.length c_p0_3]), (29, .slice a_p1 p1.length c_p1)] rfl ⟨rfl, rfl, rfl, rfl, rfl, rfl, rfl, rfl, trivial⟩ ?_
      obtain ⟨y_5, hc10, hm⟩ := bind_some hm
      refine WO_call0 (.int .i64 y_5) rfl rfl trivial rfl rfl rfl rfl St_closed ⟨16, #[], #[], rfl, callable_16, fun w hw => ⟨_, hw.sat, fiduciallaw21_code_walk h_p0_3 h_p1 hc10⟩⟩ ?_
      refine WO_pure tbok 1 [(1, .slice a_p1 p1.length c_p1), (3, .pointer (some ⟨b3, 0, none⟩)), (5, .pointer (some ⟨b4, 0, none⟩)), (6, .bool false), (7, .int .u64 y_3), (8, .int .i64 y_4), (9, .int .i64 y_5)] rfl ⟨rfl, rfl, rfl, rfl, rfl, rfl, rfl, trivial⟩ ?_
      refine WO_end ?_
      refine WK_seq ?_
      refine WK_seq ?_
      obtain ⟨s_6, hx11, hm⟩ := bind_some hm
      refine WK_meet [(1, .slice a_p1 p1.length c_p1), (3, .pointer (some ⟨b3, 0, none⟩)), (5, .pointer (some ⟨b4, 0, none⟩)), (6, .bool false), (7, .int .u64 y_3), (8, .int .i64 y_4), (9, .int .i64 y_5), (41, .bool s_6)] (St w0 m m [[⟨b3, 29, [.int .i64 p0_0, .int .i64 p0_1, .int .i64 p0_2, .slice a_p0_3 p0_3.length c_p0_3]⟩], [⟨b4, 31, [.int .i64 p2_0, .int .i64 p2_1]⟩]]) ?_ (fun hk12 => ?_)
      · obtain ⟨s_7, hx13, hm⟩ := bind_some hm
        refine WK_meet [(1, .slice a_p1 p1.length c_p1), (3, .pointer (some ⟨b3, 0, none⟩)), (5, .pointer (some ⟨b4, 0, none⟩)), (6, .bool false), (7, .int .u64 y_3), (8, .int .i64 y_4), (9, .int .i64 s_7)] (St w0 m m [[⟨b3, 29, [.int .i64 p0_0, .int .i64 p0_1, .int .i64 p0_2, .slice a_p0_3 p0_3.length c_p0_3]⟩], [⟨b4, 31, [.int .i64 p2_0, .int .i64 p2_1]⟩]]) ?_ (fun hk14 => ?_)
        · refine WK_seq ?_
          refine WK_seq ?_
          refine WK_region ?_
          refine WO_pure tbok 2 [(1, .slice a_p1 p1.length c_p1), (3, .pointer (some ⟨b3, 0, none⟩)), (5, .pointer (some ⟨b4, 0, none⟩)), (6, .bool false), (7, .int .u64 y_3), (8, .int .i64 y_4), (9, .int .i64 s_7), (43, .bool (s_7 != 0))] rfl ⟨rfl, rfl, rfl, rfl, rfl, rfl, rfl, rfl, trivial⟩ ?_
          refine WO_end ?_
          refine WK_cond (b := s_7 != 0) rfl (fun hb15 => ?_) (fun hb15 => ?_)
          · have hm := ifT hb15 hm
            refine WK_seq ?_
            refine WK_region ?_
            refine WO_pure tbok 4 [(1, .slice a_p1 p1.length c_p1), (3, .pointer (some ⟨b3, 0, none⟩)), (5, .pointer (some ⟨b4, 0, none⟩)), (6, .bool false), (7, .int .u64 y_3), (8, .int .i64 y_4), (47, .bool (y_4 == s_7))] rfl ⟨rfl, rfl, rfl, rfl, rfl, rfl, rfl, trivial⟩ ?_
            refine WO_split (d := 47) (b := y_4 == s_7) rfl (fun hb16 => ?_) (fun hb16 => ?_)
            · have hm := ifT hb16 hm
              refine WO_pure tbok 4 [(1, .slice a_p1 p1.length c_p1), (3, .pointer (some ⟨b3, 0, none⟩)), (5, .pointer (some ⟨b4, 0, none⟩)), (6, .bool (y_3 == 0)), (7, .int .u64 y_3), (8, .int .i64 y_4)] rfl ⟨rfl, rfl, rfl, rfl, rfl, rfl, trivial⟩ ?_
              refine WO_end ?_
              cases hm
              exact WK_ret (ret_out (L := []) (RLc_tmp rfl RLc_nil) (List.nil_sublist _) rfl)
            · have hm := ifF hb16 hm
              refine WO_pure tbok 4 [(1, .slice a_p1 p1.length c_p1), (3, .pointer (some ⟨b3, 0, none⟩)), (5, .pointer (some ⟨b4, 0, none⟩)), (6, .bool false), (7, .int .u64 y_3), (8, .int .i64 y_4)] rfl ⟨rfl, rfl, rfl, rfl, rfl, rfl, trivial⟩ ?_
              refine WO_end ?_
              cases hm
              exact WK_ret (ret_out (L := []) (RLc_tmp rfl RLc_nil) (List.nil_sublist _) rfl)
          · have hm := ifF hb15 hm
            refine WK_skip ?_
            refine WK_seq ?_
            refine WK_region ?_
            refine WO_loadB tbok 0 rfl rfl rfl rfl (fun _ h => h) rfl rfl ?_
            refine WO_pure tbok 2 [(5, .pointer (some ⟨b4, 0, none⟩)), (6, .bool false), (7, .int .u64 y_3), (8, .int .i64 y_4), (52, .agg #[.int .i64 p0_0, .int .i64 p0_1, .int .i64 p0_2, .slice a_p0_3 p0_3.length c_p0_3]), (53, .slice a_p1 p1.length c_p1), (54, .pointer (some ⟨b4, 0, none⟩))] rfl ⟨rfl, rfl, rfl, rfl, rfl, rfl, rfl, trivial⟩ ?_
            refine WO_loadB tbok 1 rfl rfl rfl rfl (fun _ h => h) rfl rfl ?_
            refine WO_pure tbok 1 [(6, .bool false), (7, .int .u64 y_3), (8, .int .i64 y_4), (52, .agg #[.int .i64 p0_0, .int .i64 p0_1, .int .i64 p0_2, .slice a_p0_3 p0_3.length c_p0_3]), (53, .slice a_p1 p1.length c_p1), (55, .int .i64 p2_0), (56, .pointer (some ⟨b4, 1, none⟩))] rfl ⟨rfl, rfl, rfl, rfl, rfl, rfl, rfl, trivial⟩ ?_
            refine WO_loadB tbok 1 rfl rfl rfl rfl (fun _ h => h) rfl rfl ?_
            obtain ⟨⟨y_8, y_9⟩, hc17, hm⟩ := bind_some hm
            refine WO_call0 (.tuple #[.int .u64 y_8, .bool y_9]) rfl rfl trivial rfl rfl rfl rfl St_closed ⟨18, #[], #[], rfl, callable_18, fun w hw => ⟨_, hw.sat, fiduciallaw21_word_walk h_p0_3 h_p1 hc17⟩⟩ ?_
            refine WO_pure tbok 5 [(6, .bool false), (7, .int .u64 y_3), (8, .int .i64 y_4), (10, .int .u64 y_8), (11, .bool y_9)] rfl ⟨rfl, rfl, rfl, rfl, rfl, trivial⟩ ?_
            refine WO_end ?_
            refine WK_seq ?_
            refine WK_seq ?_
            refine WK_region ?_
            refine WO_pure tbok 2 [(6, .bool false), (7, .int .u64 y_3), (8, .int .i64 y_4), (10, .int .u64 y_8), (62, .bool (!y_9))] rfl ⟨rfl, rfl, rfl, rfl, rfl, trivial⟩ ?_
            refine WO_end ?_
            refine WK_cond (b := !y_9) rfl (fun hb18 => ?_) (fun hb18 => ?_)
            · have hm := ifT hb18 hm
              refine WK_seq ?_
              refine WK_region ?_
              refine WO_pure tbok 3 [(6, .bool false), (7, .int .u64 y_3), (8, .int .i64 y_4), (10, .int .u64 y_8), (65, .bool (y_4 == 15))] rfl ⟨rfl, rfl, rfl, rfl, rfl, trivial⟩ ?_
              refine WO_split (d := 65) (b := y_4 == 15) rfl (fun hb19 => ?_) (fun hb19 => ?_)
              · have hm := ifT hb19 hm
                refine WO_pure tbok 4 [(6, .bool (y_3 == 0)), (7, .int .u64 y_3), (8, .int .i64 y_4), (10, .int .u64 y_8)] rfl ⟨rfl, rfl, rfl, rfl, trivial⟩ ?_
                refine WO_end ?_
                cases hm
                exact WK_ret (ret_out (L := []) (RLc_tmp rfl RLc_nil) (List.nil_sublist _) rfl)
              · have hm := ifF hb19 hm
                refine WO_pure tbok 4 [(6, .bool false), (7, .int .u64 y_3), (8, .int .i64 y_4), (10, .int .u64 y_8)] rfl ⟨rfl, rfl, rfl, rfl, trivial⟩ ?_
                refine WO_end ?_
                cases hm
                exact WK_ret (ret_out (L := []) (RLc_tmp rfl RLc_nil) (List.nil_sublist _) rfl)
            · have hm := ifF hb18 hm
              refine WK_skip ?_
              refine WK_seq ?_
              refine WK_region ?_
              refine WO_pure tbok 3 [(6, .bool false), (7, .int .u64 y_3), (10, .int .u64 y_8), (71, .bool (y_4 == 0))] rfl ⟨rfl, rfl, rfl, rfl, trivial⟩ ?_
              refine WO_split (d := 71) (b := y_4 == 0) rfl (fun hb20 => ?_) (fun hb20 => ?_)
              · have hm := ifT hb20 hm
                refine WO_pure tbok 5 [(6, .bool (y_3 == y_8))] rfl ⟨rfl, trivial⟩ ?_
                refine WO_end ?_
                cases hm
                exact WK_ret (ret_out (L := []) (RLc_tmp rfl RLc_nil) (List.nil_sublist _) rfl)
              · have hm := ifF hb20 hm
                refine WO_pure tbok 5 [(6, .bool false)] rfl ⟨rfl, trivial⟩ ?_
                refine WO_end ?_
                cases hm
                exact WK_ret (ret_out (L := []) (RLc_tmp rfl RLc_nil) (List.nil_sublist _) rfl)
        · refine WK_cond (b := s_6) rfl (fun hb21 => ?_) (fun hb21 => ?_)
          · have hx13 := ifT hb21 hx13
            refine WK_region ?_
            refine WO_pure tbok 1 [(1, .slice a_p1 p1.length c_p1), (3, .pointer (some ⟨b3, 0, none⟩)), (5, .pointer (some ⟨b4, 0, none⟩)), (6, .bool false), (7, .int .u64 y_3), (8, .int .i64 y_4), (9, .int .i64 2)] rfl ⟨rfl, rfl, rfl, rfl, rfl, rfl, rfl, trivial⟩ ?_
            refine WO_end ?_
            cases hx13
            refine WK.sub ?_ (WK.cls (fun _ h => h) hk14)
            exact ⟨rfl, rfl, rfl, rfl, rfl, rfl, rfl, trivial⟩
          · have hx13 := ifF hb21 hx13
            refine WK_skip ?_
            cases hx13
            refine WK.sub ?_ (WK.cls (fun _ h => h) hk14)
            exact ⟨rfl, rfl, rfl, rfl, rfl, rfl, rfl, trivial⟩
      · refine WK_region ?_
        refine WO_pure tbok 3 [(1, .slice a_p1 p1.length c_p1), (3, .pointer (some ⟨b3, 0, none⟩)), (5, .pointer (some ⟨b4, 0, none⟩)), (6, .bool false), (7, .int .u64 y_3), (8, .int .i64 y_4), (9, .int .i64 y_5), (33, .bool (y_5 == 0))] rfl ⟨rfl, rfl, rfl, rfl, rfl, rfl, rfl, rfl, trivial⟩ ?_
        refine WO_split (d := 33) (b := y_5 == 0) rfl (fun hb22 => ?_) (fun hb22 => ?_)
        · have hx11 := ifT hb22 hx11
          refine WO_loadB tbok 0 rfl rfl rfl rfl (fun _ h => h) rfl rfl ?_
          refine WO_pure tbok 1 [(1, .slice a_p1 p1.length c_p1), (3, .pointer (some ⟨b3, 0, none⟩)), (5, .pointer (some ⟨b4, 0, none⟩)), (6, .bool false), (7, .int .u64 y_3), (8, .int .i64 y_4), (9, .int .i64 y_5), (33, .bool true), (34, .agg #[.int .i64 p0_0, .int .i64 p0_1, .int .i64 p0_2, .slice a_p0_3 p0_3.length c_p0_3]), (35, .pointer (some ⟨b4, 0, none⟩))] rfl ⟨rfl, rfl, rfl, rfl, rfl, rfl, rfl, rfl, rfl, rfl, trivial⟩ ?_
          refine WO_loadB tbok 1 rfl rfl rfl rfl (fun _ h => h) rfl rfl ?_
          refine WO_pure tbok 1 [(1, .slice a_p1 p1.length c_p1), (3, .pointer (some ⟨b3, 0, none⟩)), (5, .pointer (some ⟨b4, 0, none⟩)), (6, .bool false), (7, .int .u64 y_3), (8, .int .i64 y_4), (9, .int .i64 y_5), (33, .bool true), (34, .agg #[.int .i64 p0_0, .int .i64 p0_1, .int .i64 p0_2, .slice a_p0_3 p0_3.length c_p0_3]), (36, .int .i64 p2_0), (37, .pointer (some ⟨b4, 1, none⟩))] rfl ⟨rfl, rfl, rfl, rfl, rfl, rfl, rfl, rfl, rfl, rfl, rfl, trivial⟩ ?_
          refine WO_loadB tbok 1 rfl rfl rfl rfl (fun _ h => h) rfl rfl ?_
          obtain ⟨y_10, hc23, hx11⟩ := bind_some hx11
          refine WO_call0 (.bool y_10) rfl rfl trivial rfl rfl rfl rfl St_closed ⟨17, #[], #[], rfl, callable_17, fun w hw => ⟨_, hw.sat, fiducialref13_Inside_walk h_p0_3 hc23⟩⟩ ?_
          refine WO_pure tbok 2 [(1, .slice a_p1 p1.length c_p1), (3, .pointer (some ⟨b3, 0, none⟩)), (5, .pointer (some ⟨b4, 0, none⟩)), (6, .bool false), (7, .int .u64 y_3), (8, .int .i64 y_4), (9, .int .i64 y_5), (41, .bool (!y_10))] rfl ⟨rfl, rfl, rfl, rfl, rfl, rfl, rfl, rfl, trivial⟩ ?_
          refine WO_end ?_
          cases hx11
          refine WK.sub ?_ (WK.cls (fun _ h => h) hk12)
          exact ⟨rfl, rfl, rfl, rfl, rfl, rfl, rfl, rfl, trivial⟩
        · have hx11 := ifF hb22 hx11
          refine WO_pure tbok 5 [(1, .slice a_p1 p1.length c_p1), (3, .pointer (some ⟨b3, 0, none⟩)), (5, .pointer (some ⟨b4, 0, none⟩)), (6, .bool false), (7, .int .u64 y_3), (8, .int .i64 y_4), (9, .int .i64 y_5), (33, .bool false)] rfl ⟨rfl, rfl, rfl, rfl, rfl, rfl, rfl, rfl, trivial⟩ ?_
          refine WO_skip rfl rfl ?_
          refine WO_pure tbok 2 [(1, .slice a_p1 p1.length c_p1), (3, .pointer (some ⟨b3, 0, none⟩)), (5, .pointer (some ⟨b4, 0, none⟩)), (6, .bool false), (7, .int .u64 y_3), (8, .int .i64 y_4), (9, .int .i64 y_5), (41, .bool false)] rfl ⟨rfl, rfl, rfl, rfl, rfl, rfl, rfl, rfl, trivial⟩ ?_
          refine WO_end ?_
          cases hx11
          refine WK.sub ?_ (WK.cls (fun _ h => h) hk12)
          exact ⟨rfl, rfl, rfl, rfl, rfl, rfl, rfl, rfl, trivial⟩
def descriptor_Standard_Q (r : List (Int × Int × Int × Int × Int × Int × Int × Int)) : Value → List Ent → Prop := fun v L => ∃ (a0 : Option Addr) (q0 c0 : Nat), v = .slice a0 q0 c0 ∧ OwnE 46 8 T8 (.slice a0 q0 c0) r L
theorem descriptor_Standard_walk {m : Mu}    {r : List (Int × Int × Int × Int × Int × Int × Int × Int)} (hm : descriptor_Standard = some r) :
    Go.E.Spec Try.prog 21 [] m (fun v _ L => descriptor_Standard_Q r v L) := by
  refine Spec_enter Try.func21 rfl rfl rfl (fun w0 => ?_)
  refine WK.sub (e' := []) trivial ?_
  refine WK.sub (e' := []) trivial ?_
  unfold descriptor_Standard at hm
  refine WK_seq ?_
  refine WK_region ?_
  refine WO_pure tbok 1 [(0, .slice none 0 0)] rfl ⟨rfl, trivial⟩ ?_
  refine WO_end ?_
  refine WK_seq ?_
  refine WK_region ?_
  obtain ⟨hc1, hm⟩ := chk_some hm
  refine WO_make (E := T8) tbok (fun _ => rfl) (by decide) (0, 0, 0, 0, 0, 0, 0, 0) rfl rfl trivial rfl rfl rfl rfl rfl rfl rfl rfl rfl (mk_ok (by decide) hc1) (fun b2 c3 L4 hL4 => ?_)
  refine WO.cls (C' := St w0 m m [L4]) (fun _ h => h) ?_
  refine WO_pure tbok 1 [(0, .slice none 0 0), (1, .slice (some ⟨b2, 0, none⟩) (([] : List (Int × Int × Int × Int × Int × Int × Int × Int)).length) c3)] rfl ⟨rfl, rfl, trivial⟩ ?_
  refine WO_end ?_
  refine WK_seq ?_
  refine WK_seq ?_
  refine WK_region ?_
  refine WO_pure tbok 1 [(0, .slice none 0 0), (1, .slice (some ⟨b2, 0, none⟩) (([] : List (Int × Int × Int × Int × Int × Int × Int × Int)).length) c3), (4, .int .i64 0)] rfl ⟨rfl, rfl, rfl, trivial⟩ ?_
  refine WO_end ?_
  obtain ⟨x16, hx17, hm⟩ := bind_some hm
  refine WK_join (β := (List (Int × Int × Int × Int × Int × Int × Int × Int)) × (Option Addr × Nat × Nat × List Ent)) (fun p => p.1 = x16 ∧ OwnE 46 8 T8 (.slice p.2.1 p.2.2.1 p.2.2.2.1) p.1 p.2.2.2.2) (fun p => [(0, .slice none 0 0), (1, .slice p.2.1 p.2.2.1 p.2.2.2.1)]) (fun p => St w0 m m [p.2.2.2.2]) ?_ (fun hk18 => ?_)
  · rintro ⟨l_3, ⟨a13, q14, c15, L12⟩⟩ ⟨hq24, hL12⟩
    subst hq24
    have hqq : q14 = l_3.length := OwnE.qlen hL12
    subst hqq
    refine WK.sub (e' := [(0, .slice none 0 0), (1, .slice a13 ((l_3).length) c15)]) ⟨rfl, rfl, trivial⟩ (WK.cls (C' := St w0 m m [L12]) (fun _ h => h) ?_)
    refine WK_seq ?_
    refine WK_region ?_
    refine WO_pure tbok 2 [(0, .slice a13 ((l_3).length) c15)] rfl ⟨rfl, trivial⟩ ?_
    refine WO_end ?_
    cases hm
    exact WK_ret (ret_out (L := L12) (RLc_tmp rfl RLc_nil) (seg_sub 0 rfl) ⟨a13, ((l_3).length), c15, rfl, hL12⟩)
  · refine WK_block ?_
    refine WK_loop (S := List (Int × Int × Int × Int × Int × Int × Int × Int) × Int) (G := Option Addr × Nat × Nat × List Ent) (fun s => descriptor_Standard_s1 s.1 s.2) (fun s g => [(0, .slice none 0 0), (1, .slice g.1 g.2.1 g.2.2.1), (4, .int .i64 s.2)]) (fun s g => St w0 m m [g.2.2.2]) (fun s g => OwnE 46 8 T8 (.slice g.1 g.2.1 g.2.2.1) s.1 g.2.2.2) FUEL (([] : List (Int × Int × Int × Int × Int × Int × Int × Int)), 0) (some ⟨b2, 0, none⟩, ([] : List (Int × Int × Int × Int × Int × Int × Int × Int)).length, c3, L4) x16 hx17 hL4 ⟨rfl, rfl, rfl, trivial⟩ (fun _ h => h) ?_
    rintro ⟨l_1, s_2⟩ ⟨a8, q9, c10, L7⟩ o20 fl21 hm19 hL7 hn22 hd23
    have hm19 : descriptor_Standard_s1 l_1 s_2 = some o20 := hm19
    unfold descriptor_Standard_s1 at hm19
    have hqq : q9 = l_1.length := OwnE.qlen hL7
    subst hqq
    refine WK.sub (e' := [(0, .slice none 0 0), (1, .slice a8 ((l_1).length) c10), (4, .int .i64 s_2)]) ⟨rfl, rfl, rfl, trivial⟩ (WK.cls (C' := St w0 m m [L7]) (fun _ h => h) ?_)
    refine WK_seq ?_
    refine WK_region ?_
    refine WO_pure tbok 1 [(0, .slice none 0 0), (1, .slice a8 ((l_1).length) c10), (4, .int .i64 s_2), (5, .bool (decide (s_2 < 64)))] rfl ⟨rfl, rfl, rfl, rfl, trivial⟩ ?_
    refine WO_end ?_
    refine WK_seq ?_
    refine WK_cond (b := decide (s_2 < 64)) rfl (fun hb25 => ?_) (fun hb25 => ?_)
    · have hm19 := ifT hb25 hm19
      refine WK_skip ?_
      refine WK_seq ?_
      refine WK_block ?_
      refine WK_seq ?_
      refine WK_region ?_
      refine WO_pure tbok 2 [(0, .slice none 0 0), (1, .slice a8 ((l_1).length) c10), (2, .int .i64 s_2), (4, .int .i64 s_2)] rfl ⟨rfl, rfl, rfl, rfl, trivial⟩ ?_
      refine WO_end ?_
      refine WK_region ?_
      refine WO_pure tbok 20 [(0, .slice none 0 0), (1, .slice a8 ((l_1).length) c10), (4, .int .i64 s_2), (7, .slice a8 ((l_1).length) c10), (26, .agg #[.int .i64 (w64 ((Int.tmod s_2 8) - 4)), .int .i64 (w64 ((w64 (Int.tdiv s_2 8)) - 4)), .int .i64 1, .int .i64 1, .int .i64 (w64 (4 - (Int.tmod (w64 ((w64 (3 * s_2)) + 1)) 9))), .int .i64 (w64 (4 - (Int.tmod (w64 ((w64 (5 * s_2)) + 2)) 9))), .int .i64 1, .int .i64 1])] rfl ⟨rfl, rfl, rfl, rfl, rfl, trivial⟩ ?_
      refine WO_bslice (E := T8) tbok (fun _ => rfl) (by decide) [.agg #[.int .i64 (w64 ((Int.tmod s_2 8) - 4)), .int .i64 (w64 ((w64 (Int.tdiv s_2 8)) - 4)), .int .i64 1, .int .i64 1, .int .i64 (w64 (4 - (Int.tmod (w64 ((w64 (3 * s_2)) + 1)) 9))), .int .i64 (w64 (4 - (Int.tmod (w64 ((w64 (5 * s_2)) + 2)) 9))), .int .i64 1, .int .i64 1]] ([(w64 ((Int.tmod s_2 8) - 4), w64 ((w64 (Int.tdiv s_2 8)) - 4), 1, 1, w64 (4 - (Int.tmod (w64 ((w64 (3 * s_2)) + 1)) 9)), w64 (4 - (Int.tmod (w64 ((w64 (5 * s_2)) + 2)) 9)), 1, 1)] : List (Int × Int × Int × Int × Int × Int × Int × Int)) rfl rfl trivial rfl rfl rfl rfl rfl rfl rfl rfl rfl rfl rfl rfl (fun b26 hb26 => ?_)
      refine WO.cls (C' := St w0 m m [L7, [⟨b26, 46, ([(w64 ((Int.tmod s_2 8) - 4), w64 ((w64 (Int.tdiv s_2 8)) - 4), 1, 1, w64 (4 - (Int.tmod (w64 ((w64 (3 * s_2)) + 1)) 9)), w64 (4 - (Int.tmod (w64 ((w64 (5 * s_2)) + 2)) 9)), 1, 1)] : List (Int × Int × Int × Int × Int × Int × Int × Int)).flatMap T8⟩]]) (fun _ h => h) ?_
      obtain ⟨hc28, hm19⟩ := chk_some hm19
      refine WO_append (E := T8) tbok (fun _ => rfl) 0 ([(w64 ((Int.tmod s_2 8) - 4), w64 ((w64 (Int.tdiv s_2 8)) - 4), 1, 1, w64 (4 - (Int.tmod (w64 ((w64 (3 * s_2)) + 1)) 9)), w64 (4 - (Int.tmod (w64 ((w64 (5 * s_2)) + 2)) 9)), 1, 1)] : List (Int × Int × Int × Int × Int × Int × Int × Int)) (fun _ _ => rfl) rfl rfl rfl rfl rfl rfl rfl rfl rfl rfl rfl rfl hL7 rfl (src_seg (j := 1) rfl) (ap_ok (by decide) hc28) (ap_max hc28) (fun a29 c30 L31 hL31 => ?_)
      refine WO.cls (C' := St w0 m m [L31, [⟨b26, 46, ([(w64 ((Int.tmod s_2 8) - 4), w64 ((w64 (Int.tdiv s_2 8)) - 4), 1, 1, w64 (4 - (Int.tmod (w64 ((w64 (3 * s_2)) + 1)) 9)), w64 (4 - (Int.tmod (w64 ((w64 (5 * s_2)) + 2)) 9)), 1, 1)] : List (Int × Int × Int × Int × Int × Int × Int × Int)).flatMap T8⟩]]) (fun _ h => h) ?_
      refine WO_pure tbok 1 [(0, .slice none 0 0), (1, .slice a29 ((l_1 ++ ([(w64 ((Int.tmod s_2 8) - 4), w64 ((w64 (Int.tdiv s_2 8)) - 4), 1, 1, w64 (4 - (Int.tmod (w64 ((w64 (3 * s_2)) + 1)) 9)), w64 (4 - (Int.tmod (w64 ((w64 (5 * s_2)) + 2)) 9)), 1, 1)] : List (Int × Int × Int × Int × Int × Int × Int × Int))).length) c30), (4, .int .i64 s_2)] rfl ⟨rfl, rfl, rfl, trivial⟩ ?_
      refine WO_end ?_
      refine WK_blk ?_
      refine WK_region ?_
      refine WO_pure tbok 2 [(0, .slice none 0 0), (1, .slice a29 ((l_1 ++ ([(w64 ((Int.tmod s_2 8) - 4), w64 ((w64 (Int.tdiv s_2 8)) - 4), 1, 1, w64 (4 - (Int.tmod (w64 ((w64 (3 * s_2)) + 1)) 9)), w64 (4 - (Int.tmod (w64 ((w64 (5 * s_2)) + 2)) 9)), 1, 1)] : List (Int × Int × Int × Int × Int × Int × Int × Int))).length) c30), (4, .int .i64 (w64 (s_2 + 1)))] rfl ⟨rfl, rfl, rfl, trivial⟩ ?_
      refine WO_end ?_
      cases hm19
      refine WK.sub ?_ (WK.cls (fun _ h => St.take 1 h) (hn22 _ (a29, (l_1 ++ ([(w64 ((Int.tmod s_2 8) - 4), w64 ((w64 (Int.tdiv s_2 8)) - 4), 1, 1, w64 (4 - (Int.tmod (w64 ((w64 (3 * s_2)) + 1)) 9)), w64 (4 - (Int.tmod (w64 ((w64 (5 * s_2)) + 2)) 9)), 1, 1)] : List (Int × Int × Int × Int × Int × Int × Int × Int))).length, c30, L31) rfl hL31))
      exact ⟨rfl, rfl, rfl, trivial⟩
    · have hm19 := ifF hb25 hm19
      refine WK_exit rfl ?_
      cases hm19
      refine WK.sub ?_ (WK.cls (fun _ h => h) (hk18 (l_1, (a8, (l_1).length, c10, L7)) ⟨(hd23 _ rfl), hL7⟩))
      exact ⟨rfl, rfl, trivial⟩
theorem fiduciallaw21_DescriptorForms_walk {m : Mu} {p0 : List (Int × Int × Int × Int × Int × Int × Int × Int)} {a_p0 : Option Addr} {q_p0 c_p0 : Nat} (h_p0 : SlR (FE T8) 8 m (.slice a_p0 q_p0 c_p0) p0) {r : Bool} (hm : fiduciallaw21_DescriptorForms p0 = some r) :
    Go.E.Spec Try.prog 5 [.slice a_p0 q_p0 c_p0] m (fun v _ _ => v = .bool r) := by
  refine Spec_enter Try.func5 rfl rfl rfl (fun w0 => ?_)
  refine WK.sub (e' := [(0, .slice a_p0 q_p0 c_p0)]) ⟨rfl, trivial⟩ ?_
  obtain rfl := SlR.qlen h_p0
  refine WK.sub (e' := [(0, .slice a_p0 p0.length c_p0)]) ⟨rfl, trivial⟩ ?_
  unfold fiduciallaw21_DescriptorForms at hm
  refine WK_seq ?_
  refine WK_region ?_
  refine WO_pure tbok 1 [(0, .slice a_p0 p0.length c_p0), (2, .bool false)] rfl ⟨rfl, rfl, trivial⟩ ?_
  refine WO_end ?_
  refine WK_seq ?_
  refine WK_seq ?_
  refine WK_region ?_
  obtain ⟨y_1, hc2, hm⟩ := bind_some hm
  refine WO_call0 (.bool y_1) rfl rfl trivial rfl rfl rfl rfl St_closed ⟨11, #[], #[], rfl, callable_11, fun w hw => ⟨_, hw.sat, fiduciallaw21_known_walk hc2⟩⟩ ?_
  refine WO_pure tbok 1 [(0, .slice a_p0 p0.length c_p0), (2, .bool false), (7, .bool (!y_1))] rfl ⟨rfl, rfl, rfl, trivial⟩ ?_
  refine WO_end ?_
  refine WK_cond (b := !y_1) rfl (fun hb3 => ?_) (fun hb3 => ?_)
  · have hm := ifT hb3 hm
    refine WK_seq ?_
    refine WK_region ?_
    refine WO_pure tbok 1 [(0, .slice a_p0 p0.length c_p0), (2, .bool false)] rfl ⟨rfl, rfl, trivial⟩ ?_
    refine WO_end ?_
    cases hm
    exact WK_ret (ret_out (L := []) (RLc_tmp rfl RLc_nil) (List.nil_sublist _) rfl)
  · have hm := ifF hb3 hm
    refine WK_skip ?_
    refine WK_seq ?_
    refine WK_seq ?_
    refine WK_region ?_
    refine WO_pure tbok 3 [(0, .slice a_p0 p0.length c_p0), (2, .bool false), (10, .bool (decide (70 < (p0.length : Int))))] rfl ⟨rfl, rfl, rfl, trivial⟩ ?_
    refine WO_end ?_
    refine WK_cond (b := decide (70 < (p0.length : Int))) rfl (fun hb4 => ?_) (fun hb4 => ?_)
    · have hm := ifT hb4 hm
      refine WK_seq ?_
      refine WK_region ?_
      refine WO_pure tbok 1 [(0, .slice a_p0 p0.length c_p0), (2, .bool true)] rfl ⟨rfl, rfl, trivial⟩ ?_
      refine WO_end ?_
      cases hm
      exact WK_ret (ret_out (L := []) (RLc_tmp rfl RLc_nil) (List.nil_sublist _) rfl)
    · have hm := ifF hb4 hm
      refine WK_skip ?_
      refine WK_seq ?_
      refine WK_seq ?_
      obtain ⟨s_2, hx5, hm⟩ := bind_some hm
      refine WK_meet [(2, .bool false), (26, .bool s_2)] (St w0 m m []) ?_ (fun hk6 => ?_)
      · refine WK_cond (b := s_2) rfl (fun hb7 => ?_) (fun hb7 => ?_)
        · have hm := ifT hb7 hm
          refine WK_seq ?_
          refine WK_region ?_
          refine WO_pure tbok 1 [(2, .bool false)] rfl ⟨rfl, trivial⟩ ?_
          refine WO_end ?_
          cases hm
          exact WK_ret (ret_out (L := []) (RLc_tmp rfl RLc_nil) (List.nil_sublist _) rfl)
        · have hm := ifF hb7 hm
          refine WK_skip ?_
          refine WK_seq ?_
          refine WK_region ?_
          obtain ⟨y_3, hc8, hm⟩ := bind_some hm
          refine WO_call1 (descriptor_Standard_Q y_3) rfl rfl trivial rfl rfl rfl rfl ⟨21, #[], #[], rfl, callable_21, fun w hw => ⟨_, hw.sat, descriptor_Standard_walk hc8⟩⟩ (fun v13 L12 hq => ?_)
          obtain ⟨a9, qa9, c10, rfl, hL12⟩ := hq
          obtain rfl := OwnE.qlen hL12
          refine WO.cls (C' := St w0 m m [L12]) (fun _ h => h) ?_
          refine WO_pure tbok 1 [(2, .bool false), (3, .slice a9 ((y_3).length) c10)] rfl ⟨rfl, rfl, trivial⟩ ?_
          refine WO_end ?_
          refine WK_seq ?_
          refine WK_seq ?_
          refine WK_region ?_
          refine WO_pure tbok 3 [(2, .bool false), (3, .slice a9 ((y_3).length) c10), (30, .bool (((y_3).length : Int) != 64))] rfl ⟨rfl, rfl, rfl, trivial⟩ ?_
          refine WO_end ?_
          refine WK_cond (b := ((y_3).length : Int) != 64) rfl (fun hb14 => ?_) (fun hb14 => ?_)
          · have hm := ifT hb14 hm
            refine WK_seq ?_
            refine WK_region ?_
            refine WO_pure tbok 1 [(2, .bool false), (3, .slice a9 ((y_3).length) c10)] rfl ⟨rfl, rfl, trivial⟩ ?_
            refine WO_end ?_
            cases hm
            exact WK_ret (ret_out (L := []) (RLc_tmp rfl RLc_nil) (List.nil_sublist _) rfl)
          · have hm := ifF hb14 hm
            refine WK_skip ?_
            refine WK_seq ?_
            refine WK_seq ?_
            refine WK_region ?_
            refine WO_pure tbok 3 [(2, .bool false), (3, .slice a9 ((y_3).length) c10), (31, .slice a9 ((y_3).length) c10), (32, .int .i64 ((y_3).length : Int)), (33, .int .i64 0)] rfl ⟨rfl, rfl, rfl, rfl, rfl, trivial⟩ ?_
            refine WO_end ?_
            obtain ⟨x15, hx16, hm⟩ := bind_some hm
            refine WK_join (β := Unit × Unit) (fun p => Sum.inr p.1 = x15) (fun p => [(2, .bool false), (3, .slice a9 ((y_3).length) c10)]) (fun p => St w0 m m [L12]) ?_ (fun hk17 => ?_)
            · rintro ⟨⟨⟩, ⟨⟩⟩ hq23
              subst hq23
              refine WK.sub (e' := [(2, .bool false), (3, .slice a9 ((y_3).length) c10)]) ⟨rfl, rfl, trivial⟩ (WK.cls (C' := St w0 m m [L12]) (fun _ h => h) ?_)
              refine WK_seq ?_
              refine WK_region ?_
              refine WO_pure tbok 1 [(2, .bool false), (60, .slice a9 ((y_3).length) c10)] rfl ⟨rfl, rfl, trivial⟩ ?_
              obtain ⟨y_5, hc24, hm⟩ := bind_some hm
              refine WO_call0 (.int .i64 y_5) rfl rfl trivial rfl rfl rfl rfl St_closed ⟨19, #[], #[], rfl, callable_19, fun w hw => ⟨_, hw.satV, descriptor_Check_walk (OwnE.rd (E := T8) (k := 8) (fun _ => rfl) hL12 (fun _ hx => hw.memV (i := 0) rfl hx)) hc24⟩⟩ ?_
              refine WO_pure tbok 2 [(2, .bool (y_5 == 0))] rfl ⟨rfl, trivial⟩ ?_
              refine WO_end ?_
              cases hm
              exact WK_ret (ret_out (L := []) (RLc_tmp rfl RLc_nil) (List.nil_sublist _) rfl)
            · refine WK_block ?_
              refine WK_loop (S := Int) (G := Unit) (fun s => fiduciallaw21_DescriptorForms_s1 y_3 s) (fun s g => [(2, .bool false), (3, .slice a9 ((y_3).length) c10), (31, .slice a9 ((y_3).length) c10), (32, .int .i64 ((y_3).length : Int)), (33, .int .i64 s)]) (fun s g => St w0 m m [L12]) (fun s g => True) FUEL 0 () x15 hx16 trivial ⟨rfl, rfl, rfl, rfl, rfl, trivial⟩ (fun _ h => h) ?_
              rintro s_4 ⟨⟩ o19 fl20 hm18 - hn21 hd22
              have hm18 : fiduciallaw21_DescriptorForms_s1 y_3 s_4 = some o19 := hm18
              unfold fiduciallaw21_DescriptorForms_s1 at hm18
              refine WK.sub (e' := [(2, .bool false), (3, .slice a9 ((y_3).length) c10), (31, .slice a9 ((y_3).length) c10), (32, .int .i64 ((y_3).length : Int)), (33, .int .i64 s_4)]) ⟨rfl, rfl, rfl, rfl, rfl, trivial⟩ (WK.cls (C' := St w0 m m [L12]) (fun _ h => h) ?_)
              refine WK_seq ?_
              refine WK_region ?_
              refine WO_pure tbok 1 [(2, .bool false), (3, .slice a9 ((y_3).length) c10), (31, .slice a9 ((y_3).length) c10), (32, .int .i64 ((y_3).length : Int)), (33, .int .i64 s_4), (34, .bool (decide (s_4 < ((y_3).length : Int))))] rfl ⟨rfl, rfl, rfl, rfl, rfl, rfl, trivial⟩ ?_
              refine WO_end ?_
              refine WK_seq ?_
              refine WK_cond (b := decide (s_4 < ((y_3).length : Int))) rfl (fun hb25 => ?_) (fun hb25 => ?_)
              · have hm18 := ifT hb25 hm18
                refine WK_skip ?_
                refine WK_seq ?_
                refine WK_block ?_
                refine WK_seq ?_
                refine WK_region ?_
                refine WO_pure tbok 1 [(2, .bool false), (3, .slice a9 ((y_3).length) c10), (31, .slice a9 ((y_3).length) c10), (32, .int .i64 ((y_3).length : Int)), (33, .int .i64 s_4), (35, .int .i64 s_4)] rfl ⟨rfl, rfl, rfl, rfl, rfl, rfl, trivial⟩ ?_
                obtain ⟨v_6, hy26, hm18⟩ := bind_some hm18
                obtain ⟨hc27, hy26⟩ := ix_some hy26
                refine WO_index tbok rfl rfl rfl rfl rfl rfl rfl rfl (OwnE.addr hL12) (by simpa using hc27) ?_
                refine WO_loadO (E := T8) tbok (fun _ => rfl) 0 rfl rfl rfl rfl (fun _ h => h) hL12 rfl hy26 rfl ?_
                refine WO_alloc tbok [.int .i64 0, .int .i64 0, .int .i64 0, .int .i64 0, .int .i64 0, .int .i64 0, .int .i64 0, .int .i64 0] rfl rfl trivial rfl rfl rfl rfl (fun b28 => ?_)
                refine WO.cls (C' := St w0 m m [L12, [⟨b28, 46, [.int .i64 0, .int .i64 0, .int .i64 0, .int .i64 0, .int .i64 0, .int .i64 0, .int .i64 0, .int .i64 0]⟩]]) (fun _ h => h) ?_
                refine WO_pure tbok 1 [(2, .bool false), (3, .slice a9 ((y_3).length) c10), (4, .int .i64 s_4), (5, .pointer (some ⟨b28, 0, none⟩)), (31, .slice a9 ((y_3).length) c10), (32, .int .i64 ((y_3).length : Int)), (33, .int .i64 s_4), (37, .agg #[.int .i64 v_6.1, .int .i64 v_6.2.1, .int .i64 v_6.2.2.1, .int .i64 v_6.2.2.2.1, .int .i64 v_6.2.2.2.2.1, .int .i64 v_6.2.2.2.2.2.1, .int .i64 v_6.2.2.2.2.2.2.1, .int .i64 v_6.2.2.2.2.2.2.2])] rfl ⟨rfl, rfl, rfl, rfl, rfl, rfl, rfl, rfl, trivial⟩ ?_
                refine WO_storeB tbok 1 [.int .i64 v_6.1, .int .i64 v_6.2.1, .int .i64 v_6.2.2.1, .int .i64 v_6.2.2.2.1, .int .i64 v_6.2.2.2.2.1, .int .i64 v_6.2.2.2.2.2.1, .int .i64 v_6.2.2.2.2.2.2.1, .int .i64 v_6.2.2.2.2.2.2.2] rfl rfl rfl rfl rfl rfl rfl ?_
                refine WO.cls (C' := St w0 m m [L12, [⟨b28, 46, [.int .i64 v_6.1, .int .i64 v_6.2.1, .int .i64 v_6.2.2.1, .int .i64 v_6.2.2.2.1, .int .i64 v_6.2.2.2.2.1, .int .i64 v_6.2.2.2.2.2.1, .int .i64 v_6.2.2.2.2.2.2.1, .int .i64 v_6.2.2.2.2.2.2.2]⟩]]) (fun _ h => h) ?_
                refine WO_end ?_
                refine WK_seq ?_
                refine WK_region ?_
                refine WO_loadB tbok 1 rfl rfl rfl rfl (fun _ h => h) rfl rfl ?_
                refine WO_pure tbok 19 [(2, .bool false), (3, .slice a9 ((y_3).length) c10), (31, .slice a9 ((y_3).length) c10), (32, .int .i64 ((y_3).length : Int)), (33, .int .i64 s_4), (38, .agg #[.int .i64 v_6.1, .int .i64 v_6.2.1, .int .i64 v_6.2.2.1, .int .i64 v_6.2.2.2.1, .int .i64 v_6.2.2.2.2.1, .int .i64 v_6.2.2.2.2.2.1, .int .i64 v_6.2.2.2.2.2.2.1, .int .i64 v_6.2.2.2.2.2.2.2]), (57, .agg #[.int .i64 (w64 ((Int.tmod s_4 8) - 4)), .int .i64 (w64 ((w64 (Int.tdiv s_4 8)) - 4)), .int .i64 1, .int .i64 1, .int .i64 (w64 (4 - (Int.tmod (w64 ((w64 (3 * s_4)) + 1)) 9))), .int .i64 (w64 (4 - (Int.tmod (w64 ((w64 (5 * s_4)) + 2)) 9))), .int .i64 1, .int .i64 1])] rfl ⟨rfl, rfl, rfl, rfl, rfl, rfl, rfl, trivial⟩ ?_
                refine WO_neA (r := (((v_6.1 == (w64 ((Int.tmod s_4 8) - 4))) && ((v_6.2.1 == (w64 ((w64 (Int.tdiv s_4 8)) - 4))) && ((v_6.2.2.1 == 1) && ((v_6.2.2.2.1 == 1) && true)))) && (((v_6.2.2.2.2.1 == (w64 (4 - (Int.tmod (w64 ((w64 (3 * s_4)) + 1)) 9)))) && ((v_6.2.2.2.2.2.1 == (w64 (4 - (Int.tmod (w64 ((w64 (5 * s_4)) + 2)) 9)))) && ((v_6.2.2.2.2.2.2.1 == 1) && ((v_6.2.2.2.2.2.2.2 == 1) && true)))) && true))) [.int .i64 v_6.1, .int .i64 v_6.2.1, .int .i64 v_6.2.2.1, .int .i64 v_6.2.2.2.1, .int .i64 v_6.2.2.2.2.1, .int .i64 v_6.2.2.2.2.2.1, .int .i64 v_6.2.2.2.2.2.2.1, .int .i64 v_6.2.2.2.2.2.2.2] [.int .i64 (w64 ((Int.tmod s_4 8) - 4)), .int .i64 (w64 ((w64 (Int.tdiv s_4 8)) - 4)), .int .i64 1, .int .i64 1, .int .i64 (w64 (4 - (Int.tmod (w64 ((w64 (3 * s_4)) + 1)) 9))), .int .i64 (w64 (4 - (Int.tmod (w64 ((w64 (5 * s_4)) + 2)) 9))), .int .i64 1, .int .i64 1] rfl rfl rfl rfl rfl (by kernel_rfl) (by kernel_rfl) (by kernel_rfl) ?_
                refine WO_end ?_
                refine WK_cond (b := !(((v_6.1 == (w64 ((Int.tmod s_4 8) - 4))) && ((v_6.2.1 == (w64 ((w64 (Int.tdiv s_4 8)) - 4))) && ((v_6.2.2.1 == 1) && ((v_6.2.2.2.1 == 1) && true)))) && (((v_6.2.2.2.2.1 == (w64 (4 - (Int.tmod (w64 ((w64 (3 * s_4)) + 1)) 9)))) && ((v_6.2.2.2.2.2.1 == (w64 (4 - (Int.tmod (w64 ((w64 (5 * s_4)) + 2)) 9)))) && ((v_6.2.2.2.2.2.2.1 == 1) && ((v_6.2.2.2.2.2.2.2 == 1) && true)))) && true))) rfl (fun hb29 => ?_) (fun hb29 => ?_)
                · have hm18 := ifT hb29 hm18
                  refine WK_seq ?_
                  refine WK_region ?_
                  refine WO_pure tbok 1 [(2, .bool false), (3, .slice a9 ((y_3).length) c10), (31, .slice a9 ((y_3).length) c10), (32, .int .i64 ((y_3).length : Int)), (33, .int .i64 s_4)] rfl ⟨rfl, rfl, rfl, rfl, rfl, trivial⟩ ?_
                  refine WO_end ?_
                  cases hm18
                  have hq := hd22 _ rfl
                  subst hq
                  have hm : some _ = some _ := hm
                  cases hm
                  exact WK_ret (ret_out (L := []) (RLc_tmp rfl RLc_nil) (List.nil_sublist _) rfl)
                · have hm18 := ifF hb29 hm18
                  refine WK_skip ?_
                  refine WK_blk ?_
                  refine WK_region ?_
                  refine WO_pure tbok 2 [(2, .bool false), (3, .slice a9 ((y_3).length) c10), (31, .slice a9 ((y_3).length) c10), (32, .int .i64 ((y_3).length : Int)), (33, .int .i64 (w64 (s_4 + 1)))] rfl ⟨rfl, rfl, rfl, rfl, rfl, trivial⟩ ?_
                  refine WO_end ?_
                  cases hm18
                  refine WK.sub ?_ (WK.cls (fun _ h => St.take 1 h) (hn21 _ () rfl trivial))
                  exact ⟨rfl, rfl, rfl, rfl, rfl, trivial⟩
              · have hm18 := ifF hb25 hm18
                refine WK_exit rfl ?_
                cases hm18
                refine WK.sub ?_ (WK.cls (fun _ h => h) (hk17 ((), ()) (hd22 _ rfl)))
                exact ⟨rfl, rfl, trivial⟩
      · refine WK_region ?_
        refine WO_pure tbok 1 [(0, .slice a_p0 p0.length c_p0), (2, .bool false), (11, .slice a_p0 p0.length c_p0)] rfl ⟨rfl, rfl, rfl, trivial⟩ ?_
        obtain ⟨y_7, hc30, hx5⟩ := bind_some hx5
        refine WO_call0 (.int .i64 y_7) rfl rfl trivial rfl rfl rfl rfl St_closed ⟨19, #[], #[], rfl, callable_19, fun w hw => ⟨_, hw.sat, descriptor_Check_walk h_p0 hc30⟩⟩ ?_
        refine WO_pure tbok 2 [(0, .slice a_p0 p0.length c_p0), (2, .bool false), (13, .bool (y_7 == 0)), (14, .slice a_p0 p0.length c_p0)] rfl ⟨rfl, rfl, rfl, rfl, trivial⟩ ?_
        obtain ⟨y_8, hc31, hx5⟩ := bind_some hx5
        refine WO_call0 (.bool y_8) rfl rfl trivial rfl rfl rfl rfl St_closed ⟨20, #[], #[], rfl, callable_20, fun w hw => ⟨_, hw.sat, fiduciallaw21_pattern_walk h_p0 hc31⟩⟩ ?_
        refine WO_pure tbok 2 [(0, .slice a_p0 p0.length c_p0), (2, .bool false), (17, .bool (!((y_7 == 0) == y_8)))] rfl ⟨rfl, rfl, rfl, trivial⟩ ?_
        refine WO_split (d := 17) (b := !((y_7 == 0) == y_8)) rfl (fun hb32 => ?_) (fun hb32 => ?_)
        · have hx5 := ifT hb32 hx5
          refine WO_pure tbok 1 [(0, .slice a_p0 p0.length c_p0), (2, .bool false), (17, .bool true)] rfl ⟨rfl, rfl, rfl, trivial⟩ ?_
          refine WO_skip rfl rfl ?_
          refine WO_pure tbok 3 [(2, .bool false), (17, .bool true), (21, undef)] rfl ⟨rfl, rfl, rfl, trivial⟩ ?_
          refine WO_skip rfl rfl ?_
          refine WO_pure tbok 3 [(2, .bool false), (26, .bool true)] rfl ⟨rfl, rfl, trivial⟩ ?_
          refine WO_end ?_
          cases hx5
          refine WK.sub ?_ (WK.cls (fun _ h => h) hk6)
          exact ⟨rfl, rfl, trivial⟩
        · have hx5 := ifF hb32 hx5
          refine WO_pure tbok 1 [(0, .slice a_p0 p0.length c_p0), (2, .bool false), (17, .bool false), (18, .slice a_p0 p0.length c_p0)] rfl ⟨rfl, rfl, rfl, rfl, trivial⟩ ?_
          obtain ⟨y_9, hc33, hx5⟩ := bind_some hx5
          refine WO_call0 (.bool y_9) rfl rfl trivial rfl rfl rfl rfl St_closed ⟨20, #[], #[], rfl, callable_20, fun w hw => ⟨_, hw.sat, fiduciallaw21_pattern_walk h_p0 hc33⟩⟩ ?_
          refine WO_pure tbok 2 [(0, .slice a_p0 p0.length c_p0), (2, .bool false), (17, .bool false), (21, .bool (!y_9))] rfl ⟨rfl, rfl, rfl, rfl, trivial⟩ ?_
          refine WO_split (d := 21) (b := !y_9) rfl (fun hb34 => ?_) (fun hb34 => ?_)
          · have hx5 := ifT hb34 hx5
            refine WO_pure tbok 1 [(2, .bool false), (17, .bool false), (21, .bool true), (22, .slice a_p0 p0.length c_p0)] rfl ⟨rfl, rfl, rfl, rfl, trivial⟩ ?_
            obtain ⟨y_10, hc35, hx5⟩ := bind_some hx5
            refine WO_call0 (.int .i64 y_10) rfl rfl trivial rfl rfl rfl rfl St_closed ⟨19, #[], #[], rfl, callable_19, fun w hw => ⟨_, hw.sat, descriptor_Check_walk h_p0 hc35⟩⟩ ?_
            refine WO_pure tbok 3 [(2, .bool false), (26, .bool (y_10 != 1))] rfl ⟨rfl, rfl, trivial⟩ ?_
            refine WO_end ?_
            cases hx5
            refine WK.sub ?_ (WK.cls (fun _ h => h) hk6)
            exact ⟨rfl, rfl, trivial⟩
          · have hx5 := ifF hb34 hx5
            refine WO_pure tbok 1 [(2, .bool false), (17, .bool false), (21, .bool false)] rfl ⟨rfl, rfl, rfl, trivial⟩ ?_
            refine WO_skip rfl rfl ?_
            refine WO_pure tbok 3 [(2, .bool false), (26, .bool false)] rfl ⟨rfl, rfl, trivial⟩ ?_
            refine WO_end ?_
            cases hx5
            refine WK.sub ?_ (WK.cls (fun _ h => h) hk6)
            exact ⟨rfl, rfl, trivial⟩
theorem descriptor_turned_walk {m : Mu} {p0_0 : Int} {p0_1 : Int} {p0_2 : Int} {p0_3 : Int}   {r : Int × Int × Int × Int} (hm : descriptor_turned p0_0 p0_1 p0_2 p0_3 = some r) :
    Go.E.Spec Try.prog 44 [.agg #[.int .i64 p0_0, .int .i64 p0_1, .int .i64 p0_2, .int .i64 p0_3]] m (fun v _ _ => v = .agg #[.int .i64 r.1, .int .i64 r.2.1, .int .i64 r.2.2.1, .int .i64 r.2.2.2]) := by
  refine Spec_enter Try.func44 rfl rfl rfl (fun w0 => ?_)
  refine WK.sub (e' := [(0, .agg #[.int .i64 p0_0, .int .i64 p0_1, .int .i64 p0_2, .int .i64 p0_3])]) ⟨rfl, trivial⟩ ?_
  refine WK.sub (e' := [(0, .agg #[.int .i64 p0_0, .int .i64 p0_1, .int .i64 p0_2, .int .i64 p0_3])]) ⟨rfl, trivial⟩ ?_
  unfold descriptor_turned at hm
  refine WK_seq ?_
  refine WK_region ?_
  refine WO_box [.int .i64 p0_0, .int .i64 p0_1, .int .i64 p0_2, .int .i64 p0_3] rfl rfl trivial rfl rfl rfl (fun b1 => ?_)
  refine WO.cls (C' := St w0 m m [[⟨b1, 44, [.int .i64 p0_0, .int .i64 p0_1, .int .i64 p0_2, .int .i64 p0_3]⟩]]) (fun _ h => h) ?_
  refine WO_alloc tbok [.int .i64 0, .int .i64 0, .int .i64 0, .int .i64 0] rfl rfl trivial rfl rfl rfl rfl (fun b2 => ?_)
  refine WO.cls (C' := St w0 m m [[⟨b1, 44, [.int .i64 p0_0, .int .i64 p0_1, .int .i64 p0_2, .int .i64 p0_3]⟩], [⟨b2, 44, [.int .i64 0, .int .i64 0, .int .i64 0, .int .i64 0]⟩]]) (fun _ h => h) ?_
  refine WO_end ?_
  refine WK_seq ?_
  refine WK_region ?_
  refine WO_pure tbok 1 [(1, .pointer (some ⟨b1, 0, none⟩)), (2, .pointer (some ⟨b2, 0, none⟩)), (3, .pointer (some ⟨b1, 1, none⟩))] rfl ⟨rfl, rfl, rfl, trivial⟩ ?_
  refine WO_loadB tbok 0 rfl rfl rfl rfl (fun _ h => h) rfl rfl ?_
  refine WO_pure tbok 1 [(1, .pointer (some ⟨b1, 0, none⟩)), (2, .pointer (some ⟨b2, 0, none⟩)), (4, .int .i64 p0_1), (5, .pointer (some ⟨b1, 0, none⟩))] rfl ⟨rfl, rfl, rfl, rfl, trivial⟩ ?_
  refine WO_loadB tbok 0 rfl rfl rfl rfl (fun _ h => h) rfl rfl ?_
  refine WO_pure tbok 2 [(1, .pointer (some ⟨b1, 0, none⟩)), (2, .pointer (some ⟨b2, 0, none⟩)), (4, .int .i64 p0_1), (7, .int .i64 (w64 (1 - p0_0))), (8, .pointer (some ⟨b1, 2, none⟩))] rfl ⟨rfl, rfl, rfl, rfl, rfl, trivial⟩ ?_
  refine WO_loadB tbok 0 rfl rfl rfl rfl (fun _ h => h) rfl rfl ?_
  refine WO_pure tbok 2 [(1, .pointer (some ⟨b1, 0, none⟩)), (2, .pointer (some ⟨b2, 0, none⟩)), (4, .int .i64 p0_1), (10, .int .i64 (w64 ((w64 (1 - p0_0)) - p0_2))), (11, .pointer (some ⟨b1, 3, none⟩))] rfl ⟨rfl, rfl, rfl, rfl, rfl, trivial⟩ ?_
  refine WO_loadB tbok 0 rfl rfl rfl rfl (fun _ h => h) rfl rfl ?_
  refine WO_pure tbok 1 [(2, .pointer (some ⟨b2, 0, none⟩)), (4, .int .i64 p0_1), (10, .int .i64 (w64 ((w64 (1 - p0_0)) - p0_2))), (12, .int .i64 p0_3), (13, .pointer (some ⟨b1, 2, none⟩))] rfl ⟨rfl, rfl, rfl, rfl, rfl, trivial⟩ ?_
  refine WO_loadB tbok 0 rfl rfl rfl rfl (fun _ h => h) rfl rfl ?_
  refine WO_pure tbok 1 [(2, .pointer (some ⟨b2, 0, none⟩)), (15, .agg #[.int .i64 p0_1, .int .i64 (w64 ((w64 (1 - p0_0)) - p0_2)), .int .i64 p0_3, .int .i64 p0_2])] rfl ⟨rfl, rfl, trivial⟩ ?_
  refine WO_storeB tbok 1 [.int .i64 p0_1, .int .i64 (w64 ((w64 (1 - p0_0)) - p0_2)), .int .i64 p0_3, .int .i64 p0_2] rfl rfl rfl rfl rfl rfl rfl ?_
  refine WO.cls (C' := St w0 m m [[⟨b1, 44, [.int .i64 p0_0, .int .i64 p0_1, .int .i64 p0_2, .int .i64 p0_3]⟩], [⟨b2, 44, [.int .i64 p0_1, .int .i64 (w64 ((w64 (1 - p0_0)) - p0_2)), .int .i64 p0_3, .int .i64 p0_2]⟩]]) (fun _ h => h) ?_
  refine WO_end ?_
  cases hm
  exact WK_ret (ret_out (L := []) (RLc_cell tbok 1 rfl rfl rfl RLc_nil) (List.nil_sublist _) rfl)
def descriptor_Turned_Q (r : List (Int × Int × Int × Int × Int × Int × Int × Int) × Int) : Value → List Ent → Prop := fun v L => ∃ (a0 : Option Addr) (q0 c0 : Nat), v = .tuple #[.slice a0 q0 c0, .int .i64 r.2] ∧ OwnE 46 8 T8 (.slice a0 q0 c0) r.1 L
theorem descriptor_Turned_walk {m : Mu} {p0 : List (Int × Int × Int × Int × Int × Int × Int × Int)} {a_p0 : Option Addr} {q_p0 c_p0 : Nat} (h_p0 : SlR (FE T8) 8 m (.slice a_p0 q_p0 c_p0) p0) {r : List (Int × Int × Int × Int × Int × Int × Int × Int) × Int} (hm : descriptor_Turned p0 = some r) :
    Go.E.Spec Try.prog 22 [.slice a_p0 q_p0 c_p0] m (fun v _ L => descriptor_Turned_Q r v L) := by
  refine Spec_enter Try.func22 rfl rfl rfl (fun w0 => ?_)
  refine WK.sub (e' := [(0, .slice a_p0 q_p0 c_p0)]) ⟨rfl, trivial⟩ ?_
  obtain rfl := SlR.qlen h_p0
  refine WK.sub (e' := [(0, .slice a_p0 p0.length c_p0)]) ⟨rfl, trivial⟩ ?_
  unfold descriptor_Turned at hm
  refine WK_seq ?_
  refine WK_region ?_
  refine WO_pure tbok 2 [(0, .slice a_p0 p0.length c_p0), (2, .slice none 0 0), (3, .int .i64 0)] rfl ⟨rfl, rfl, rfl, trivial⟩ ?_
  refine WO_end ?_
  refine WK_seq ?_
  refine WK_seq ?_
  refine WK_region ?_
  refine WO_pure tbok 1 [(0, .slice a_p0 p0.length c_p0), (2, .slice none 0 0), (3, .int .i64 0), (8, .slice a_p0 p0.length c_p0)] rfl ⟨rfl, rfl, rfl, rfl, trivial⟩ ?_
  obtain ⟨y_1, hc2, hm⟩ := bind_some hm
  refine WO_call0 (.int .i64 y_1) rfl rfl trivial rfl rfl rfl rfl St_closed ⟨19, #[], #[], rfl, callable_19, fun w hw => ⟨_, hw.sat, descriptor_Check_walk h_p0 hc2⟩⟩ ?_
  refine WO_pure tbok 1 [(0, .slice a_p0 p0.length c_p0), (2, .slice none 0 0), (3, .int .i64 0), (4, .int .i64 y_1)] rfl ⟨rfl, rfl, rfl, rfl, trivial⟩ ?_
  refine WO_end ?_
  refine WK_seq ?_
  refine WK_region ?_
  refine WO_pure tbok 2 [(0, .slice a_p0 p0.length c_p0), (2, .slice none 0 0), (3, .int .i64 0), (4, .int .i64 y_1), (11, .bool (y_1 != 0))] rfl ⟨rfl, rfl, rfl, rfl, rfl, trivial⟩ ?_
  refine WO_end ?_
  refine WK_cond (b := y_1 != 0) rfl (fun hb3 => ?_) (fun hb3 => ?_)
  · have hm := ifT hb3 hm
    refine WK_seq ?_
    refine WK_region ?_
    refine WO_pure tbok 3 [(0, .slice a_p0 p0.length c_p0), (2, .slice none 0 0), (3, .int .i64 y_1)] rfl ⟨rfl, rfl, rfl, trivial⟩ ?_
    refine WO_end ?_
    cases hm
    exact WK_ret (ret_out (L := []) (RLc_tmp rfl (RLc_tmp rfl RLc_nil)) (List.nil_sublist _) ⟨none, 0, 0, rfl, (OwnE.nil none)⟩)
  · have hm := ifF hb3 hm
    refine WK_skip ?_
    refine WK_seq ?_
    refine WK_region ?_
    refine WO_pure tbok 1 [(0, .slice a_p0 p0.length c_p0), (2, .slice none 0 0), (3, .int .i64 0), (5, .slice none 0 0)] rfl ⟨rfl, rfl, rfl, rfl, trivial⟩ ?_
    refine WO_end ?_
    refine WK_seq ?_
    refine WK_seq ?_
    refine WK_region ?_
    refine WO_pure tbok 3 [(2, .slice none 0 0), (3, .int .i64 0), (5, .slice none 0 0), (13, .slice a_p0 p0.length c_p0), (14, .int .i64 (p0.length : Int)), (15, .int .i64 0)] rfl ⟨rfl, rfl, rfl, rfl, rfl, rfl, trivial⟩ ?_
    refine WO_end ?_
    refine WK_pad ?_
    obtain ⟨x15, hx16, hm⟩ := bind_some hm
    refine WK_join (β := (List (Int × Int × Int × Int × Int × Int × Int × Int)) × (Option Addr × Nat × Nat × List Ent)) (fun p => p.1 = x15 ∧ OwnE 46 8 T8 (.slice p.2.1 p.2.2.1 p.2.2.2.1) p.1 p.2.2.2.2) (fun p => [(2, .slice none 0 0), (3, .int .i64 0), (5, .slice p.2.1 p.2.2.1 p.2.2.2.1)]) (fun p => St w0 m m [p.2.2.2.2]) ?_ (fun hk17 => ?_)
    · rintro ⟨l_4, ⟨a12, q13, c14, L11⟩⟩ ⟨hq23, hL11⟩
      subst hq23
      have hqq : q13 = l_4.length := OwnE.qlen hL11
      subst hqq
      refine WK.sub (e' := [(2, .slice none 0 0), (3, .int .i64 0), (5, .slice a12 ((l_4).length) c14)]) ⟨rfl, rfl, rfl, trivial⟩ (WK.cls (C' := St w0 m m [L11]) (fun _ h => h) ?_)
      refine WK_seq ?_
      refine WK_region ?_
      refine WO_pure tbok 3 [(2, .slice a12 ((l_4).length) c14), (3, .int .i64 0)] rfl ⟨rfl, rfl, trivial⟩ ?_
      refine WO_end ?_
      cases hm
      exact WK_ret (ret_out (L := L11) (RLc_tmp rfl (RLc_tmp rfl RLc_nil)) (seg_sub 0 rfl) ⟨a12, ((l_4).length), c14, rfl, hL11⟩)
    · refine WK_block ?_
      refine WK_loop (S := List (Int × Int × Int × Int × Int × Int × Int × Int) × Int) (G := Option Addr × Nat × Nat × List Ent) (fun s => descriptor_Turned_s1 p0 s.1 s.2) (fun s g => [(2, .slice none 0 0), (3, .int .i64 0), (5, .slice g.1 g.2.1 g.2.2.1), (13, .slice a_p0 p0.length c_p0), (14, .int .i64 (p0.length : Int)), (15, .int .i64 s.2)]) (fun s g => St w0 m m [g.2.2.2]) (fun s g => OwnE 46 8 T8 (.slice g.1 g.2.1 g.2.2.1) s.1 g.2.2.2) FUEL (([] : List (Int × Int × Int × Int × Int × Int × Int × Int)), 0) (none, 0, 0, []) x15 hx16 (OwnE.nil (T := 46) (k := 8) (E := T8) none) ⟨rfl, rfl, rfl, rfl, rfl, rfl, trivial⟩ (fun _ h => h) ?_
      rintro ⟨l_2, s_3⟩ ⟨a7, q8, c9, L6⟩ o19 fl20 hm18 hL6 hn21 hd22
      have hm18 : descriptor_Turned_s1 p0 l_2 s_3 = some o19 := hm18
      unfold descriptor_Turned_s1 at hm18
      have hqq : q8 = l_2.length := OwnE.qlen hL6
      subst hqq
      refine WK.sub (e' := [(2, .slice none 0 0), (3, .int .i64 0), (5, .slice a7 ((l_2).length) c9), (13, .slice a_p0 p0.length c_p0), (14, .int .i64 (p0.length : Int)), (15, .int .i64 s_3)]) ⟨rfl, rfl, rfl, rfl, rfl, rfl, trivial⟩ (WK.cls (C' := St w0 m m [L6]) (fun _ h => h) ?_)
      refine WK_seq ?_
      refine WK_region ?_
      refine WO_pure tbok 1 [(2, .slice none 0 0), (3, .int .i64 0), (5, .slice a7 ((l_2).length) c9), (13, .slice a_p0 p0.length c_p0), (14, .int .i64 (p0.length : Int)), (15, .int .i64 s_3), (16, .bool (decide (s_3 < (p0.length : Int))))] rfl ⟨rfl, rfl, rfl, rfl, rfl, rfl, rfl, trivial⟩ ?_
      refine WO_end ?_
      refine WK_seq ?_
      refine WK_cond (b := decide (s_3 < (p0.length : Int))) rfl (fun hb24 => ?_) (fun hb24 => ?_)
      · have hm18 := ifT hb24 hm18
        refine WK_skip ?_
        refine WK_seq ?_
        refine WK_block ?_
        refine WK_seq ?_
        refine WK_region ?_
        obtain ⟨v_5, hy25, hm18⟩ := bind_some hm18
        obtain ⟨hc26, hy25⟩ := ix_some hy25
        refine WO_index tbok rfl rfl rfl rfl rfl rfl rfl rfl (SlR.addr h_p0) hc26 ?_
        refine WO_loadE tbok rfl rfl rfl rfl (fun _ h => St.sat h) h_p0 hy25 rfl ?_
        refine WO_alloc tbok [.int .i64 0, .int .i64 0, .int .i64 0, .int .i64 0, .int .i64 0, .int .i64 0, .int .i64 0, .int .i64 0] rfl rfl trivial rfl rfl rfl rfl (fun b27 => ?_)
        refine WO.cls (C' := St w0 m m [L6, [⟨b27, 46, [.int .i64 0, .int .i64 0, .int .i64 0, .int .i64 0, .int .i64 0, .int .i64 0, .int .i64 0, .int .i64 0]⟩]]) (fun _ h => h) ?_
        refine WO_storeB tbok 1 [.int .i64 v_5.1, .int .i64 v_5.2.1, .int .i64 v_5.2.2.1, .int .i64 v_5.2.2.2.1, .int .i64 v_5.2.2.2.2.1, .int .i64 v_5.2.2.2.2.2.1, .int .i64 v_5.2.2.2.2.2.2.1, .int .i64 v_5.2.2.2.2.2.2.2] rfl rfl rfl rfl rfl rfl rfl ?_
        refine WO.cls (C' := St w0 m m [L6, [⟨b27, 46, [.int .i64 v_5.1, .int .i64 v_5.2.1, .int .i64 v_5.2.2.1, .int .i64 v_5.2.2.2.1, .int .i64 v_5.2.2.2.2.1, .int .i64 v_5.2.2.2.2.2.1, .int .i64 v_5.2.2.2.2.2.2.1, .int .i64 v_5.2.2.2.2.2.2.2]⟩]]) (fun _ h => h) ?_
        refine WO_end ?_
        refine WK_draw 9 [0, 1, 2, 4, 5, 3, 6, 7, 8] follows_ok (by kernel_rfl) St_closed ?_
        refine WO_pure tbok 2 [(2, .slice none 0 0), (3, .int .i64 0), (5, .slice a7 ((l_2).length) c9), (7, .pointer (some ⟨b27, 0, none⟩)), (13, .slice a_p0 p0.length c_p0), (14, .int .i64 (p0.length : Int)), (15, .int .i64 s_3), (19, .slice a7 ((l_2).length) c9), (20, .pointer (some ⟨b27, 0, none⟩))] rfl ⟨rfl, rfl, rfl, rfl, rfl, rfl, rfl, rfl, rfl, trivial⟩ ?_
        refine WO_loadB tbok 1 rfl rfl rfl rfl (fun _ h => h) rfl rfl ?_
        refine WO_pure tbok 1 [(2, .slice none 0 0), (3, .int .i64 0), (5, .slice a7 ((l_2).length) c9), (13, .slice a_p0 p0.length c_p0), (14, .int .i64 (p0.length : Int)), (15, .int .i64 s_3), (19, .slice a7 ((l_2).length) c9), (21, .agg #[.int .i64 v_5.1, .int .i64 v_5.2.1, .int .i64 v_5.2.2.1, .int .i64 v_5.2.2.2.1]), (23, .pointer (some ⟨b27, 4, none⟩))] rfl ⟨rfl, rfl, rfl, rfl, rfl, rfl, rfl, rfl, rfl, trivial⟩ ?_
        refine WO_loadB tbok 1 rfl rfl rfl rfl (fun _ h => h) rfl rfl ?_
        obtain ⟨⟨y_6, y_7, y_8, y_9⟩, hc28, hm18⟩ := bind_some hm18
        refine WO_call0 (.agg #[.int .i64 y_6, .int .i64 y_7, .int .i64 y_8, .int .i64 y_9]) rfl rfl St_closed rfl rfl rfl rfl St_closed ⟨44, #[], #[], rfl, callable_44, fun w hw => ⟨_, hw.sat, descriptor_turned_walk hc28⟩⟩ ?_
        obtain ⟨⟨y_10, y_11, y_12, y_13⟩, hc29, hm18⟩ := bind_some hm18
        refine WO_call0 (.agg #[.int .i64 y_10, .int .i64 y_11, .int .i64 y_12, .int .i64 y_13]) rfl rfl St_closed rfl rfl rfl rfl St_closed ⟨44, #[], #[], rfl, callable_44, fun w hw => ⟨_, hw.sat, descriptor_turned_walk hc29⟩⟩ ?_
        refine WO_pure tbok 1 [(2, .slice none 0 0), (3, .int .i64 0), (5, .slice a7 ((l_2).length) c9), (13, .slice a_p0 p0.length c_p0), (14, .int .i64 (p0.length : Int)), (15, .int .i64 s_3), (19, .slice a7 ((l_2).length) c9), (26, .agg #[.int .i64 y_6, .int .i64 y_7, .int .i64 y_8, .int .i64 y_9, .int .i64 y_10, .int .i64 y_11, .int .i64 y_12, .int .i64 y_13])] rfl ⟨rfl, rfl, rfl, rfl, rfl, rfl, rfl, rfl, trivial⟩ ?_
        refine WO_bslice (E := T8) tbok (fun _ => rfl) (by decide) [.agg #[.int .i64 y_6, .int .i64 y_7, .int .i64 y_8, .int .i64 y_9, .int .i64 y_10, .int .i64 y_11, .int .i64 y_12, .int .i64 y_13]] ([(y_6, y_7, y_8, y_9, y_10, y_11, y_12, y_13)] : List (Int × Int × Int × Int × Int × Int × Int × Int)) rfl rfl St_closed rfl rfl rfl rfl rfl rfl rfl rfl rfl rfl rfl rfl (fun b30 hb30 => ?_)
        refine WO.cls (C' := St w0 m m [L6, [⟨b27, 46, [.int .i64 v_5.1, .int .i64 v_5.2.1, .int .i64 v_5.2.2.1, .int .i64 v_5.2.2.2.1, .int .i64 v_5.2.2.2.2.1, .int .i64 v_5.2.2.2.2.2.1, .int .i64 v_5.2.2.2.2.2.2.1, .int .i64 v_5.2.2.2.2.2.2.2]⟩], [⟨b30, 46, ([(y_6, y_7, y_8, y_9, y_10, y_11, y_12, y_13)] : List (Int × Int × Int × Int × Int × Int × Int × Int)).flatMap T8⟩]]) (fun _ h => h) ?_
        refine WO_tail ?_
        obtain ⟨hc32, hm18⟩ := chk_some hm18
        refine WO_append (E := T8) tbok (fun _ => rfl) 0 ([(y_6, y_7, y_8, y_9, y_10, y_11, y_12, y_13)] : List (Int × Int × Int × Int × Int × Int × Int × Int)) (fun _ _ => rfl) rfl rfl rfl rfl rfl rfl rfl rfl rfl rfl rfl rfl hL6 rfl (src_seg (j := 2) rfl) (ap_ok (by decide) hc32) (ap_max hc32) (fun a33 c34 L35 hL35 => ?_)
        refine WO.cls (C' := St w0 m m [L35, [⟨b27, 46, [.int .i64 v_5.1, .int .i64 v_5.2.1, .int .i64 v_5.2.2.1, .int .i64 v_5.2.2.2.1, .int .i64 v_5.2.2.2.2.1, .int .i64 v_5.2.2.2.2.2.1, .int .i64 v_5.2.2.2.2.2.2.1, .int .i64 v_5.2.2.2.2.2.2.2]⟩], [⟨b30, 46, ([(y_6, y_7, y_8, y_9, y_10, y_11, y_12, y_13)] : List (Int × Int × Int × Int × Int × Int × Int × Int)).flatMap T8⟩]]) (fun _ h => h) ?_
        refine WO_pure tbok 1 [(2, .slice none 0 0), (3, .int .i64 0), (5, .slice a33 ((l_2 ++ ([(y_6, y_7, y_8, y_9, y_10, y_11, y_12, y_13)] : List (Int × Int × Int × Int × Int × Int × Int × Int))).length) c34), (13, .slice a_p0 p0.length c_p0), (14, .int .i64 (p0.length : Int)), (15, .int .i64 s_3)] rfl ⟨rfl, rfl, rfl, rfl, rfl, rfl, trivial⟩ ?_
        refine WO_end ?_
        refine WK_blk ?_
        refine WK_region ?_
        refine WO_pure tbok 2 [(2, .slice none 0 0), (3, .int .i64 0), (5, .slice a33 ((l_2 ++ ([(y_6, y_7, y_8, y_9, y_10, y_11, y_12, y_13)] : List (Int × Int × Int × Int × Int × Int × Int × Int))).length) c34), (13, .slice a_p0 p0.length c_p0), (14, .int .i64 (p0.length : Int)), (15, .int .i64 (w64 (s_3 + 1)))] rfl ⟨rfl, rfl, rfl, rfl, rfl, rfl, trivial⟩ ?_
        refine WO_end ?_
        cases hm18
        refine WK.sub ?_ (WK.cls (fun _ h => St.take 1 h) (hn21 _ (a33, (l_2 ++ ([(y_6, y_7, y_8, y_9, y_10, y_11, y_12, y_13)] : List (Int × Int × Int × Int × Int × Int × Int × Int))).length, c34, L35) rfl hL35))
        exact ⟨rfl, rfl, rfl, rfl, rfl, rfl, trivial⟩
      · have hm18 := ifF hb24 hm18
        refine WK_exit rfl ?_
        cases hm18
        refine WK.sub ?_ (WK.cls (fun _ h => h) (hk17 (l_2, (a7, (l_2).length, c9, L6)) ⟨(hd22 _ rfl), hL6⟩))
        exact ⟨rfl, rfl, rfl, trivial⟩
theorem fiduciallaw21_around_walk {m : Mu} {p0_0 : Int} {p0_1 : Int} {p0_2 : Int} {p0_3 : Int}   {r : Int × Int × Int × Int} (hm : fiduciallaw21_around p0_0 p0_1 p0_2 p0_3 = some r) :
    Go.E.Spec Try.prog 45 [.agg #[.int .i64 p0_0, .int .i64 p0_1, .int .i64 p0_2, .int .i64 p0_3]] m (fun v _ _ => v = .agg #[.int .i64 r.1, .int .i64 r.2.1, .int .i64 r.2.2.1, .int .i64 r.2.2.2]) := by
  refine Spec_enter Try.func45 rfl rfl rfl (fun w0 => ?_)
  refine WK.sub (e' := [(0, .agg #[.int .i64 p0_0, .int .i64 p0_1, .int .i64 p0_2, .int .i64 p0_3])]) ⟨rfl, trivial⟩ ?_
  refine WK.sub (e' := [(0, .agg #[.int .i64 p0_0, .int .i64 p0_1, .int .i64 p0_2, .int .i64 p0_3])]) ⟨rfl, trivial⟩ ?_
  unfold fiduciallaw21_around at hm
  refine WK_seq ?_
  refine WK_region ?_
  refine WO_box [.int .i64 p0_0, .int .i64 p0_1, .int .i64 p0_2, .int .i64 p0_3] rfl rfl trivial rfl rfl rfl (fun b1 => ?_)
  refine WO.cls (C' := St w0 m m [[⟨b1, 44, [.int .i64 p0_0, .int .i64 p0_1, .int .i64 p0_2, .int .i64 p0_3]⟩]]) (fun _ h => h) ?_
  refine WO_alloc tbok [.int .i64 0, .int .i64 0, .int .i64 0, .int .i64 0] rfl rfl trivial rfl rfl rfl rfl (fun b2 => ?_)
  refine WO.cls (C' := St w0 m m [[⟨b1, 44, [.int .i64 p0_0, .int .i64 p0_1, .int .i64 p0_2, .int .i64 p0_3]⟩], [⟨b2, 44, [.int .i64 0, .int .i64 0, .int .i64 0, .int .i64 0]⟩]]) (fun _ h => h) ?_
  refine WO_end ?_
  refine WK_seq ?_
  refine WK_region ?_
  refine WO_pure tbok 1 [(1, .pointer (some ⟨b1, 0, none⟩)), (2, .pointer (some ⟨b2, 0, none⟩)), (3, .pointer (some ⟨b1, 1, none⟩))] rfl ⟨rfl, rfl, rfl, trivial⟩ ?_
  refine WO_loadB tbok 0 rfl rfl rfl rfl (fun _ h => h) rfl rfl ?_
  refine WO_pure tbok 1 [(1, .pointer (some ⟨b1, 0, none⟩)), (2, .pointer (some ⟨b2, 0, none⟩)), (4, .int .i64 p0_1), (5, .pointer (some ⟨b1, 0, none⟩))] rfl ⟨rfl, rfl, rfl, rfl, trivial⟩ ?_
  refine WO_loadB tbok 0 rfl rfl rfl rfl (fun _ h => h) rfl rfl ?_
  refine WO_pure tbok 2 [(1, .pointer (some ⟨b1, 0, none⟩)), (2, .pointer (some ⟨b2, 0, none⟩)), (4, .int .i64 p0_1), (7, .int .i64 (w64 (1 - p0_0))), (8, .pointer (some ⟨b1, 2, none⟩))] rfl ⟨rfl, rfl, rfl, rfl, rfl, trivial⟩ ?_
  refine WO_loadB tbok 0 rfl rfl rfl rfl (fun _ h => h) rfl rfl ?_
  refine WO_pure tbok 2 [(1, .pointer (some ⟨b1, 0, none⟩)), (2, .pointer (some ⟨b2, 0, none⟩)), (4, .int .i64 p0_1), (10, .int .i64 (w64 ((w64 (1 - p0_0)) - p0_2))), (11, .pointer (some ⟨b1, 3, none⟩))] rfl ⟨rfl, rfl, rfl, rfl, rfl, trivial⟩ ?_
  refine WO_loadB tbok 0 rfl rfl rfl rfl (fun _ h => h) rfl rfl ?_
  refine WO_pure tbok 1 [(2, .pointer (some ⟨b2, 0, none⟩)), (4, .int .i64 p0_1), (10, .int .i64 (w64 ((w64 (1 - p0_0)) - p0_2))), (12, .int .i64 p0_3), (13, .pointer (some ⟨b1, 2, none⟩))] rfl ⟨rfl, rfl, rfl, rfl, rfl, trivial⟩ ?_
  refine WO_loadB tbok 0 rfl rfl rfl rfl (fun _ h => h) rfl rfl ?_
  refine WO_pure tbok 1 [(2, .pointer (some ⟨b2, 0, none⟩)), (15, .agg #[.int .i64 p0_1, .int .i64 (w64 ((w64 (1 - p0_0)) - p0_2)), .int .i64 p0_3, .int .i64 p0_2])] rfl ⟨rfl, rfl, trivial⟩ ?_
  refine WO_storeB tbok 1 [.int .i64 p0_1, .int .i64 (w64 ((w64 (1 - p0_0)) - p0_2)), .int .i64 p0_3, .int .i64 p0_2] rfl rfl rfl rfl rfl rfl rfl ?_
  refine WO.cls (C' := St w0 m m [[⟨b1, 44, [.int .i64 p0_0, .int .i64 p0_1, .int .i64 p0_2, .int .i64 p0_3]⟩], [⟨b2, 44, [.int .i64 p0_1, .int .i64 (w64 ((w64 (1 - p0_0)) - p0_2)), .int .i64 p0_3, .int .i64 p0_2]⟩]]) (fun _ h => h) ?_
  refine WO_end ?_
  cases hm
  exact WK_ret (ret_out (L := []) (RLc_cell tbok 1 rfl rfl rfl RLc_nil) (List.nil_sublist _) rfl)
def fiduciallaw21_turned_Q (r : List (Int × Int × Int × Int × Int × Int × Int × Int)) : Value → List Ent → Prop := fun v L => ∃ (a0 : Option Addr) (q0 c0 : Nat), v = .slice a0 q0 c0 ∧ OwnE 46 8 T8 (.slice a0 q0 c0) r L
theorem fiduciallaw21_turned_walk {m : Mu} {p0 : List (Int × Int × Int × Int × Int × Int × Int × Int)} {a_p0 : Option Addr} {q_p0 c_p0 : Nat} (h_p0 : SlR (FE T8) 8 m (.slice a_p0 q_p0 c_p0) p0) {r : List (Int × Int × Int × Int × Int × Int × Int × Int)} (hm : fiduciallaw21_turned p0 = some r) :
    Go.E.Spec Try.prog 24 [.slice a_p0 q_p0 c_p0] m (fun v _ L => fiduciallaw21_turned_Q r v L) := by
  refine Spec_enter Try.func24 rfl rfl rfl (fun w0 => ?_)
  refine WK.sub (e' := [(0, .slice a_p0 q_p0 c_p0)]) ⟨rfl, trivial⟩ ?_
  obtain rfl := SlR.qlen h_p0
  refine WK.sub (e' := [(0, .slice a_p0 p0.length c_p0)]) ⟨rfl, trivial⟩ ?_
  unfold fiduciallaw21_turned at hm
  refine WK_seq ?_
  refine WK_region ?_
  refine WO_pure tbok 1 [(0, .slice a_p0 p0.length c_p0), (2, .slice none 0 0)] rfl ⟨rfl, rfl, trivial⟩ ?_
  refine WO_end ?_
  refine WK_seq ?_
  refine WK_region ?_
  refine WO_pure tbok 1 [(0, .slice a_p0 p0.length c_p0), (2, .slice none 0 0), (3, .slice none 0 0)] rfl ⟨rfl, rfl, rfl, trivial⟩ ?_
  refine WO_end ?_
  refine WK_seq ?_
  refine WK_seq ?_
  refine WK_region ?_
  refine WO_pure tbok 3 [(2, .slice none 0 0), (3, .slice none 0 0), (6, .slice a_p0 p0.length c_p0), (7, .int .i64 (p0.length : Int)), (8, .int .i64 0)] rfl ⟨rfl, rfl, rfl, rfl, rfl, trivial⟩ ?_
  refine WO_end ?_
  refine WK_pad ?_
  obtain ⟨x13, hx14, hm⟩ := bind_some hm
  refine WK_join (β := (List (Int × Int × Int × Int × Int × Int × Int × Int)) × (Option Addr × Nat × Nat × List Ent)) (fun p => p.1 = x13 ∧ OwnE 46 8 T8 (.slice p.2.1 p.2.2.1 p.2.2.2.1) p.1 p.2.2.2.2) (fun p => [(2, .slice none 0 0), (3, .slice p.2.1 p.2.2.1 p.2.2.2.1)]) (fun p => St w0 m m [p.2.2.2.2]) ?_ (fun hk15 => ?_)
  · rintro ⟨l_3, ⟨a10, q11, c12, L9⟩⟩ ⟨hq21, hL9⟩
    subst hq21
    have hqq : q11 = l_3.length := OwnE.qlen hL9
    subst hqq
    refine WK.sub (e' := [(2, .slice none 0 0), (3, .slice a10 ((l_3).length) c12)]) ⟨rfl, rfl, trivial⟩ (WK.cls (C' := St w0 m m [L9]) (fun _ h => h) ?_)
    refine WK_seq ?_
    refine WK_region ?_
    refine WO_pure tbok 2 [(2, .slice a10 ((l_3).length) c12)] rfl ⟨rfl, trivial⟩ ?_
    refine WO_end ?_
    cases hm
    exact WK_ret (ret_out (L := L9) (RLc_tmp rfl RLc_nil) (seg_sub 0 rfl) ⟨a10, ((l_3).length), c12, rfl, hL9⟩)
  · refine WK_block ?_
    refine WK_loop (S := List (Int × Int × Int × Int × Int × Int × Int × Int) × Int) (G := Option Addr × Nat × Nat × List Ent) (fun s => fiduciallaw21_turned_s1 p0 s.1 s.2) (fun s g => [(2, .slice none 0 0), (3, .slice g.1 g.2.1 g.2.2.1), (6, .slice a_p0 p0.length c_p0), (7, .int .i64 (p0.length : Int)), (8, .int .i64 s.2)]) (fun s g => St w0 m m [g.2.2.2]) (fun s g => OwnE 46 8 T8 (.slice g.1 g.2.1 g.2.2.1) s.1 g.2.2.2) FUEL (([] : List (Int × Int × Int × Int × Int × Int × Int × Int)), 0) (none, 0, 0, []) x13 hx14 (OwnE.nil (T := 46) (k := 8) (E := T8) none) ⟨rfl, rfl, rfl, rfl, rfl, trivial⟩ (fun _ h => h) ?_
    rintro ⟨l_1, s_2⟩ ⟨a5, q6, c7, L4⟩ o17 fl18 hm16 hL4 hn19 hd20
    have hm16 : fiduciallaw21_turned_s1 p0 l_1 s_2 = some o17 := hm16
    unfold fiduciallaw21_turned_s1 at hm16
    have hqq : q6 = l_1.length := OwnE.qlen hL4
    subst hqq
    refine WK.sub (e' := [(2, .slice none 0 0), (3, .slice a5 ((l_1).length) c7), (6, .slice a_p0 p0.length c_p0), (7, .int .i64 (p0.length : Int)), (8, .int .i64 s_2)]) ⟨rfl, rfl, rfl, rfl, rfl, trivial⟩ (WK.cls (C' := St w0 m m [L4]) (fun _ h => h) ?_)
    refine WK_seq ?_
    refine WK_region ?_
    refine WO_pure tbok 1 [(2, .slice none 0 0), (3, .slice a5 ((l_1).length) c7), (6, .slice a_p0 p0.length c_p0), (7, .int .i64 (p0.length : Int)), (8, .int .i64 s_2), (9, .bool (decide (s_2 < (p0.length : Int))))] rfl ⟨rfl, rfl, rfl, rfl, rfl, rfl, trivial⟩ ?_
    refine WO_end ?_
    refine WK_seq ?_
    refine WK_cond (b := decide (s_2 < (p0.length : Int))) rfl (fun hb22 => ?_) (fun hb22 => ?_)
    · have hm16 := ifT hb22 hm16
      refine WK_skip ?_
      refine WK_seq ?_
      refine WK_block ?_
      refine WK_seq ?_
      refine WK_region ?_
      obtain ⟨v_4, hy23, hm16⟩ := bind_some hm16
      obtain ⟨hc24, hy23⟩ := ix_some hy23
      refine WO_index tbok rfl rfl rfl rfl rfl rfl rfl rfl (SlR.addr h_p0) hc24 ?_
      refine WO_loadE tbok rfl rfl rfl rfl (fun _ h => St.sat h) h_p0 hy23 rfl ?_
      refine WO_alloc tbok [.int .i64 0, .int .i64 0, .int .i64 0, .int .i64 0, .int .i64 0, .int .i64 0, .int .i64 0, .int .i64 0] rfl rfl trivial rfl rfl rfl rfl (fun b25 => ?_)
      refine WO.cls (C' := St w0 m m [L4, [⟨b25, 46, [.int .i64 0, .int .i64 0, .int .i64 0, .int .i64 0, .int .i64 0, .int .i64 0, .int .i64 0, .int .i64 0]⟩]]) (fun _ h => h) ?_
      refine WO_storeB tbok 1 [.int .i64 v_4.1, .int .i64 v_4.2.1, .int .i64 v_4.2.2.1, .int .i64 v_4.2.2.2.1, .int .i64 v_4.2.2.2.2.1, .int .i64 v_4.2.2.2.2.2.1, .int .i64 v_4.2.2.2.2.2.2.1, .int .i64 v_4.2.2.2.2.2.2.2] rfl rfl rfl rfl rfl rfl rfl ?_
      refine WO.cls (C' := St w0 m m [L4, [⟨b25, 46, [.int .i64 v_4.1, .int .i64 v_4.2.1, .int .i64 v_4.2.2.1, .int .i64 v_4.2.2.2.1, .int .i64 v_4.2.2.2.2.1, .int .i64 v_4.2.2.2.2.2.1, .int .i64 v_4.2.2.2.2.2.2.1, .int .i64 v_4.2.2.2.2.2.2.2]⟩]]) (fun _ h => h) ?_
      refine WO_end ?_
      refine WK_draw 9 [0, 1, 2, 4, 5, 3, 6, 7, 8] follows_ok (by kernel_rfl) St_closed ?_
      refine WO_pure tbok 2 [(2, .slice none 0 0), (3, .slice a5 ((l_1).length) c7), (5, .pointer (some ⟨b25, 0, none⟩)), (6, .slice a_p0 p0.length c_p0), (7, .int .i64 (p0.length : Int)), (8, .int .i64 s_2), (12, .slice a5 ((l_1).length) c7), (13, .pointer (some ⟨b25, 0, none⟩))] rfl ⟨rfl, rfl, rfl, rfl, rfl, rfl, rfl, rfl, trivial⟩ ?_
      refine WO_loadB tbok 1 rfl rfl rfl rfl (fun _ h => h) rfl rfl ?_
      refine WO_pure tbok 1 [(2, .slice none 0 0), (3, .slice a5 ((l_1).length) c7), (6, .slice a_p0 p0.length c_p0), (7, .int .i64 (p0.length : Int)), (8, .int .i64 s_2), (12, .slice a5 ((l_1).length) c7), (14, .agg #[.int .i64 v_4.1, .int .i64 v_4.2.1, .int .i64 v_4.2.2.1, .int .i64 v_4.2.2.2.1]), (16, .pointer (some ⟨b25, 4, none⟩))] rfl ⟨rfl, rfl, rfl, rfl, rfl, rfl, rfl, rfl, trivial⟩ ?_
      refine WO_loadB tbok 1 rfl rfl rfl rfl (fun _ h => h) rfl rfl ?_
      obtain ⟨⟨y_5, y_6, y_7, y_8⟩, hc26, hm16⟩ := bind_some hm16
      refine WO_call0 (.agg #[.int .i64 y_5, .int .i64 y_6, .int .i64 y_7, .int .i64 y_8]) rfl rfl St_closed rfl rfl rfl rfl St_closed ⟨45, #[], #[], rfl, callable_45, fun w hw => ⟨_, hw.sat, fiduciallaw21_around_walk hc26⟩⟩ ?_
      obtain ⟨⟨y_9, y_10, y_11, y_12⟩, hc27, hm16⟩ := bind_some hm16
      refine WO_call0 (.agg #[.int .i64 y_9, .int .i64 y_10, .int .i64 y_11, .int .i64 y_12]) rfl rfl St_closed rfl rfl rfl rfl St_closed ⟨45, #[], #[], rfl, callable_45, fun w hw => ⟨_, hw.sat, fiduciallaw21_around_walk hc27⟩⟩ ?_
      refine WO_pure tbok 1 [(2, .slice none 0 0), (3, .slice a5 ((l_1).length) c7), (6, .slice a_p0 p0.length c_p0), (7, .int .i64 (p0.length : Int)), (8, .int .i64 s_2), (12, .slice a5 ((l_1).length) c7), (19, .agg #[.int .i64 y_5, .int .i64 y_6, .int .i64 y_7, .int .i64 y_8, .int .i64 y_9, .int .i64 y_10, .int .i64 y_11, .int .i64 y_12])] rfl ⟨rfl, rfl, rfl, rfl, rfl, rfl, rfl, trivial⟩ ?_
      refine WO_bslice (E := T8) tbok (fun _ => rfl) (by decide) [.agg #[.int .i64 y_5, .int .i64 y_6, .int .i64 y_7, .int .i64 y_8, .int .i64 y_9, .int .i64 y_10, .int .i64 y_11, .int .i64 y_12]] ([(y_5, y_6, y_7, y_8, y_9, y_10, y_11, y_12)] : List (Int × Int × Int × Int × Int × Int × Int × Int)) rfl rfl St_closed rfl rfl rfl rfl rfl rfl rfl rfl rfl rfl rfl rfl (fun b28 hb28 => ?_)
      refine WO.cls (C' := St w0 m m [L4, [⟨b25, 46, [.int .i64 v_4.1, .int .i64 v_4.2.1, .int .i64 v_4.2.2.1, .int .i64 v_4.2.2.2.1, .int .i64 v_4.2.2.2.2.1, .int .i64 v_4.2.2.2.2.2.1, .int .i64 v_4.2.2.2.2.2.2.1, .int .i64 v_4.2.2.2.2.2.2.2]⟩], [⟨b28, 46, ([(y_5, y_6, y_7, y_8, y_9, y_10, y_11, y_12)] : List (Int × Int × Int × Int × Int × Int × Int × Int)).flatMap T8⟩]]) (fun _ h => h) ?_
      refine WO_tail ?_
      obtain ⟨hc30, hm16⟩ := chk_some hm16
      refine WO_append (E := T8) tbok (fun _ => rfl) 0 ([(y_5, y_6, y_7, y_8, y_9, y_10, y_11, y_12)] : List (Int × Int × Int × Int × Int × Int × Int × Int)) (fun _ _ => rfl) rfl rfl rfl rfl rfl rfl rfl rfl rfl rfl rfl rfl hL4 rfl (src_seg (j := 2) rfl) (ap_ok (by decide) hc30) (ap_max hc30) (fun a31 c32 L33 hL33 => ?_)
      refine WO.cls (C' := St w0 m m [L33, [⟨b25, 46, [.int .i64 v_4.1, .int .i64 v_4.2.1, .int .i64 v_4.2.2.1, .int .i64 v_4.2.2.2.1, .int .i64 v_4.2.2.2.2.1, .int .i64 v_4.2.2.2.2.2.1, .int .i64 v_4.2.2.2.2.2.2.1, .int .i64 v_4.2.2.2.2.2.2.2]⟩], [⟨b28, 46, ([(y_5, y_6, y_7, y_8, y_9, y_10, y_11, y_12)] : List (Int × Int × Int × Int × Int × Int × Int × Int)).flatMap T8⟩]]) (fun _ h => h) ?_
      refine WO_pure tbok 1 [(2, .slice none 0 0), (3, .slice a31 ((l_1 ++ ([(y_5, y_6, y_7, y_8, y_9, y_10, y_11, y_12)] : List (Int × Int × Int × Int × Int × Int × Int × Int))).length) c32), (6, .slice a_p0 p0.length c_p0), (7, .int .i64 (p0.length : Int)), (8, .int .i64 s_2)] rfl ⟨rfl, rfl, rfl, rfl, rfl, trivial⟩ ?_
      refine WO_end ?_
      refine WK_blk ?_
      refine WK_region ?_
      refine WO_pure tbok 2 [(2, .slice none 0 0), (3, .slice a31 ((l_1 ++ ([(y_5, y_6, y_7, y_8, y_9, y_10, y_11, y_12)] : List (Int × Int × Int × Int × Int × Int × Int × Int))).length) c32), (6, .slice a_p0 p0.length c_p0), (7, .int .i64 (p0.length : Int)), (8, .int .i64 (w64 (s_2 + 1)))] rfl ⟨rfl, rfl, rfl, rfl, rfl, trivial⟩ ?_
      refine WO_end ?_
      cases hm16
      refine WK.sub ?_ (WK.cls (fun _ h => St.take 1 h) (hn19 _ (a31, (l_1 ++ ([(y_5, y_6, y_7, y_8, y_9, y_10, y_11, y_12)] : List (Int × Int × Int × Int × Int × Int × Int × Int))).length, c32, L33) rfl hL33))
      exact ⟨rfl, rfl, rfl, rfl, rfl, trivial⟩
    · have hm16 := ifF hb22 hm16
      refine WK_exit rfl ?_
      cases hm16
      refine WK.sub ?_ (WK.cls (fun _ h => h) (hk15 (l_1, (a5, (l_1).length, c7, L4)) ⟨(hd20 _ rfl), hL4⟩))
      exact ⟨rfl, rfl, trivial⟩
theorem slices_Equal_sdescriptor_Test_walk {m : Mu} {p0 : List (Int × Int × Int × Int × Int × Int × Int × Int)} {p1 : List (Int × Int × Int × Int × Int × Int × Int × Int)} {a_p0 : Option Addr} {q_p0 c_p0 : Nat} {a_p1 : Option Addr} {q_p1 c_p1 : Nat} (h_p0 : SlR (FE T8) 8 m (.slice a_p0 q_p0 c_p0) p0) (h_p1 : SlR (FE T8) 8 m (.slice a_p1 q_p1 c_p1) p1) {r : Bool} (hm : slices_Equal_sdescriptor_Test p0 p1 = some r) :
    Go.E.Spec Try.prog 23 [.slice a_p0 q_p0 c_p0, .slice a_p1 q_p1 c_p1] m (fun v _ _ => v = .bool r) := by
  refine Spec_enter Try.func23 rfl rfl rfl (fun w0 => ?_)
  refine WK.sub (e' := [(0, .slice a_p0 q_p0 c_p0), (1, .slice a_p1 q_p1 c_p1)]) ⟨rfl, rfl, trivial⟩ ?_
  obtain rfl := SlR.qlen h_p0
  obtain rfl := SlR.qlen h_p1
  refine WK.sub (e' := [(0, .slice a_p0 p0.length c_p0), (1, .slice a_p1 p1.length c_p1)]) ⟨rfl, rfl, trivial⟩ ?_
  unfold slices_Equal_sdescriptor_Test at hm
  refine WK_seq ?_
  refine WK_region ?_
  refine WO_pure tbok 1 [(0, .slice a_p0 p0.length c_p0), (1, .slice a_p1 p1.length c_p1), (4, .bool false)] rfl ⟨rfl, rfl, rfl, trivial⟩ ?_
  refine WO_end ?_
  refine WK_seq ?_
  refine WK_seq ?_
  refine WK_region ?_
  refine WO_pure tbok 5 [(0, .slice a_p0 p0.length c_p0), (1, .slice a_p1 p1.length c_p1), (4, .bool false), (10, .bool ((p0.length : Int) != (p1.length : Int)))] rfl ⟨rfl, rfl, rfl, rfl, trivial⟩ ?_
  refine WO_end ?_
  refine WK_cond (b := (p0.length : Int) != (p1.length : Int)) rfl (fun hb3 => ?_) (fun hb3 => ?_)
  · have hm := ifT hb3 hm
    refine WK_seq ?_
    refine WK_region ?_
    refine WO_pure tbok 1 [(0, .slice a_p0 p0.length c_p0), (1, .slice a_p1 p1.length c_p1), (4, .bool false)] rfl ⟨rfl, rfl, rfl, trivial⟩ ?_
    refine WO_end ?_
    cases hm
    exact WK_ret (ret_out (L := []) (RLc_tmp rfl RLc_nil) (List.nil_sublist _) rfl)
  · have hm := ifF hb3 hm
    refine WK_skip ?_
    refine WK_seq ?_
    refine WK_seq ?_
    refine WK_region ?_
    refine WO_pure tbok 3 [(0, .slice a_p0 p0.length c_p0), (1, .slice a_p1 p1.length c_p1), (4, .bool false), (12, .int .i64 (p0.length : Int)), (13, .int .i64 0)] rfl ⟨rfl, rfl, rfl, rfl, rfl, trivial⟩ ?_
    refine WO_end ?_
    obtain ⟨x4, hx5, hm⟩ := bind_some hm
    refine WK_join (β := Unit × Unit) (fun p => Sum.inr p.1 = x4) (fun p => [(4, .bool false)]) (fun p => St w0 m m []) ?_ (fun hk6 => ?_)
    · rintro ⟨⟨⟩, ⟨⟩⟩ hq12
      subst hq12
      refine WK.sub (e' := [(4, .bool false)]) ⟨rfl, trivial⟩ (WK.cls (C' := St w0 m m []) (fun _ h => h) ?_)
      refine WK_seq ?_
      refine WK_region ?_
      refine WO_pure tbok 1 [(4, .bool true)] rfl ⟨rfl, trivial⟩ ?_
      refine WO_end ?_
      cases hm
      exact WK_ret (ret_out (L := []) (RLc_tmp rfl RLc_nil) (List.nil_sublist _) rfl)
    · refine WK_block ?_
      refine WK_loop (S := Int) (G := Unit) (fun s => slices_Equal_sdescriptor_Test_s1 p0 p1 s) (fun s g => [(0, .slice a_p0 p0.length c_p0), (1, .slice a_p1 p1.length c_p1), (4, .bool false), (12, .int .i64 (p0.length : Int)), (13, .int .i64 s)]) (fun s g => St w0 m m []) (fun s g => True) FUEL 0 () x4 hx5 trivial ⟨rfl, rfl, rfl, rfl, rfl, trivial⟩ (fun _ h => h) ?_
      rintro s_1 ⟨⟩ o8 fl9 hm7 - hn10 hd11
      have hm7 : slices_Equal_sdescriptor_Test_s1 p0 p1 s_1 = some o8 := hm7
      unfold slices_Equal_sdescriptor_Test_s1 at hm7
      refine WK.sub (e' := [(0, .slice a_p0 p0.length c_p0), (1, .slice a_p1 p1.length c_p1), (4, .bool false), (12, .int .i64 (p0.length : Int)), (13, .int .i64 s_1)]) ⟨rfl, rfl, rfl, rfl, rfl, trivial⟩ (WK.cls (C' := St w0 m m []) (fun _ h => h) ?_)
      refine WK_seq ?_
      refine WK_region ?_
      refine WO_pure tbok 1 [(0, .slice a_p0 p0.length c_p0), (1, .slice a_p1 p1.length c_p1), (4, .bool false), (12, .int .i64 (p0.length : Int)), (13, .int .i64 s_1), (14, .bool (decide (s_1 < (p0.length : Int))))] rfl ⟨rfl, rfl, rfl, rfl, rfl, rfl, trivial⟩ ?_
      refine WO_end ?_
      refine WK_seq ?_
      refine WK_cond (b := decide (s_1 < (p0.length : Int))) rfl (fun hb13 => ?_) (fun hb13 => ?_)
      · have hm7 := ifT hb13 hm7
        refine WK_skip ?_
        refine WK_seq ?_
        refine WK_block ?_
        refine WK_seq ?_
        refine WK_region ?_
        refine WO_pure tbok 2 [(0, .slice a_p0 p0.length c_p0), (1, .slice a_p1 p1.length c_p1), (4, .bool false), (5, .int .i64 s_1), (12, .int .i64 (p0.length : Int)), (13, .int .i64 s_1)] rfl ⟨rfl, rfl, rfl, rfl, rfl, rfl, trivial⟩ ?_
        refine WO_end ?_
        refine WK_seq ?_
        refine WK_draw 9 [0, 1, 2, 3, 4, 5, 6, 7, 8] follows_ok (by kernel_rfl) St_closed ?_
        refine WO_pure tbok 2 [(0, .slice a_p0 p0.length c_p0), (1, .slice a_p1 p1.length c_p1), (4, .bool false), (5, .int .i64 s_1), (12, .int .i64 (p0.length : Int)), (13, .int .i64 s_1), (16, .slice a_p0 p0.length c_p0), (17, .int .i64 s_1)] rfl ⟨rfl, rfl, rfl, rfl, rfl, rfl, rfl, rfl, trivial⟩ ?_
        obtain ⟨v_2, hy14, hm7⟩ := bind_some hm7
        obtain ⟨hc15, hy14⟩ := ix_some hy14
        refine WO_index tbok rfl rfl rfl rfl rfl rfl rfl rfl (SlR.addr h_p0) hc15 ?_
        refine WO_loadE tbok rfl rfl rfl rfl (fun _ h => St.sat h) h_p0 hy14 rfl ?_
        refine WO_pure tbok 2 [(0, .slice a_p0 p0.length c_p0), (1, .slice a_p1 p1.length c_p1), (4, .bool false), (12, .int .i64 (p0.length : Int)), (13, .int .i64 s_1), (19, .agg #[.int .i64 v_2.1, .int .i64 v_2.2.1, .int .i64 v_2.2.2.1, .int .i64 v_2.2.2.2.1, .int .i64 v_2.2.2.2.2.1, .int .i64 v_2.2.2.2.2.2.1, .int .i64 v_2.2.2.2.2.2.2.1, .int .i64 v_2.2.2.2.2.2.2.2]), (20, .slice a_p1 p1.length c_p1), (21, .int .i64 s_1)] rfl ⟨rfl, rfl, rfl, rfl, rfl, rfl, rfl, rfl, trivial⟩ ?_
        obtain ⟨v_3, hy16, hm7⟩ := bind_some hm7
        obtain ⟨hc17, hy16⟩ := ix_some hy16
        refine WO_index tbok rfl rfl rfl rfl rfl rfl rfl rfl (SlR.addr h_p1) hc17 ?_
        refine WO_loadE tbok rfl rfl rfl rfl (fun _ h => St.sat h) h_p1 hy16 rfl ?_
        refine WO_neA (r := (((v_2.1 == v_3.1) && ((v_2.2.1 == v_3.2.1) && ((v_2.2.2.1 == v_3.2.2.1) && ((v_2.2.2.2.1 == v_3.2.2.2.1) && true)))) && (((v_2.2.2.2.2.1 == v_3.2.2.2.2.1) && ((v_2.2.2.2.2.2.1 == v_3.2.2.2.2.2.1) && ((v_2.2.2.2.2.2.2.1 == v_3.2.2.2.2.2.2.1) && ((v_2.2.2.2.2.2.2.2 == v_3.2.2.2.2.2.2.2) && true)))) && true))) [.int .i64 v_2.1, .int .i64 v_2.2.1, .int .i64 v_2.2.2.1, .int .i64 v_2.2.2.2.1, .int .i64 v_2.2.2.2.2.1, .int .i64 v_2.2.2.2.2.2.1, .int .i64 v_2.2.2.2.2.2.2.1, .int .i64 v_2.2.2.2.2.2.2.2] [.int .i64 v_3.1, .int .i64 v_3.2.1, .int .i64 v_3.2.2.1, .int .i64 v_3.2.2.2.1, .int .i64 v_3.2.2.2.2.1, .int .i64 v_3.2.2.2.2.2.1, .int .i64 v_3.2.2.2.2.2.2.1, .int .i64 v_3.2.2.2.2.2.2.2] rfl rfl rfl rfl rfl (by kernel_rfl) (by kernel_rfl) (by kernel_rfl) ?_
        refine WO_tail ?_
        refine WO_end ?_
        refine WK_cond (b := !(((v_2.1 == v_3.1) && ((v_2.2.1 == v_3.2.1) && ((v_2.2.2.1 == v_3.2.2.1) && ((v_2.2.2.2.1 == v_3.2.2.2.1) && true)))) && (((v_2.2.2.2.2.1 == v_3.2.2.2.2.1) && ((v_2.2.2.2.2.2.1 == v_3.2.2.2.2.2.1) && ((v_2.2.2.2.2.2.2.1 == v_3.2.2.2.2.2.2.1) && ((v_2.2.2.2.2.2.2.2 == v_3.2.2.2.2.2.2.2) && true)))) && true))) rfl (fun hb18 => ?_) (fun hb18 => ?_)
        · have hm7 := ifT hb18 hm7
          refine WK_seq ?_
          refine WK_region ?_
          refine WO_pure tbok 1 [(0, .slice a_p0 p0.length c_p0), (1, .slice a_p1 p1.length c_p1), (4, .bool false), (12, .int .i64 (p0.length : Int)), (13, .int .i64 s_1)] rfl ⟨rfl, rfl, rfl, rfl, rfl, trivial⟩ ?_
          refine WO_end ?_
          cases hm7
          have hq := hd11 _ rfl
          subst hq
          have hm : some _ = some _ := hm
          cases hm
          exact WK_ret (ret_out (L := []) (RLc_tmp rfl RLc_nil) (List.nil_sublist _) rfl)
        · have hm7 := ifF hb18 hm7
          refine WK_skip ?_
          refine WK_blk ?_
          refine WK_region ?_
          refine WO_pure tbok 2 [(0, .slice a_p0 p0.length c_p0), (1, .slice a_p1 p1.length c_p1), (4, .bool false), (12, .int .i64 (p0.length : Int)), (13, .int .i64 (w64 (s_1 + 1)))] rfl ⟨rfl, rfl, rfl, rfl, rfl, trivial⟩ ?_
          refine WO_end ?_
          cases hm7
          refine WK.sub ?_ (WK.cls (fun _ h => h) (hn10 _ () rfl trivial))
          exact ⟨rfl, rfl, rfl, rfl, rfl, trivial⟩
      · have hm7 := ifF hb13 hm7
        refine WK_exit rfl ?_
        cases hm7
        refine WK.sub ?_ (WK.cls (fun _ h => h) (hk6 ((), ()) (hd11 _ rfl)))
        exact ⟨rfl, trivial⟩
def fiducialref13_New_Q (r : Int × Int × Int × List Int) : Value → List Ent → Prop := fun v L => ∃ (a0 : Option Addr) (q0 c0 : Nat), v = .agg #[.int .i64 r.1, .int .i64 r.2.1, .int .i64 r.2.2.1, .slice a0 q0 c0] ∧ OwnE 3 1 (I1 .i64) (.slice a0 q0 c0) r.2.2.2 L
theorem fiducialref13_New_walk {m : Mu} {p0 : Int} {p1 : Int} {p2 : Int}   {r : Int × Int × Int × List Int} (hm : fiducialref13_New p0 p1 p2 = some r) :
    Go.E.Spec Try.prog 46 [.int .i64 p0, .int .i64 p1, .int .i64 p2] m (fun v _ L => fiducialref13_New_Q r v L) := by
  refine Spec_enter Try.func46 rfl rfl rfl (fun w0 => ?_)
  refine WK.sub (e' := [(0, .int .i64 p0), (1, .int .i64 p1), (2, .int .i64 p2)]) ⟨rfl, rfl, rfl, trivial⟩ ?_
  refine WK.sub (e' := [(0, .int .i64 p0), (1, .int .i64 p1), (2, .int .i64 p2)]) ⟨rfl, rfl, rfl, trivial⟩ ?_
  unfold fiducialref13_New at hm
  refine WK_seq ?_
  refine WK_region ?_
  refine WO_alloc tbok [.int .i64 0, .int .i64 0, .int .i64 0, .slice none 0 0] rfl rfl trivial rfl rfl rfl rfl (fun b1 => ?_)
  refine WO.cls (C' := St w0 m m [[⟨b1, 29, [.int .i64 0, .int .i64 0, .int .i64 0, .slice none 0 0]⟩]]) (fun _ h => h) ?_
  refine WO_end ?_
  refine WK_seq ?_
  refine WK_region ?_
  refine WO_pure tbok 4 [(0, .int .i64 p0), (1, .int .i64 p1), (6, .pointer (some ⟨b1, 0, none⟩)), (12, .agg #[.int .i64 p0, .int .i64 p1, .int .i64 p2, .slice none 0 0])] rfl ⟨rfl, rfl, rfl, rfl, trivial⟩ ?_
  refine WO_alloc tbok [.int .i64 0, .int .i64 0, .int .i64 0, .slice none 0 0] rfl rfl trivial rfl rfl rfl rfl (fun b2 => ?_)
  refine WO.cls (C' := St w0 m m [[⟨b1, 29, [.int .i64 0, .int .i64 0, .int .i64 0, .slice none 0 0]⟩], [⟨b2, 29, [.int .i64 0, .int .i64 0, .int .i64 0, .slice none 0 0]⟩]]) (fun _ h => h) ?_
  refine WO_storeB tbok 1 [.int .i64 p0, .int .i64 p1, .int .i64 p2, .slice none 0 0] rfl rfl rfl rfl rfl rfl rfl ?_
  refine WO.cls (C' := St w0 m m [[⟨b1, 29, [.int .i64 0, .int .i64 0, .int .i64 0, .slice none 0 0]⟩], [⟨b2, 29, [.int .i64 p0, .int .i64 p1, .int .i64 p2, .slice none 0 0]⟩]]) (fun _ h => h) ?_
  refine WO_end ?_
  refine WK_seq ?_
  refine WK_seq ?_
  refine WK_region ?_
  refine WO_pure tbok 1 [(0, .int .i64 p0), (1, .int .i64 p1), (6, .pointer (some ⟨b1, 0, none⟩)), (7, .pointer (some ⟨b2, 0, none⟩)), (8, .int .i64 0)] rfl ⟨rfl, rfl, rfl, rfl, rfl, trivial⟩ ?_
  refine WO_end ?_
  refine WK_pad ?_
  obtain ⟨x14, hx15, hm⟩ := bind_some hm
  refine WK_join (β := (List Int) × (Option Addr × Nat × Nat × List Ent)) (fun p => p.1 = x14 ∧ OwnE 3 1 (I1 .i64) (.slice p.2.1 p.2.2.1 p.2.2.2.1) p.1 p.2.2.2.2) (fun p => [(6, .pointer (some ⟨b1, 0, none⟩)), (7, .pointer (some ⟨b2, 0, none⟩))]) (fun p => St w0 m m [[⟨b1, 29, [.int .i64 0, .int .i64 0, .int .i64 0, .slice none 0 0]⟩], [⟨b2, 29, [.int .i64 p0, .int .i64 p1, .int .i64 p2, .slice p.2.1 p.2.2.1 p.2.2.2.1]⟩], p.2.2.2.2]) ?_ (fun hk16 => ?_)
  · rintro ⟨l_3, ⟨a11, q12, c13, L10⟩⟩ ⟨hq22, hL10⟩
    subst hq22
    have hqq : q12 = l_3.length := OwnE.qlen hL10
    subst hqq
    refine WK.sub (e' := [(6, .pointer (some ⟨b1, 0, none⟩)), (7, .pointer (some ⟨b2, 0, none⟩))]) ⟨rfl, rfl, trivial⟩ (WK.cls (C' := St w0 m m [[⟨b1, 29, [.int .i64 0, .int .i64 0, .int .i64 0, .slice none 0 0]⟩], [⟨b2, 29, [.int .i64 p0, .int .i64 p1, .int .i64 p2, .slice a11 ((l_3).length) c13]⟩], L10]) (fun _ h => h) ?_)
    refine WK_seq ?_
    refine WK_region ?_
    refine WO_loadB tbok 1 rfl rfl rfl rfl (fun _ h => h) rfl rfl ?_
    refine WO_storeB tbok 0 [.int .i64 p0, .int .i64 p1, .int .i64 p2, .slice a11 ((l_3).length) c13] rfl rfl rfl rfl rfl rfl rfl ?_
    refine WO.cls (C' := St w0 m m [[⟨b1, 29, [.int .i64 p0, .int .i64 p1, .int .i64 p2, .slice a11 ((l_3).length) c13]⟩], [⟨b2, 29, [.int .i64 p0, .int .i64 p1, .int .i64 p2, .slice a11 ((l_3).length) c13]⟩], L10]) (fun _ h => h) ?_
    refine WO_end ?_
    cases hm
    exact WK_ret (ret_out (L := L10) (RLc_cell tbok 0 rfl rfl rfl RLc_nil) (seg_sub 2 rfl) ⟨a11, ((l_3).length), c13, rfl, hL10⟩)
  · refine WK_block ?_
    refine WK_loop (S := List Int × Int) (G := Option Addr × Nat × Nat × List Ent) (fun s => fiducialref13_New_s1 p0 p1 s.1 s.2) (fun s g => [(0, .int .i64 p0), (1, .int .i64 p1), (6, .pointer (some ⟨b1, 0, none⟩)), (7, .pointer (some ⟨b2, 0, none⟩)), (8, .int .i64 s.2)]) (fun s g => St w0 m m [[⟨b1, 29, [.int .i64 0, .int .i64 0, .int .i64 0, .slice none 0 0]⟩], [⟨b2, 29, [.int .i64 p0, .int .i64 p1, .int .i64 p2, .slice g.1 g.2.1 g.2.2.1]⟩], g.2.2.2]) (fun s g => OwnE 3 1 (I1 .i64) (.slice g.1 g.2.1 g.2.2.1) s.1 g.2.2.2) FUEL (([] : List Int), 0) (none, 0, 0, []) x14 hx15 (OwnE.nil (T := 3) (k := 1) (E := (I1 .i64)) none) ⟨rfl, rfl, rfl, rfl, rfl, trivial⟩ (fun _ h => h) ?_
    rintro ⟨l_1, s_2⟩ ⟨a6, q7, c8, L5⟩ o18 fl19 hm17 hL5 hn20 hd21
    have hm17 : fiducialref13_New_s1 p0 p1 l_1 s_2 = some o18 := hm17
    unfold fiducialref13_New_s1 at hm17
    have hqq : q7 = l_1.length := OwnE.qlen hL5
    subst hqq
    refine WK.sub (e' := [(0, .int .i64 p0), (1, .int .i64 p1), (6, .pointer (some ⟨b1, 0, none⟩)), (7, .pointer (some ⟨b2, 0, none⟩)), (8, .int .i64 s_2)]) ⟨rfl, rfl, rfl, rfl, rfl, trivial⟩ (WK.cls (C' := St w0 m m [[⟨b1, 29, [.int .i64 0, .int .i64 0, .int .i64 0, .slice none 0 0]⟩], [⟨b2, 29, [.int .i64 p0, .int .i64 p1, .int .i64 p2, .slice a6 ((l_1).length) c8]⟩], L5]) (fun _ h => h) ?_)
    refine WK_seq ?_
    refine WK_seq ?_
    refine WK_region ?_
    refine WO_pure tbok 5 [(0, .int .i64 p0), (1, .int .i64 p1), (6, .pointer (some ⟨b1, 0, none⟩)), (7, .pointer (some ⟨b2, 0, none⟩)), (8, .int .i64 s_2), (17, .bool (decide (s_2 < (w64 (p0 * p1)))))] rfl ⟨rfl, rfl, rfl, rfl, rfl, rfl, trivial⟩ ?_
    refine WO_end ?_
    refine WK_cond (b := decide (s_2 < (w64 (p0 * p1)))) rfl (fun hb23 => ?_) (fun hb23 => ?_)
    · have hm17 := ifT hb23 hm17
      refine WK_skip ?_
      refine WK_seq ?_
      refine WK_block ?_
      refine WK_region ?_
      refine WO_pure tbok 1 [(0, .int .i64 p0), (1, .int .i64 p1), (6, .pointer (some ⟨b1, 0, none⟩)), (7, .pointer (some ⟨b2, 0, none⟩)), (8, .int .i64 s_2), (20, .pointer (some ⟨b2, 3, none⟩))] rfl ⟨rfl, rfl, rfl, rfl, rfl, rfl, trivial⟩ ?_
      refine WO_loadB tbok 1 rfl rfl rfl rfl (fun _ h => h) rfl rfl ?_
      refine WO_bslice (E := (I1 .i64)) tbok (fun _ => rfl) (by decide) [.int .i64 0] ([0] : List Int) rfl rfl trivial rfl rfl rfl rfl rfl rfl rfl rfl rfl rfl rfl rfl (fun b24 hb24 => ?_)
      refine WO.cls (C' := St w0 m m [[⟨b1, 29, [.int .i64 0, .int .i64 0, .int .i64 0, .slice none 0 0]⟩], [⟨b2, 29, [.int .i64 p0, .int .i64 p1, .int .i64 p2, .slice a6 ((l_1).length) c8]⟩], L5, [⟨b24, 3, ([0] : List Int).flatMap (I1 .i64)⟩]]) (fun _ h => h) ?_
      obtain ⟨hc26, hm17⟩ := chk_some hm17
      refine WO_append (E := (I1 .i64)) tbok (fun _ => rfl) 2 ([0] : List Int) (fun _ _ => rfl) rfl rfl rfl rfl rfl rfl rfl rfl rfl rfl rfl rfl hL5 rfl (src_seg (j := 3) rfl) (ap_ok (by decide) hc26) (ap_max hc26) (fun a27 c28 L29 hL29 => ?_)
      refine WO.cls (C' := St w0 m m [[⟨b1, 29, [.int .i64 0, .int .i64 0, .int .i64 0, .slice none 0 0]⟩], [⟨b2, 29, [.int .i64 p0, .int .i64 p1, .int .i64 p2, .slice a6 ((l_1).length) c8]⟩], L29, [⟨b24, 3, ([0] : List Int).flatMap (I1 .i64)⟩]]) (fun _ h => h) ?_
      refine WO_pure tbok 1 [(0, .int .i64 p0), (1, .int .i64 p1), (6, .pointer (some ⟨b1, 0, none⟩)), (7, .pointer (some ⟨b2, 0, none⟩)), (8, .int .i64 s_2), (23, .slice a27 ((l_1 ++ ([0] : List Int)).length) c28), (24, .pointer (some ⟨b2, 3, none⟩))] rfl ⟨rfl, rfl, rfl, rfl, rfl, rfl, rfl, trivial⟩ ?_
      refine WO_storeB tbok 1 [.int .i64 p0, .int .i64 p1, .int .i64 p2, .slice a27 ((l_1 ++ ([0] : List Int)).length) c28] rfl rfl rfl rfl rfl rfl rfl ?_
      refine WO.cls (C' := St w0 m m [[⟨b1, 29, [.int .i64 0, .int .i64 0, .int .i64 0, .slice none 0 0]⟩], [⟨b2, 29, [.int .i64 p0, .int .i64 p1, .int .i64 p2, .slice a27 ((l_1 ++ ([0] : List Int)).length) c28]⟩], L29, [⟨b24, 3, ([0] : List Int).flatMap (I1 .i64)⟩]]) (fun _ h => h) ?_
      refine WO_end ?_
      refine WK_blk ?_
      refine WK_region ?_
      refine WO_pure tbok 3 [(0, .int .i64 p0), (1, .int .i64 p1), (6, .pointer (some ⟨b1, 0, none⟩)), (7, .pointer (some ⟨b2, 0, none⟩)), (8, .int .i64 (w64 (s_2 + 1)))] rfl ⟨rfl, rfl, rfl, rfl, rfl, trivial⟩ ?_
      refine WO_end ?_
      cases hm17
      refine WK.sub ?_ (WK.cls (fun _ h => St.take 3 h) (hn20 _ (a27, (l_1 ++ ([0] : List Int)).length, c28, L29) rfl hL29))
      exact ⟨rfl, rfl, rfl, rfl, rfl, trivial⟩
    · have hm17 := ifF hb23 hm17
      refine WK_exit rfl ?_
      cases hm17
      refine WK.sub ?_ (WK.cls (fun _ h => h) (hk16 (l_1, (a6, (l_1).length, c8, L5)) ⟨(hd21 _ rfl), hL5⟩))
      exact ⟨rfl, rfl, trivial⟩
def fiducialref13_Turn_Q (r : Int × Int × Int × List Int) : Value → List Ent → Prop := fun v L => ∃ (a0 : Option Addr) (q0 c0 : Nat), v = .agg #[.int .i64 r.1, .int .i64 r.2.1, .int .i64 r.2.2.1, .slice a0 q0 c0] ∧ OwnE 3 1 (I1 .i64) (.slice a0 q0 c0) r.2.2.2 L
theorem fiducialref13_Turn_walk {m : Mu} {p0_0 : Int} {p0_1 : Int} {p0_2 : Int} {p0_3 : List Int} {a_p0_3 : Option Addr} {q_p0_3 c_p0_3 : Nat} (h_p0_3 : SlR (FE (I1 .i64)) 1 m (.slice a_p0_3 q_p0_3 c_p0_3) p0_3) {r : Int × Int × Int × List Int} (hm : fiducialref13_Turn p0_0 p0_1 p0_2 p0_3 = some r) :
    Go.E.Spec Try.prog 26 [.agg #[.int .i64 p0_0, .int .i64 p0_1, .int .i64 p0_2, .slice a_p0_3 q_p0_3 c_p0_3]] m (fun v _ L => fiducialref13_Turn_Q r v L) := by
  refine Spec_enter Try.func26 rfl rfl rfl (fun w0 => ?_)
  refine WK.sub (e' := [(0, .agg #[.int .i64 p0_0, .int .i64 p0_1, .int .i64 p0_2, .slice a_p0_3 q_p0_3 c_p0_3])]) ⟨rfl, trivial⟩ ?_
  obtain rfl := SlR.qlen h_p0_3
  refine WK.sub (e' := [(0, .agg #[.int .i64 p0_0, .int .i64 p0_1, .int .i64 p0_2, .slice a_p0_3 p0_3.length c_p0_3])]) ⟨rfl, trivial⟩ ?_
  unfold fiducialref13_Turn at hm
  refine WK_seq ?_
  refine WK_region ?_
  refine WO_box [.int .i64 p0_0, .int .i64 p0_1, .int .i64 p0_2, .slice a_p0_3 p0_3.length c_p0_3] rfl rfl trivial rfl rfl rfl (fun b2 => ?_)
  refine WO.cls (C' := St w0 m m [[⟨b2, 29, [.int .i64 p0_0, .int .i64 p0_1, .int .i64 p0_2, .slice a_p0_3 p0_3.length c_p0_3]⟩]]) (fun _ h => h) ?_
  refine WO_alloc tbok [.int .i64 0, .int .i64 0, .int .i64 0, .slice none 0 0] rfl rfl trivial rfl rfl rfl rfl (fun b3 => ?_)
  refine WO.cls (C' := St w0 m m [[⟨b2, 29, [.int .i64 p0_0, .int .i64 p0_1, .int .i64 p0_2, .slice a_p0_3 p0_3.length c_p0_3]⟩], [⟨b3, 29, [.int .i64 0, .int .i64 0, .int .i64 0, .slice none 0 0]⟩]]) (fun _ h => h) ?_
  refine WO_end ?_
  refine WK_seq ?_
  refine WK_region ?_
  refine WO_pure tbok 1 [(1, .pointer (some ⟨b2, 0, none⟩)), (2, .pointer (some ⟨b3, 0, none⟩)), (6, .pointer (some ⟨b2, 1, none⟩))] rfl ⟨rfl, rfl, rfl, trivial⟩ ?_
  refine WO_loadB tbok 0 rfl rfl rfl rfl (fun _ h => h) rfl rfl ?_
  refine WO_pure tbok 1 [(1, .pointer (some ⟨b2, 0, none⟩)), (2, .pointer (some ⟨b3, 0, none⟩)), (7, .int .i64 p0_1), (8, .pointer (some ⟨b2, 0, none⟩))] rfl ⟨rfl, rfl, rfl, rfl, trivial⟩ ?_
  refine WO_loadB tbok 0 rfl rfl rfl rfl (fun _ h => h) rfl rfl ?_
  refine WO_pure tbok 1 [(1, .pointer (some ⟨b2, 0, none⟩)), (2, .pointer (some ⟨b3, 0, none⟩)), (7, .int .i64 p0_1), (9, .int .i64 p0_0), (10, .pointer (some ⟨b2, 2, none⟩))] rfl ⟨rfl, rfl, rfl, rfl, rfl, trivial⟩ ?_
  refine WO_loadB tbok 0 rfl rfl rfl rfl (fun _ h => h) rfl rfl ?_
  obtain ⟨⟨y_1, y_2, y_3, y_4⟩, hc4, hm⟩ := bind_some hm
  refine WO_call1 (fiducialref13_New_Q (y_1, y_2, y_3, y_4)) rfl rfl trivial rfl rfl rfl rfl ⟨46, #[], #[], rfl, callable_46, fun w hw => ⟨_, hw.sat, fiducialref13_New_walk hc4⟩⟩ (fun v9 L8 hq => ?_)
  obtain ⟨a5, qa5, c6, rfl, hL8⟩ := hq
  obtain rfl := OwnE.qlen hL8
  refine WO.cls (C' := St w0 m m [[⟨b2, 29, [.int .i64 p0_0, .int .i64 p0_1, .int .i64 p0_2, .slice a_p0_3 p0_3.length c_p0_3]⟩], [⟨b3, 29, [.int .i64 0, .int .i64 0, .int .i64 0, .slice none 0 0]⟩], L8]) (fun _ h => h) ?_
  refine WO_alloc tbok [.int .i64 0, .int .i64 0, .int .i64 0, .slice none 0 0] rfl rfl trivial rfl rfl rfl rfl (fun b10 => ?_)
  refine WO.cls (C' := St w0 m m [[⟨b2, 29, [.int .i64 p0_0, .int .i64 p0_1, .int .i64 p0_2, .slice a_p0_3 p0_3.length c_p0_3]⟩], [⟨b3, 29, [.int .i64 0, .int .i64 0, .int .i64 0, .slice none 0 0]⟩], L8, [⟨b10, 29, [.int .i64 0, .int .i64 0, .int .i64 0, .slice none 0 0]⟩]]) (fun _ h => h) ?_
  refine WO_storeB tbok 3 [.int .i64 y_1, .int .i64 y_2, .int .i64 y_3, .slice a5 ((y_4).length) c6] rfl rfl rfl rfl rfl rfl rfl ?_
  refine WO.cls (C' := St w0 m m [[⟨b2, 29, [.int .i64 p0_0, .int .i64 p0_1, .int .i64 p0_2, .slice a_p0_3 p0_3.length c_p0_3]⟩], [⟨b3, 29, [.int .i64 0, .int .i64 0, .int .i64 0, .slice none 0 0]⟩], L8, [⟨b10, 29, [.int .i64 y_1, .int .i64 y_2, .int .i64 y_3, .slice a5 ((y_4).length) c6]⟩]]) (fun _ h => h) ?_
  refine WO_end ?_
  refine WK_seq ?_
  refine WK_seq ?_
  refine WK_region ?_
  refine WO_pure tbok 1 [(1, .pointer (some ⟨b2, 0, none⟩)), (2, .pointer (some ⟨b3, 0, none⟩)), (3, .pointer (some ⟨b10, 0, none⟩)), (4, .int .i64 0)] rfl ⟨rfl, rfl, rfl, rfl, trivial⟩ ?_
  refine WO_end ?_
  obtain ⟨x15, hx16, hm⟩ := bind_some hm
  refine WK_join (β := (List Int) × (List Ent)) (fun p => p.1 = x15 ∧ OwnE 3 1 (I1 .i64) (.slice a5 ((y_4).length) c6) p.1 p.2) (fun p => [(2, .pointer (some ⟨b3, 0, none⟩)), (3, .pointer (some ⟨b10, 0, none⟩))]) (fun p => St w0 m m [[⟨b2, 29, [.int .i64 p0_0, .int .i64 p0_1, .int .i64 p0_2, .slice a_p0_3 p0_3.length c_p0_3]⟩], [⟨b3, 29, [.int .i64 0, .int .i64 0, .int .i64 0, .slice none 0 0]⟩], p.2, [⟨b10, 29, [.int .i64 y_1, .int .i64 y_2, .int .i64 y_3, .slice a5 ((y_4).length) c6]⟩]]) ?_ (fun hk17 => ?_)
  · rintro ⟨l_7, L14⟩ ⟨hq23, hL14⟩
    subst hq23
    refine WK.sub (e' := [(2, .pointer (some ⟨b3, 0, none⟩)), (3, .pointer (some ⟨b10, 0, none⟩))]) ⟨rfl, rfl, trivial⟩ (WK.cls (C' := St w0 m m [[⟨b2, 29, [.int .i64 p0_0, .int .i64 p0_1, .int .i64 p0_2, .slice a_p0_3 p0_3.length c_p0_3]⟩], [⟨b3, 29, [.int .i64 0, .int .i64 0, .int .i64 0, .slice none 0 0]⟩], L14, [⟨b10, 29, [.int .i64 y_1, .int .i64 y_2, .int .i64 y_3, .slice a5 ((y_4).length) c6]⟩]]) (fun _ h => h) ?_)
    refine WK_seq ?_
    refine WK_region ?_
    refine WO_loadB tbok 3 rfl rfl rfl rfl (fun _ h => h) rfl rfl ?_
    refine WO_storeB tbok 1 [.int .i64 y_1, .int .i64 y_2, .int .i64 y_3, .slice a5 ((y_4).length) c6] rfl rfl rfl rfl rfl rfl rfl ?_
    refine WO.cls (C' := St w0 m m [[⟨b2, 29, [.int .i64 p0_0, .int .i64 p0_1, .int .i64 p0_2, .slice a_p0_3 p0_3.length c_p0_3]⟩], [⟨b3, 29, [.int .i64 y_1, .int .i64 y_2, .int .i64 y_3, .slice a5 ((y_4).length) c6]⟩], L14, [⟨b10, 29, [.int .i64 y_1, .int .i64 y_2, .int .i64 y_3, .slice a5 ((y_4).length) c6]⟩]]) (fun _ h => h) ?_
    refine WO_end ?_
    cases hm
    exact WK_ret (ret_out (L := L14) (RLc_cell tbok 1 rfl rfl rfl RLc_nil) (seg_sub 2 rfl) ⟨a5, ((y_4).length), c6, rfl, hL14⟩)
  · refine WK_block ?_
    refine WK_loop (S := List Int × Int) (G := List Ent) (fun s => fiducialref13_Turn_s1 p0_0 p0_1 p0_2 p0_3 y_1 y_2 s.1 s.2) (fun s g => [(1, .pointer (some ⟨b2, 0, none⟩)), (2, .pointer (some ⟨b3, 0, none⟩)), (3, .pointer (some ⟨b10, 0, none⟩)), (4, .int .i64 s.2)]) (fun s g => St w0 m m [[⟨b2, 29, [.int .i64 p0_0, .int .i64 p0_1, .int .i64 p0_2, .slice a_p0_3 p0_3.length c_p0_3]⟩], [⟨b3, 29, [.int .i64 0, .int .i64 0, .int .i64 0, .slice none 0 0]⟩], g, [⟨b10, 29, [.int .i64 y_1, .int .i64 y_2, .int .i64 y_3, .slice a5 ((y_4).length) c6]⟩]]) (fun s g => OwnE 3 1 (I1 .i64) (.slice a5 ((y_4).length) c6) s.1 g) FUEL (y_4, 0) L8 x15 hx16 hL8 ⟨rfl, rfl, rfl, rfl, trivial⟩ (fun _ h => h) ?_
    rintro ⟨l_5, s_6⟩ L12 o19 fl20 hm18 hL12 hn21 hd22
    have hm18 : fiducialref13_Turn_s1 p0_0 p0_1 p0_2 p0_3 y_1 y_2 l_5 s_6 = some o19 := hm18
    unfold fiducialref13_Turn_s1 at hm18
    refine WK.sub (e' := [(1, .pointer (some ⟨b2, 0, none⟩)), (2, .pointer (some ⟨b3, 0, none⟩)), (3, .pointer (some ⟨b10, 0, none⟩)), (4, .int .i64 s_6)]) ⟨rfl, rfl, rfl, rfl, trivial⟩ (WK.cls (C' := St w0 m m [[⟨b2, 29, [.int .i64 p0_0, .int .i64 p0_1, .int .i64 p0_2, .slice a_p0_3 p0_3.length c_p0_3]⟩], [⟨b3, 29, [.int .i64 0, .int .i64 0, .int .i64 0, .slice none 0 0]⟩], L12, [⟨b10, 29, [.int .i64 y_1, .int .i64 y_2, .int .i64 y_3, .slice a5 ((y_4).length) c6]⟩]]) (fun _ h => h) ?_)
    refine WK_seq ?_
    refine WK_seq ?_
    refine WK_region ?_
    refine WO_pure tbok 2 [(1, .pointer (some ⟨b2, 0, none⟩)), (2, .pointer (some ⟨b3, 0, none⟩)), (3, .pointer (some ⟨b10, 0, none⟩)), (4, .int .i64 s_6), (13, .int .i64 s_6), (14, .pointer (some ⟨b10, 1, none⟩))] rfl ⟨rfl, rfl, rfl, rfl, rfl, rfl, trivial⟩ ?_
    refine WO_loadB tbok 3 rfl rfl rfl rfl (fun _ h => h) rfl rfl ?_
    refine WO_pure tbok 1 [(1, .pointer (some ⟨b2, 0, none⟩)), (2, .pointer (some ⟨b3, 0, none⟩)), (3, .pointer (some ⟨b10, 0, none⟩)), (4, .int .i64 s_6), (16, .bool (decide (s_6 < y_2)))] rfl ⟨rfl, rfl, rfl, rfl, rfl, trivial⟩ ?_
    refine WO_end ?_
    refine WK_cond (b := decide (s_6 < y_2)) rfl (fun hb24 => ?_) (fun hb24 => ?_)
    · have hm18 := ifT hb24 hm18
      refine WK_skip ?_
      refine WK_seq ?_
      refine WK_block ?_
      refine WK_seq ?_
      refine WK_region ?_
      refine WO_pure tbok 1 [(1, .pointer (some ⟨b2, 0, none⟩)), (2, .pointer (some ⟨b3, 0, none⟩)), (3, .pointer (some ⟨b10, 0, none⟩)), (4, .int .i64 s_6), (5, .int .i64 0)] rfl ⟨rfl, rfl, rfl, rfl, rfl, trivial⟩ ?_
      refine WO_end ?_
      obtain ⟨x29, hx30, hm18⟩ := bind_some hm18
      refine WK_join (β := (List Int) × (List Ent)) (fun p => p.1 = x29 ∧ OwnE 3 1 (I1 .i64) (.slice a5 ((y_4).length) c6) p.1 p.2) (fun p => [(1, .pointer (some ⟨b2, 0, none⟩)), (2, .pointer (some ⟨b3, 0, none⟩)), (3, .pointer (some ⟨b10, 0, none⟩)), (4, .int .i64 s_6)]) (fun p => St w0 m m [[⟨b2, 29, [.int .i64 p0_0, .int .i64 p0_1, .int .i64 p0_2, .slice a_p0_3 p0_3.length c_p0_3]⟩], [⟨b3, 29, [.int .i64 0, .int .i64 0, .int .i64 0, .slice none 0 0]⟩], p.2, [⟨b10, 29, [.int .i64 y_1, .int .i64 y_2, .int .i64 y_3, .slice a5 ((y_4).length) c6]⟩]]) ?_ (fun hk31 => ?_)
      · rintro ⟨l_10, L28⟩ ⟨hq37, hL28⟩
        subst hq37
        refine WK.sub (e' := [(1, .pointer (some ⟨b2, 0, none⟩)), (2, .pointer (some ⟨b3, 0, none⟩)), (3, .pointer (some ⟨b10, 0, none⟩)), (4, .int .i64 s_6)]) ⟨rfl, rfl, rfl, rfl, trivial⟩ (WK.cls (C' := St w0 m m [[⟨b2, 29, [.int .i64 p0_0, .int .i64 p0_1, .int .i64 p0_2, .slice a_p0_3 p0_3.length c_p0_3]⟩], [⟨b3, 29, [.int .i64 0, .int .i64 0, .int .i64 0, .slice none 0 0]⟩], L28, [⟨b10, 29, [.int .i64 y_1, .int .i64 y_2, .int .i64 y_3, .slice a5 ((y_4).length) c6]⟩]]) (fun _ h => h) ?_)
        refine WK_blk ?_
        refine WK_region ?_
        refine WO_pure tbok 3 [(1, .pointer (some ⟨b2, 0, none⟩)), (2, .pointer (some ⟨b3, 0, none⟩)), (3, .pointer (some ⟨b10, 0, none⟩)), (4, .int .i64 (w64 (s_6 + 1)))] rfl ⟨rfl, rfl, rfl, rfl, trivial⟩ ?_
        refine WO_end ?_
        cases hm18
        refine WK.sub ?_ (WK.cls (fun _ h => h) (hn21 _ L28 rfl hL28))
        exact ⟨rfl, rfl, rfl, rfl, trivial⟩
      · refine WK_block ?_
        refine WK_loop (S := List Int × Int) (G := List Ent) (fun s => fiducialref13_Turn_s2 p0_0 p0_1 p0_2 p0_3 y_1 s_6 s.1 s.2) (fun s g => [(1, .pointer (some ⟨b2, 0, none⟩)), (2, .pointer (some ⟨b3, 0, none⟩)), (3, .pointer (some ⟨b10, 0, none⟩)), (4, .int .i64 s_6), (5, .int .i64 s.2)]) (fun s g => St w0 m m [[⟨b2, 29, [.int .i64 p0_0, .int .i64 p0_1, .int .i64 p0_2, .slice a_p0_3 p0_3.length c_p0_3]⟩], [⟨b3, 29, [.int .i64 0, .int .i64 0, .int .i64 0, .slice none 0 0]⟩], g, [⟨b10, 29, [.int .i64 y_1, .int .i64 y_2, .int .i64 y_3, .slice a5 ((y_4).length) c6]⟩]]) (fun s g => OwnE 3 1 (I1 .i64) (.slice a5 ((y_4).length) c6) s.1 g) FUEL (l_5, 0) L12 x29 hx30 hL12 ⟨rfl, rfl, rfl, rfl, rfl, trivial⟩ (fun _ h => h) ?_
        rintro ⟨l_8, s_9⟩ L26 o33 fl34 hm32 hL26 hn35 hd36
        have hm32 : fiducialref13_Turn_s2 p0_0 p0_1 p0_2 p0_3 y_1 s_6 l_8 s_9 = some o33 := hm32
        unfold fiducialref13_Turn_s2 at hm32
        refine WK.sub (e' := [(1, .pointer (some ⟨b2, 0, none⟩)), (2, .pointer (some ⟨b3, 0, none⟩)), (3, .pointer (some ⟨b10, 0, none⟩)), (4, .int .i64 s_6), (5, .int .i64 s_9)]) ⟨rfl, rfl, rfl, rfl, rfl, trivial⟩ (WK.cls (C' := St w0 m m [[⟨b2, 29, [.int .i64 p0_0, .int .i64 p0_1, .int .i64 p0_2, .slice a_p0_3 p0_3.length c_p0_3]⟩], [⟨b3, 29, [.int .i64 0, .int .i64 0, .int .i64 0, .slice none 0 0]⟩], L26, [⟨b10, 29, [.int .i64 y_1, .int .i64 y_2, .int .i64 y_3, .slice a5 ((y_4).length) c6]⟩]]) (fun _ h => h) ?_)
        refine WK_seq ?_
        refine WK_seq ?_
        refine WK_region ?_
        refine WO_pure tbok 2 [(1, .pointer (some ⟨b2, 0, none⟩)), (2, .pointer (some ⟨b3, 0, none⟩)), (3, .pointer (some ⟨b10, 0, none⟩)), (4, .int .i64 s_6), (5, .int .i64 s_9), (19, .int .i64 s_9), (20, .pointer (some ⟨b10, 0, none⟩))] rfl ⟨rfl, rfl, rfl, rfl, rfl, rfl, rfl, trivial⟩ ?_
        refine WO_loadB tbok 3 rfl rfl rfl rfl (fun _ h => h) rfl rfl ?_
        refine WO_pure tbok 1 [(1, .pointer (some ⟨b2, 0, none⟩)), (2, .pointer (some ⟨b3, 0, none⟩)), (3, .pointer (some ⟨b10, 0, none⟩)), (4, .int .i64 s_6), (5, .int .i64 s_9), (22, .bool (decide (s_9 < y_1)))] rfl ⟨rfl, rfl, rfl, rfl, rfl, rfl, trivial⟩ ?_
        refine WO_end ?_
        refine WK_cond (b := decide (s_9 < y_1)) rfl (fun hb38 => ?_) (fun hb38 => ?_)
        · have hm32 := ifT hb38 hm32
          refine WK_skip ?_
          refine WK_seq ?_
          refine WK_block ?_
          refine WK_draw 17 [0, 1, 2, 3, 4, 5, 6, 7, 8, 9, 10, 11, 12, 13, 14, 15, 16] follows_ok (by kernel_rfl) St_closed ?_
          refine WO_pure tbok 1 [(1, .pointer (some ⟨b2, 0, none⟩)), (2, .pointer (some ⟨b3, 0, none⟩)), (3, .pointer (some ⟨b10, 0, none⟩)), (4, .int .i64 s_6), (5, .int .i64 s_9), (25, .pointer (some ⟨b10, 3, none⟩))] rfl ⟨rfl, rfl, rfl, rfl, rfl, rfl, trivial⟩ ?_
          refine WO_loadB tbok 3 rfl rfl rfl rfl (fun _ h => h) rfl rfl ?_
          refine WO_pure tbok 2 [(1, .pointer (some ⟨b2, 0, none⟩)), (2, .pointer (some ⟨b3, 0, none⟩)), (3, .pointer (some ⟨b10, 0, none⟩)), (4, .int .i64 s_6), (5, .int .i64 s_9), (26, .slice a5 ((y_4).length) c6), (27, .int .i64 s_6), (28, .pointer (some ⟨b10, 0, none⟩))] rfl ⟨rfl, rfl, rfl, rfl, rfl, rfl, rfl, rfl, trivial⟩ ?_
          refine WO_loadB tbok 3 rfl rfl rfl rfl (fun _ h => h) rfl rfl ?_
          refine WO_pure tbok 3 [(1, .pointer (some ⟨b2, 0, none⟩)), (2, .pointer (some ⟨b3, 0, none⟩)), (3, .pointer (some ⟨b10, 0, none⟩)), (4, .int .i64 s_6), (5, .int .i64 s_9), (26, .slice a5 ((y_4).length) c6), (32, .int .i64 (w64 ((w64 (s_6 * y_1)) + s_9)))] rfl ⟨rfl, rfl, rfl, rfl, rfl, rfl, rfl, trivial⟩ ?_
          refine WO_loadB tbok 0 rfl rfl rfl rfl (fun _ h => h) rfl rfl ?_
          refine WO_pure tbok 1 [(1, .pointer (some ⟨b2, 0, none⟩)), (2, .pointer (some ⟨b3, 0, none⟩)), (3, .pointer (some ⟨b10, 0, none⟩)), (4, .int .i64 s_6), (5, .int .i64 s_9), (26, .slice a5 ((y_4).length) c6), (32, .int .i64 (w64 ((w64 (s_6 * y_1)) + s_9))), (33, .agg #[.int .i64 p0_0, .int .i64 p0_1, .int .i64 p0_2, .slice a_p0_3 p0_3.length c_p0_3]), (34, .pointer (some ⟨b2, 0, none⟩))] rfl ⟨rfl, rfl, rfl, rfl, rfl, rfl, rfl, rfl, rfl, trivial⟩ ?_
          refine WO_loadB tbok 0 rfl rfl rfl rfl (fun _ h => h) rfl rfl ?_
          refine WO_pure tbok 4 [(1, .pointer (some ⟨b2, 0, none⟩)), (2, .pointer (some ⟨b3, 0, none⟩)), (3, .pointer (some ⟨b10, 0, none⟩)), (4, .int .i64 s_6), (5, .int .i64 s_9), (26, .slice a5 ((y_4).length) c6), (32, .int .i64 (w64 ((w64 (s_6 * y_1)) + s_9))), (33, .agg #[.int .i64 p0_0, .int .i64 p0_1, .int .i64 p0_2, .slice a_p0_3 p0_3.length c_p0_3]), (38, .int .i64 (w64 ((w64 (p0_0 - 1)) - s_6))), (39, .int .i64 s_9)] rfl ⟨rfl, rfl, rfl, rfl, rfl, rfl, rfl, rfl, rfl, rfl, trivial⟩ ?_
          obtain ⟨y_11, hc39, hm32⟩ := bind_some hm32
          refine WO_call0 (.int .i64 y_11) rfl rfl St_closed rfl rfl rfl rfl St_closed ⟨47, #[], #[], rfl, callable_47, fun w hw => ⟨_, hw.sat, fiducialref13_At_walk h_p0_3 hc39⟩⟩ ?_
          obtain ⟨hc40, hm32⟩ := chk_some hm32
          refine WO_index tbok rfl rfl rfl rfl rfl rfl rfl rfl (OwnE.addr hL26) (by simpa using hc40) ?_
          refine WO_tail ?_
          refine WO_storeO (E := (I1 .i64)) tbok (fun _ => rfl) 2 y_11 rfl rfl rfl rfl rfl hL26 rfl (by simpa using idx_lt hc40) rfl rfl rfl rfl (fun L41 hL41 => ?_)
          refine WO.cls (C' := St w0 m m [[⟨b2, 29, [.int .i64 p0_0, .int .i64 p0_1, .int .i64 p0_2, .slice a_p0_3 p0_3.length c_p0_3]⟩], [⟨b3, 29, [.int .i64 0, .int .i64 0, .int .i64 0, .slice none 0 0]⟩], L41, [⟨b10, 29, [.int .i64 y_1, .int .i64 y_2, .int .i64 y_3, .slice a5 ((y_4).length) c6]⟩]]) (fun _ h => h) ?_
          refine WO_end ?_
          refine WK_blk ?_
          refine WK_region ?_
          refine WO_pure tbok 3 [(1, .pointer (some ⟨b2, 0, none⟩)), (2, .pointer (some ⟨b3, 0, none⟩)), (3, .pointer (some ⟨b10, 0, none⟩)), (4, .int .i64 s_6), (5, .int .i64 (w64 (s_9 + 1)))] rfl ⟨rfl, rfl, rfl, rfl, rfl, trivial⟩ ?_
          refine WO_end ?_
          cases hm32
          refine WK.sub ?_ (WK.cls (fun _ h => h) (hn35 _ L41 rfl hL41))
          exact ⟨rfl, rfl, rfl, rfl, rfl, trivial⟩
        · have hm32 := ifF hb38 hm32
          refine WK_exit rfl ?_
          cases hm32
          refine WK.sub ?_ (WK.cls (fun _ h => h) (hk31 (l_8, L26) ⟨(hd36 _ rfl), hL26⟩))
          exact ⟨rfl, rfl, rfl, rfl, trivial⟩
    · have hm18 := ifF hb24 hm18
      refine WK_exit rfl ?_
      cases hm18
      refine WK.sub ?_ (WK.cls (fun _ h => h) (hk17 (l_5, L12) ⟨(hd22 _ rfl), hL12⟩))
      exact ⟨rfl, rfl, trivial⟩
theorem fiduciallaw21_DescriptorTurns_walk {m : Mu} {p0_0 : Int} {p0_1 : Int} {p0_2 : Int} {p0_3 : List Int} {p1 : List (Int × Int × Int × Int × Int × Int × Int × Int)} {p2_0 : Int} {p2_1 : Int} {a_p0_3 : Option Addr} {q_p0_3 c_p0_3 : Nat} {a_p1 : Option Addr} {q_p1 c_p1 : Nat} (h_p0_3 : SlR (FE (I1 .i64)) 1 m (.slice a_p0_3 q_p0_3 c_p0_3) p0_3) (h_p1 : SlR (FE T8) 8 m (.slice a_p1 q_p1 c_p1) p1) {r : Bool} (hm : fiduciallaw21_DescriptorTurns p0_0 p0_1 p0_2 p0_3 p1 p2_0 p2_1 = some r) :
    Go.E.Spec Try.prog 6 [.agg #[.int .i64 p0_0, .int .i64 p0_1, .int .i64 p0_2, .slice a_p0_3 q_p0_3 c_p0_3], .slice a_p1 q_p1 c_p1, .agg #[.int .i64 p2_0, .int .i64 p2_1]] m (fun v _ _ => v = .bool r) := by
  refine Spec_enter Try.func6 rfl rfl rfl (fun w0 => ?_)
  refine WK.sub (e' := [(0, .agg #[.int .i64 p0_0, .int .i64 p0_1, .int .i64 p0_2, .slice a_p0_3 q_p0_3 c_p0_3]), (1, .slice a_p1 q_p1 c_p1), (2, .agg #[.int .i64 p2_0, .int .i64 p2_1])]) ⟨rfl, rfl, rfl, trivial⟩ ?_
  obtain rfl := SlR.qlen h_p0_3
  obtain rfl := SlR.qlen h_p1
  refine WK.sub (e' := [(0, .agg #[.int .i64 p0_0, .int .i64 p0_1, .int .i64 p0_2, .slice a_p0_3 p0_3.length c_p0_3]), (1, .slice a_p1 p1.length c_p1), (2, .agg #[.int .i64 p2_0, .int .i64 p2_1])]) ⟨rfl, rfl, rfl, trivial⟩ ?_
  unfold fiduciallaw21_DescriptorTurns at hm
  refine WK_seq ?_
  refine WK_region ?_
  refine WO_box [.int .i64 p0_0, .int .i64 p0_1, .int .i64 p0_2, .slice a_p0_3 p0_3.length c_p0_3] rfl rfl trivial rfl rfl rfl (fun b3 => ?_)
  refine WO.cls (C' := St w0 m m [[⟨b3, 29, [.int .i64 p0_0, .int .i64 p0_1, .int .i64 p0_2, .slice a_p0_3 p0_3.length c_p0_3]⟩]]) (fun _ h => h) ?_
  refine WO_box [.int .i64 p2_0, .int .i64 p2_1] rfl rfl trivial rfl rfl rfl (fun b4 => ?_)
  refine WO.cls (C' := St w0 m m [[⟨b3, 29, [.int .i64 p0_0, .int .i64 p0_1, .int .i64 p0_2, .slice a_p0_3 p0_3.length c_p0_3]⟩], [⟨b4, 31, [.int .i64 p2_0, .int .i64 p2_1]⟩]]) (fun _ h => h) ?_
  refine WO_pure tbok 1 [(1, .slice a_p1 p1.length c_p1), (3, .pointer (some ⟨b3, 0, none⟩)), (5, .pointer (some ⟨b4, 0, none⟩)), (6, .bool false)] rfl ⟨rfl, rfl, rfl, rfl, trivial⟩ ?_
  refine WO_end ?_
  refine WK_seq ?_
  refine WK_seq ?_
  refine WK_region ?_
  obtain ⟨y_1, hc5, hm⟩ := bind_some hm
  refine WO_call0 (.bool y_1) rfl rfl trivial rfl rfl rfl rfl St_closed ⟨11, #[], #[], rfl, callable_11, fun w hw => ⟨_, hw.sat, fiduciallaw21_known_walk hc5⟩⟩ ?_
  refine WO_pure tbok 1 [(1, .slice a_p1 p1.length c_p1), (3, .pointer (some ⟨b3, 0, none⟩)), (5, .pointer (some ⟨b4, 0, none⟩)), (6, .bool false), (13, .bool (!y_1))] rfl ⟨rfl, rfl, rfl, rfl, rfl, trivial⟩ ?_
  refine WO_end ?_
  refine WK_cond (b := !y_1) rfl (fun hb6 => ?_) (fun hb6 => ?_)
  · have hm := ifT hb6 hm
    refine WK_seq ?_
    refine WK_region ?_
    refine WO_pure tbok 1 [(1, .slice a_p1 p1.length c_p1), (3, .pointer (some ⟨b3, 0, none⟩)), (5, .pointer (some ⟨b4, 0, none⟩)), (6, .bool false)] rfl ⟨rfl, rfl, rfl, rfl, trivial⟩ ?_
    refine WO_end ?_
    cases hm
    exact WK_ret (ret_out (L := []) (RLc_tmp rfl RLc_nil) (List.nil_sublist _) rfl)
  · have hm := ifF hb6 hm
    refine WK_skip ?_
    refine WK_seq ?_
    refine WK_seq ?_
    refine WK_region ?_
    refine WO_loadB tbok 0 rfl rfl rfl rfl (fun _ h => h) rfl rfl ?_
    refine WO_pure tbok 1 [(1, .slice a_p1 p1.length c_p1), (3, .pointer (some ⟨b3, 0, none⟩)), (5, .pointer (some ⟨b4, 0, none⟩)), (6, .bool false), (14, .agg #[.int .i64 p0_0, .int .i64 p0_1, .int .i64 p0_2, .slice a_p0_3 p0_3.length c_p0_3]), (15, .slice a_p1 p1.length c_p1)] rfl ⟨rfl, rfl, rfl, rfl, rfl, rfl, trivial⟩ ?_
    obtain ⟨y_2, hc7, hm⟩ := bind_some hm
    refine WO_call0 (.bool y_2) rfl rfl trivial rfl rfl rfl rfl St_closed ⟨14, #[], #[], rfl, callable_14, fun w hw => ⟨_, hw.sat, fiduciallaw21_few_walk h_p0_3 h_p1 hc7⟩⟩ ?_
    refine WO_pure tbok 1 [(1, .slice a_p1 p1.length c_p1), (3, .pointer (some ⟨b3, 0, none⟩)), (5, .pointer (some ⟨b4, 0, none⟩)), (6, .bool false), (17, .bool (!y_2))] rfl ⟨rfl, rfl, rfl, rfl, rfl, trivial⟩ ?_
    refine WO_end ?_
    refine WK_cond (b := !y_2) rfl (fun hb8 => ?_) (fun hb8 => ?_)
    · have hm := ifT hb8 hm
      refine WK_seq ?_
      refine WK_region ?_
      refine WO_pure tbok 1 [(1, .slice a_p1 p1.length c_p1), (3, .pointer (some ⟨b3, 0, none⟩)), (5, .pointer (some ⟨b4, 0, none⟩)), (6, .bool true)] rfl ⟨rfl, rfl, rfl, rfl, trivial⟩ ?_
      refine WO_end ?_
      cases hm
      exact WK_ret (ret_out (L := []) (RLc_tmp rfl RLc_nil) (List.nil_sublist _) rfl)
    · have hm := ifF hb8 hm
      refine WK_skip ?_
      refine WK_seq ?_
      refine WK_region ?_
      refine WO_pure tbok 1 [(1, .slice a_p1 p1.length c_p1), (3, .pointer (some ⟨b3, 0, none⟩)), (5, .pointer (some ⟨b4, 0, none⟩)), (6, .bool false), (19, .slice a_p1 p1.length c_p1)] rfl ⟨rfl, rfl, rfl, rfl, rfl, trivial⟩ ?_
      obtain ⟨⟨y_3, y_4⟩, hc9, hm⟩ := bind_some hm
      refine WO_call1 (descriptor_Turned_Q (y_3, y_4)) rfl rfl trivial rfl rfl rfl rfl ⟨22, #[], #[], rfl, callable_22, fun w hw => ⟨_, hw.sat, descriptor_Turned_walk h_p1 hc9⟩⟩ (fun v14 L13 hq => ?_)
      obtain ⟨a10, qa10, c11, rfl, hL13⟩ := hq
      obtain rfl := OwnE.qlen hL13
      refine WO.cls (C' := St w0 m m [[⟨b3, 29, [.int .i64 p0_0, .int .i64 p0_1, .int .i64 p0_2, .slice a_p0_3 p0_3.length c_p0_3]⟩], [⟨b4, 31, [.int .i64 p2_0, .int .i64 p2_1]⟩], L13]) (fun _ h => h) ?_
      refine WO_pure tbok 5 [(1, .slice a_p1 p1.length c_p1), (3, .pointer (some ⟨b3, 0, none⟩)), (5, .pointer (some ⟨b4, 0, none⟩)), (6, .bool false), (7, .slice a10 ((y_3).length) c11), (8, .int .i64 y_4)] rfl ⟨rfl, rfl, rfl, rfl, rfl, rfl, trivial⟩ ?_
      refine WO_end ?_
      refine WK_seq ?_
      refine WK_seq ?_
      refine WK_region ?_
      refine WO_pure tbok 1 [(1, .slice a_p1 p1.length c_p1), (3, .pointer (some ⟨b3, 0, none⟩)), (5, .pointer (some ⟨b4, 0, none⟩)), (6, .bool false), (7, .slice a10 ((y_3).length) c11), (8, .int .i64 y_4), (23, .slice a_p1 p1.length c_p1)] rfl ⟨rfl, rfl, rfl, rfl, rfl, rfl, rfl, trivial⟩ ?_
      obtain ⟨y_5, hc15, hm⟩ := bind_some hm
      refine WO_call0 (.bool y_5) rfl rfl trivial rfl rfl rfl rfl St_closed ⟨20, #[], #[], rfl, callable_20, fun w hw => ⟨_, hw.sat, fiduciallaw21_pattern_walk h_p1 hc15⟩⟩ ?_
      refine WO_pure tbok 1 [(1, .slice a_p1 p1.length c_p1), (3, .pointer (some ⟨b3, 0, none⟩)), (5, .pointer (some ⟨b4, 0, none⟩)), (6, .bool false), (7, .slice a10 ((y_3).length) c11), (8, .int .i64 y_4), (25, .bool (!y_5))] rfl ⟨rfl, rfl, rfl, rfl, rfl, rfl, rfl, trivial⟩ ?_
      refine WO_end ?_
      refine WK_cond (b := !y_5) rfl (fun hb16 => ?_) (fun hb16 => ?_)
      · have hm := ifT hb16 hm
        refine WK_seq ?_
        refine WK_region ?_
        refine WO_pure tbok 3 [(1, .slice a_p1 p1.length c_p1), (3, .pointer (some ⟨b3, 0, none⟩)), (5, .pointer (some ⟨b4, 0, none⟩)), (6, .bool false), (7, .slice a10 ((y_3).length) c11), (8, .int .i64 y_4), (28, .bool (y_4 == 1))] rfl ⟨rfl, rfl, rfl, rfl, rfl, rfl, rfl, trivial⟩ ?_
        refine WO_split (d := 28) (b := y_4 == 1) rfl (fun hb17 => ?_) (fun hb17 => ?_)
        · have hm := ifT hb17 hm
          refine WO_pure tbok 5 [(1, .slice a_p1 p1.length c_p1), (3, .pointer (some ⟨b3, 0, none⟩)), (5, .pointer (some ⟨b4, 0, none⟩)), (6, .bool (((y_3).length : Int) == 0)), (7, .slice a10 ((y_3).length) c11), (8, .int .i64 y_4)] rfl ⟨rfl, rfl, rfl, rfl, rfl, rfl, trivial⟩ ?_
          refine WO_end ?_
          cases hm
          exact WK_ret (ret_out (L := []) (RLc_tmp rfl RLc_nil) (List.nil_sublist _) rfl)
        · have hm := ifF hb17 hm
          refine WO_pure tbok 5 [(1, .slice a_p1 p1.length c_p1), (3, .pointer (some ⟨b3, 0, none⟩)), (5, .pointer (some ⟨b4, 0, none⟩)), (6, .bool false), (7, .slice a10 ((y_3).length) c11), (8, .int .i64 y_4)] rfl ⟨rfl, rfl, rfl, rfl, rfl, rfl, trivial⟩ ?_
          refine WO_end ?_
          cases hm
          exact WK_ret (ret_out (L := []) (RLc_tmp rfl RLc_nil) (List.nil_sublist _) rfl)
      · have hm := ifF hb16 hm
        refine WK_skip ?_
        refine WK_seq ?_
        refine WK_seq ?_
        obtain ⟨s_6, hx18, hm⟩ := bind_some hm
        refine WK_meet [(1, .slice a_p1 p1.length c_p1), (3, .pointer (some ⟨b3, 0, none⟩)), (5, .pointer (some ⟨b4, 0, none⟩)), (6, .bool false), (7, .slice a10 ((y_3).length) c11), (55, .bool s_6)] (St w0 m m [[⟨b3, 29, [.int .i64 p0_0, .int .i64 p0_1, .int .i64 p0_2, .slice a_p0_3 p0_3.length c_p0_3]⟩], [⟨b4, 31, [.int .i64 p2_0, .int .i64 p2_1]⟩], L13]) ?_ (fun hk19 => ?_)
        · refine WK_cond (b := s_6) rfl (fun hb20 => ?_) (fun hb20 => ?_)
          · have hm := ifT hb20 hm
            refine WK_seq ?_
            refine WK_region ?_
            refine WO_pure tbok 1 [(1, .slice a_p1 p1.length c_p1), (3, .pointer (some ⟨b3, 0, none⟩)), (5, .pointer (some ⟨b4, 0, none⟩)), (6, .bool false), (7, .slice a10 ((y_3).length) c11)] rfl ⟨rfl, rfl, rfl, rfl, rfl, trivial⟩ ?_
            refine WO_end ?_
            cases hm
            exact WK_ret (ret_out (L := []) (RLc_tmp rfl RLc_nil) (List.nil_sublist _) rfl)
          · have hm := ifF hb20 hm
            refine WK_skip ?_
            refine WK_seq ?_
            refine WK_seq ?_
            obtain ⟨s_7, hx21, hm⟩ := bind_some hm
            refine WK_meet [(1, .slice a_p1 p1.length c_p1), (3, .pointer (some ⟨b3, 0, none⟩)), (5, .pointer (some ⟨b4, 0, none⟩)), (6, .bool false), (7, .slice a10 ((y_3).length) c11), (67, .bool s_7)] (St w0 m m [[⟨b3, 29, [.int .i64 p0_0, .int .i64 p0_1, .int .i64 p0_2, .slice a_p0_3 p0_3.length c_p0_3]⟩], [⟨b4, 31, [.int .i64 p2_0, .int .i64 p2_1]⟩], L13]) ?_ (fun hk22 => ?_)
            · refine WK_cond (b := s_7) rfl (fun hb23 => ?_) (fun hb23 => ?_)
              · have hm := ifT hb23 hm
                refine WK_seq ?_
                refine WK_region ?_
                refine WO_pure tbok 1 [(1, .slice a_p1 p1.length c_p1), (3, .pointer (some ⟨b3, 0, none⟩)), (5, .pointer (some ⟨b4, 0, none⟩)), (6, .bool true), (7, .slice a10 ((y_3).length) c11)] rfl ⟨rfl, rfl, rfl, rfl, rfl, trivial⟩ ?_
                refine WO_end ?_
                cases hm
                exact WK_ret (ret_out (L := []) (RLc_tmp rfl RLc_nil) (List.nil_sublist _) rfl)
              · have hm := ifF hb23 hm
                refine WK_skip ?_
                refine WK_seq ?_
                refine WK_region ?_
                refine WO_loadB tbok 0 rfl rfl rfl rfl (fun _ h => h) rfl rfl ?_
                refine WO_pure tbok 2 [(3, .pointer (some ⟨b3, 0, none⟩)), (5, .pointer (some ⟨b4, 0, none⟩)), (6, .bool false), (7, .slice a10 ((y_3).length) c11), (69, .agg #[.int .i64 p0_0, .int .i64 p0_1, .int .i64 p0_2, .slice a_p0_3 p0_3.length c_p0_3]), (70, .slice a_p1 p1.length c_p1), (71, .pointer (some ⟨b4, 0, none⟩))] rfl ⟨rfl, rfl, rfl, rfl, rfl, rfl, rfl, trivial⟩ ?_
                refine WO_loadB tbok 1 rfl rfl rfl rfl (fun _ h => h) rfl rfl ?_
                refine WO_pure tbok 1 [(3, .pointer (some ⟨b3, 0, none⟩)), (5, .pointer (some ⟨b4, 0, none⟩)), (6, .bool false), (7, .slice a10 ((y_3).length) c11), (69, .agg #[.int .i64 p0_0, .int .i64 p0_1, .int .i64 p0_2, .slice a_p0_3 p0_3.length c_p0_3]), (70, .slice a_p1 p1.length c_p1), (72, .int .i64 p2_0), (73, .pointer (some ⟨b4, 1, none⟩))] rfl ⟨rfl, rfl, rfl, rfl, rfl, rfl, rfl, rfl, trivial⟩ ?_
                refine WO_loadB tbok 1 rfl rfl rfl rfl (fun _ h => h) rfl rfl ?_
                obtain ⟨⟨y_8, y_9⟩, hc24, hm⟩ := bind_some hm
                refine WO_call0 (.tuple #[.int .u64 y_8, .int .i64 y_9]) rfl rfl trivial rfl rfl rfl rfl St_closed ⟨15, #[], #[], rfl, callable_15, fun w hw => ⟨_, hw.sat, descriptor_Describe_walk h_p0_3 h_p1 hc24⟩⟩ ?_
                refine WO_pure tbok 5 [(3, .pointer (some ⟨b3, 0, none⟩)), (5, .pointer (some ⟨b4, 0, none⟩)), (6, .bool false), (7, .slice a10 ((y_3).length) c11), (8, .int .i64 y_9), (9, .int .u64 y_8)] rfl ⟨rfl, rfl, rfl, rfl, rfl, rfl, trivial⟩ ?_
                refine WO_end ?_
                refine WK_seq ?_
                refine WK_draw 17 [0, 2, 3, 4, 5, 6, 7, 8, 9, 10, 1, 11, 12, 13, 14, 15, 16] follows_ok (by kernel_rfl) St_closed ?_
                refine WO_loadB tbok 0 rfl rfl rfl rfl (fun _ h => h) rfl rfl ?_
                refine WO_pure tbok 2 [(3, .pointer (some ⟨b3, 0, none⟩)), (5, .pointer (some ⟨b4, 0, none⟩)), (6, .bool false), (8, .int .i64 y_9), (9, .int .u64 y_8), (79, .agg #[.int .i64 p0_0, .int .i64 p0_1, .int .i64 p0_2, .slice a_p0_3 p0_3.length c_p0_3]), (81, .slice a10 ((y_3).length) c11), (82, .pointer (some ⟨b4, 1, none⟩))] rfl ⟨rfl, rfl, rfl, rfl, rfl, rfl, rfl, rfl, trivial⟩ ?_
                refine WO_loadB tbok 1 rfl rfl rfl rfl (fun _ h => h) rfl rfl ?_
                refine WO_pure tbok 1 [(5, .pointer (some ⟨b4, 0, none⟩)), (6, .bool false), (8, .int .i64 y_9), (9, .int .u64 y_8), (79, .agg #[.int .i64 p0_0, .int .i64 p0_1, .int .i64 p0_2, .slice a_p0_3 p0_3.length c_p0_3]), (81, .slice a10 ((y_3).length) c11), (83, .int .i64 p2_1), (84, .pointer (some ⟨b3, 0, none⟩))] rfl ⟨rfl, rfl, rfl, rfl, rfl, rfl, rfl, rfl, trivial⟩ ?_
                refine WO_loadB tbok 0 rfl rfl rfl rfl (fun _ h => h) rfl rfl ?_
                refine WO_pure tbok 2 [(6, .bool false), (8, .int .i64 y_9), (9, .int .u64 y_8), (79, .agg #[.int .i64 p0_0, .int .i64 p0_1, .int .i64 p0_2, .slice a_p0_3 p0_3.length c_p0_3]), (81, .slice a10 ((y_3).length) c11), (83, .int .i64 p2_1), (86, .int .i64 (w64 (p0_0 - 1))), (87, .pointer (some ⟨b4, 0, none⟩))] rfl ⟨rfl, rfl, rfl, rfl, rfl, rfl, rfl, rfl, trivial⟩ ?_
                refine WO_loadB tbok 1 rfl rfl rfl rfl (fun _ h => h) rfl rfl ?_
                refine WO_pure tbok 1 [(6, .bool false), (8, .int .i64 y_9), (9, .int .u64 y_8), (79, .agg #[.int .i64 p0_0, .int .i64 p0_1, .int .i64 p0_2, .slice a_p0_3 p0_3.length c_p0_3]), (81, .slice a10 ((y_3).length) c11), (83, .int .i64 p2_1), (89, .int .i64 (w64 ((w64 (p0_0 - 1)) - p2_0)))] rfl ⟨rfl, rfl, rfl, rfl, rfl, rfl, rfl, trivial⟩ ?_
                obtain ⟨⟨y_10, y_11, y_12, y_13⟩, hc25, hm⟩ := bind_some hm
                refine WO_call1 (fiducialref13_Turn_Q (y_10, y_11, y_12, y_13)) rfl rfl St_closed rfl rfl rfl rfl ⟨26, #[], #[], rfl, callable_26, fun w hw => ⟨_, hw.sat, fiducialref13_Turn_walk h_p0_3 hc25⟩⟩ (fun v30 L29 hq => ?_)
                obtain ⟨a26, qa26, c27, rfl, hL29⟩ := hq
                obtain rfl := OwnE.qlen hL29
                refine WO.cls (C' := St w0 m m [[⟨b3, 29, [.int .i64 p0_0, .int .i64 p0_1, .int .i64 p0_2, .slice a_p0_3 p0_3.length c_p0_3]⟩], [⟨b4, 31, [.int .i64 p2_0, .int .i64 p2_1]⟩], L13, L29]) (fun _ h => h) ?_
                obtain ⟨⟨y_14, y_15⟩, hc31, hm⟩ := bind_some hm
                refine WO_call0 (.tuple #[.int .u64 y_14, .int .i64 y_15]) rfl rfl St_closed rfl rfl rfl rfl St_closed ⟨15, #[], #[], rfl, callable_15, fun w hw => ⟨_, hw.satV, descriptor_Describe_walk (OwnE.rd (E := (I1 .i64)) (k := 1) (fun _ => rfl) hL29 (fun _ hx => hw.memV (i := 3) rfl hx)) (OwnE.rd (E := T8) (k := 8) (fun _ => rfl) hL13 (fun _ hx => hw.memV (i := 2) rfl hx)) hc31⟩⟩ ?_
                refine WO_pure tbok 5 [(6, .bool false), (8, .int .i64 y_9), (9, .int .u64 y_8), (10, .int .u64 y_14), (11, .int .i64 y_15)] rfl ⟨rfl, rfl, rfl, rfl, rfl, trivial⟩ ?_
                refine WO_tail ?_
                refine WO_end ?_
                refine WK_seq ?_
                refine WK_region ?_
                refine WO_pure tbok 4 [(6, .bool false), (9, .int .u64 y_8), (10, .int .u64 y_14), (96, .bool (y_9 == y_15))] rfl ⟨rfl, rfl, rfl, rfl, trivial⟩ ?_
                refine WO_split (d := 96) (b := y_9 == y_15) rfl (fun hb32 => ?_) (fun hb32 => ?_)
                · have hm := ifT hb32 hm
                  refine WO_pure tbok 5 [(6, .bool (y_8 == y_14))] rfl ⟨rfl, trivial⟩ ?_
                  refine WO_end ?_
                  cases hm
                  exact WK_ret (ret_out (L := []) (RLc_tmp rfl RLc_nil) (List.nil_sublist _) rfl)
                · have hm := ifF hb32 hm
                  refine WO_pure tbok 5 [(6, .bool false)] rfl ⟨rfl, trivial⟩ ?_
                  refine WO_end ?_
                  cases hm
                  exact WK_ret (ret_out (L := []) (RLc_tmp rfl RLc_nil) (List.nil_sublist _) rfl)
            · refine WK_region ?_
              refine WO_loadB tbok 0 rfl rfl rfl rfl (fun _ h => h) rfl rfl ?_
              obtain ⟨y_16, hc33, hx21⟩ := bind_some hx21
              refine WO_call0 (.int .i64 y_16) rfl rfl trivial rfl rfl rfl rfl St_closed ⟨25, #[], #[], rfl, callable_25, fun w hw => ⟨_, hw.sat, fiducialref13_Check_walk h_p0_3 hc33⟩⟩ ?_
              refine WO_pure tbok 2 [(1, .slice a_p1 p1.length c_p1), (3, .pointer (some ⟨b3, 0, none⟩)), (5, .pointer (some ⟨b4, 0, none⟩)), (6, .bool false), (7, .slice a10 ((y_3).length) c11), (59, .bool (y_16 != 0))] rfl ⟨rfl, rfl, rfl, rfl, rfl, rfl, trivial⟩ ?_
              refine WO_split (d := 59) (b := y_16 != 0) rfl (fun hb34 => ?_) (fun hb34 => ?_)
              · have hx21 := ifT hb34 hx21
                refine WO_pure tbok 5 [(1, .slice a_p1 p1.length c_p1), (3, .pointer (some ⟨b3, 0, none⟩)), (5, .pointer (some ⟨b4, 0, none⟩)), (6, .bool false), (7, .slice a10 ((y_3).length) c11), (59, .bool true)] rfl ⟨rfl, rfl, rfl, rfl, rfl, rfl, trivial⟩ ?_
                refine WO_skip rfl rfl ?_
                refine WO_pure tbok 2 [(1, .slice a_p1 p1.length c_p1), (3, .pointer (some ⟨b3, 0, none⟩)), (5, .pointer (some ⟨b4, 0, none⟩)), (6, .bool false), (7, .slice a10 ((y_3).length) c11), (67, .bool true)] rfl ⟨rfl, rfl, rfl, rfl, rfl, rfl, trivial⟩ ?_
                refine WO_end ?_
                cases hx21
                refine WK.sub ?_ (WK.cls (fun _ h => h) hk22)
                exact ⟨rfl, rfl, rfl, rfl, rfl, rfl, trivial⟩
              · have hx21 := ifF hb34 hx21
                refine WO_loadB tbok 0 rfl rfl rfl rfl (fun _ h => h) rfl rfl ?_
                refine WO_pure tbok 1 [(1, .slice a_p1 p1.length c_p1), (3, .pointer (some ⟨b3, 0, none⟩)), (5, .pointer (some ⟨b4, 0, none⟩)), (6, .bool false), (7, .slice a10 ((y_3).length) c11), (59, .bool false), (60, .agg #[.int .i64 p0_0, .int .i64 p0_1, .int .i64 p0_2, .slice a_p0_3 p0_3.length c_p0_3]), (61, .pointer (some ⟨b4, 0, none⟩))] rfl ⟨rfl, rfl, rfl, rfl, rfl, rfl, rfl, rfl, trivial⟩ ?_
                refine WO_loadB tbok 1 rfl rfl rfl rfl (fun _ h => h) rfl rfl ?_
                refine WO_pure tbok 1 [(1, .slice a_p1 p1.length c_p1), (3, .pointer (some ⟨b3, 0, none⟩)), (5, .pointer (some ⟨b4, 0, none⟩)), (6, .bool false), (7, .slice a10 ((y_3).length) c11), (59, .bool false), (60, .agg #[.int .i64 p0_0, .int .i64 p0_1, .int .i64 p0_2, .slice a_p0_3 p0_3.length c_p0_3]), (62, .int .i64 p2_0), (63, .pointer (some ⟨b4, 1, none⟩))] rfl ⟨rfl, rfl, rfl, rfl, rfl, rfl, rfl, rfl, rfl, trivial⟩ ?_
                refine WO_loadB tbok 1 rfl rfl rfl rfl (fun _ h => h) rfl rfl ?_
                obtain ⟨y_17, hc35, hx21⟩ := bind_some hx21
                refine WO_call0 (.bool y_17) rfl rfl trivial rfl rfl rfl rfl St_closed ⟨17, #[], #[], rfl, callable_17, fun w hw => ⟨_, hw.sat, fiducialref13_Inside_walk h_p0_3 hc35⟩⟩ ?_
                refine WO_pure tbok 2 [(1, .slice a_p1 p1.length c_p1), (3, .pointer (some ⟨b3, 0, none⟩)), (5, .pointer (some ⟨b4, 0, none⟩)), (6, .bool false), (7, .slice a10 ((y_3).length) c11), (67, .bool (!y_17))] rfl ⟨rfl, rfl, rfl, rfl, rfl, rfl, trivial⟩ ?_
                refine WO_end ?_
                cases hx21
                refine WK.sub ?_ (WK.cls (fun _ h => h) hk22)
                exact ⟨rfl, rfl, rfl, rfl, rfl, rfl, trivial⟩
        · refine WK_region ?_
          refine WO_pure tbok 3 [(1, .slice a_p1 p1.length c_p1), (3, .pointer (some ⟨b3, 0, none⟩)), (5, .pointer (some ⟨b4, 0, none⟩)), (6, .bool false), (7, .slice a10 ((y_3).length) c11), (35, .bool (y_4 != 0))] rfl ⟨rfl, rfl, rfl, rfl, rfl, rfl, trivial⟩ ?_
          refine WO_split (d := 35) (b := y_4 != 0) rfl (fun hb36 => ?_) (fun hb36 => ?_)
          · have hx18 := ifT hb36 hx18
            refine WO_pure tbok 2 [(1, .slice a_p1 p1.length c_p1), (3, .pointer (some ⟨b3, 0, none⟩)), (5, .pointer (some ⟨b4, 0, none⟩)), (6, .bool false), (7, .slice a10 ((y_3).length) c11), (35, .bool true)] rfl ⟨rfl, rfl, rfl, rfl, rfl, rfl, trivial⟩ ?_
            refine WO_skip rfl rfl ?_
            refine WO_skip rfl rfl ?_
            refine WO_pure tbok 4 [(1, .slice a_p1 p1.length c_p1), (3, .pointer (some ⟨b3, 0, none⟩)), (5, .pointer (some ⟨b4, 0, none⟩)), (6, .bool false), (7, .slice a10 ((y_3).length) c11), (42, .bool true)] rfl ⟨rfl, rfl, rfl, rfl, rfl, rfl, trivial⟩ ?_
            refine WO_skip rfl rfl ?_
            refine WO_pure tbok 4 [(1, .slice a_p1 p1.length c_p1), (3, .pointer (some ⟨b3, 0, none⟩)), (5, .pointer (some ⟨b4, 0, none⟩)), (6, .bool false), (7, .slice a10 ((y_3).length) c11), (47, .bool true)] rfl ⟨rfl, rfl, rfl, rfl, rfl, rfl, trivial⟩ ?_
            refine WO_skip rfl rfl ?_
            refine WO_skip rfl rfl ?_
            refine WO_skip rfl rfl ?_
            refine WO_pure tbok 1 [(1, .slice a_p1 p1.length c_p1), (3, .pointer (some ⟨b3, 0, none⟩)), (5, .pointer (some ⟨b4, 0, none⟩)), (6, .bool false), (7, .slice a10 ((y_3).length) c11), (47, .bool true)] rfl ⟨rfl, rfl, rfl, rfl, rfl, rfl, trivial⟩ ?_
            refine WO_skip rfl rfl ?_
            refine WO_pure tbok 2 [(1, .slice a_p1 p1.length c_p1), (3, .pointer (some ⟨b3, 0, none⟩)), (5, .pointer (some ⟨b4, 0, none⟩)), (6, .bool false), (7, .slice a10 ((y_3).length) c11), (55, .bool true)] rfl ⟨rfl, rfl, rfl, rfl, rfl, rfl, trivial⟩ ?_
            refine WO_end ?_
            cases hx18
            refine WK.sub ?_ (WK.cls (fun _ h => h) hk19)
            exact ⟨rfl, rfl, rfl, rfl, rfl, rfl, trivial⟩
          · have hx18 := ifF hb36 hx18
            refine WO_pure tbok 2 [(1, .slice a_p1 p1.length c_p1), (3, .pointer (some ⟨b3, 0, none⟩)), (5, .pointer (some ⟨b4, 0, none⟩)), (6, .bool false), (7, .slice a10 ((y_3).length) c11), (35, .bool false), (36, .slice a10 ((y_3).length) c11), (37, .slice a_p1 p1.length c_p1)] rfl ⟨rfl, rfl, rfl, rfl, rfl, rfl, rfl, rfl, trivial⟩ ?_
            obtain ⟨y_18, hc37, hx18⟩ := bind_some hx18
            refine WO_call1 (fiduciallaw21_turned_Q y_18) rfl rfl trivial rfl rfl rfl rfl ⟨24, #[], #[], rfl, callable_24, fun w hw => ⟨_, hw.sat, fiduciallaw21_turned_walk h_p1 hc37⟩⟩ (fun v42 L41 hq => ?_)
            obtain ⟨a38, qa38, c39, rfl, hL41⟩ := hq
            obtain rfl := OwnE.qlen hL41
            refine WO.cls (C' := St w0 m m [[⟨b3, 29, [.int .i64 p0_0, .int .i64 p0_1, .int .i64 p0_2, .slice a_p0_3 p0_3.length c_p0_3]⟩], [⟨b4, 31, [.int .i64 p2_0, .int .i64 p2_1]⟩], L13, L41]) (fun _ h => h) ?_
            obtain ⟨y_19, hc43, hx18⟩ := bind_some hx18
            refine WO_call0 (.bool y_19) rfl rfl trivial rfl rfl rfl rfl St_closed ⟨23, #[], #[], rfl, callable_23, fun w hw => ⟨_, hw.satV, slices_Equal_sdescriptor_Test_walk (OwnE.rd (E := T8) (k := 8) (fun _ => rfl) hL13 (fun _ hx => hw.memV (i := 2) rfl hx)) (OwnE.rd (E := T8) (k := 8) (fun _ => rfl) hL41 (fun _ hx => hw.memV (i := 3) rfl hx)) hc43⟩⟩ ?_
            refine WO_pure tbok 3 [(1, .slice a_p1 p1.length c_p1), (3, .pointer (some ⟨b3, 0, none⟩)), (5, .pointer (some ⟨b4, 0, none⟩)), (6, .bool false), (7, .slice a10 ((y_3).length) c11), (42, .bool (!y_19))] rfl ⟨rfl, rfl, rfl, rfl, rfl, rfl, trivial⟩ ?_
            refine WO_split (d := 42) (b := !y_19) rfl (fun hb44 => ?_) (fun hb44 => ?_)
            · have hx18 := ifT hb44 hx18
              refine WO_pure tbok 1 [(1, .slice a_p1 p1.length c_p1), (3, .pointer (some ⟨b3, 0, none⟩)), (5, .pointer (some ⟨b4, 0, none⟩)), (6, .bool false), (7, .slice a10 ((y_3).length) c11), (42, .bool true)] rfl ⟨rfl, rfl, rfl, rfl, rfl, rfl, trivial⟩ ?_
              refine WO_skip rfl rfl ?_
              refine WO_pure tbok 4 [(1, .slice a_p1 p1.length c_p1), (3, .pointer (some ⟨b3, 0, none⟩)), (5, .pointer (some ⟨b4, 0, none⟩)), (6, .bool false), (7, .slice a10 ((y_3).length) c11), (47, .bool true)] rfl ⟨rfl, rfl, rfl, rfl, rfl, rfl, trivial⟩ ?_
              refine WO_skip rfl rfl ?_
              refine WO_skip rfl rfl ?_
              refine WO_skip rfl rfl ?_
              refine WO_pure tbok 1 [(1, .slice a_p1 p1.length c_p1), (3, .pointer (some ⟨b3, 0, none⟩)), (5, .pointer (some ⟨b4, 0, none⟩)), (6, .bool false), (7, .slice a10 ((y_3).length) c11), (47, .bool true)] rfl ⟨rfl, rfl, rfl, rfl, rfl, rfl, trivial⟩ ?_
              refine WO_skip rfl rfl ?_
              refine WO_pure tbok 2 [(1, .slice a_p1 p1.length c_p1), (3, .pointer (some ⟨b3, 0, none⟩)), (5, .pointer (some ⟨b4, 0, none⟩)), (6, .bool false), (7, .slice a10 ((y_3).length) c11), (55, .bool true)] rfl ⟨rfl, rfl, rfl, rfl, rfl, rfl, trivial⟩ ?_
              refine WO_end ?_
              cases hx18
              refine WK.sub ?_ (WK.cls (fun _ h => St.take 3 h) hk19)
              exact ⟨rfl, rfl, rfl, rfl, rfl, rfl, trivial⟩
            · have hx18 := ifF hb44 hx18
              refine WO_pure tbok 1 [(1, .slice a_p1 p1.length c_p1), (3, .pointer (some ⟨b3, 0, none⟩)), (5, .pointer (some ⟨b4, 0, none⟩)), (6, .bool false), (7, .slice a10 ((y_3).length) c11), (42, .bool false), (43, .slice a10 ((y_3).length) c11)] rfl ⟨rfl, rfl, rfl, rfl, rfl, rfl, rfl, trivial⟩ ?_
              obtain ⟨y_20, hc45, hx18⟩ := bind_some hx18
              refine WO_call0 (.bool y_20) rfl rfl trivial rfl rfl rfl rfl St_closed ⟨20, #[], #[], rfl, callable_20, fun w hw => ⟨_, hw.satV, fiduciallaw21_pattern_walk (OwnE.rd (E := T8) (k := 8) (fun _ => rfl) hL13 (fun _ hx => hw.memV (i := 2) rfl hx)) hc45⟩⟩ ?_
              refine WO_pure tbok 3 [(1, .slice a_p1 p1.length c_p1), (3, .pointer (some ⟨b3, 0, none⟩)), (5, .pointer (some ⟨b4, 0, none⟩)), (6, .bool false), (7, .slice a10 ((y_3).length) c11), (47, .bool (!y_20))] rfl ⟨rfl, rfl, rfl, rfl, rfl, rfl, trivial⟩ ?_
              refine WO_split (d := 47) (b := !y_20) rfl (fun hb46 => ?_) (fun hb46 => ?_)
              · have hx18 := ifT hb46 hx18
                refine WO_pure tbok 1 [(1, .slice a_p1 p1.length c_p1), (3, .pointer (some ⟨b3, 0, none⟩)), (5, .pointer (some ⟨b4, 0, none⟩)), (6, .bool false), (7, .slice a10 ((y_3).length) c11), (47, .bool true)] rfl ⟨rfl, rfl, rfl, rfl, rfl, rfl, trivial⟩ ?_
                refine WO_skip rfl rfl ?_
                refine WO_skip rfl rfl ?_
                refine WO_skip rfl rfl ?_
                refine WO_pure tbok 1 [(1, .slice a_p1 p1.length c_p1), (3, .pointer (some ⟨b3, 0, none⟩)), (5, .pointer (some ⟨b4, 0, none⟩)), (6, .bool false), (7, .slice a10 ((y_3).length) c11), (47, .bool true)] rfl ⟨rfl, rfl, rfl, rfl, rfl, rfl, trivial⟩ ?_
                refine WO_skip rfl rfl ?_
                refine WO_pure tbok 2 [(1, .slice a_p1 p1.length c_p1), (3, .pointer (some ⟨b3, 0, none⟩)), (5, .pointer (some ⟨b4, 0, none⟩)), (6, .bool false), (7, .slice a10 ((y_3).length) c11), (55, .bool true)] rfl ⟨rfl, rfl, rfl, rfl, rfl, rfl, trivial⟩ ?_
                refine WO_end ?_
                cases hx18
                refine WK.sub ?_ (WK.cls (fun _ h => St.take 3 h) hk19)
                exact ⟨rfl, rfl, rfl, rfl, rfl, rfl, trivial⟩
              · have hx18 := ifF hb46 hx18
                refine WO_pure tbok 1 [(1, .slice a_p1 p1.length c_p1), (3, .pointer (some ⟨b3, 0, none⟩)), (5, .pointer (some ⟨b4, 0, none⟩)), (6, .bool false), (7, .slice a10 ((y_3).length) c11), (47, .bool false), (48, .slice a10 ((y_3).length) c11)] rfl ⟨rfl, rfl, rfl, rfl, rfl, rfl, rfl, trivial⟩ ?_
                obtain ⟨y_21, hc47, hx18⟩ := bind_some hx18
                refine WO_call1 (fiduciallaw21_turned_Q y_21) rfl rfl trivial rfl rfl rfl rfl ⟨24, #[], #[], rfl, callable_24, fun w hw => ⟨_, hw.satV, fiduciallaw21_turned_walk (OwnE.rd (E := T8) (k := 8) (fun _ => rfl) hL13 (fun _ hx => hw.memV (i := 2) rfl hx)) hc47⟩⟩ (fun v52 L51 hq => ?_)
                obtain ⟨a48, qa48, c49, rfl, hL51⟩ := hq
                obtain rfl := OwnE.qlen hL51
                refine WO.cls (C' := St w0 m m [[⟨b3, 29, [.int .i64 p0_0, .int .i64 p0_1, .int .i64 p0_2, .slice a_p0_3 p0_3.length c_p0_3]⟩], [⟨b4, 31, [.int .i64 p2_0, .int .i64 p2_1]⟩], L13, L41, L51]) (fun _ h => h) ?_
                obtain ⟨y_22, hc53, hx18⟩ := bind_some hx18
                refine WO_call1 (fiduciallaw21_turned_Q y_22) rfl rfl trivial rfl rfl rfl rfl ⟨24, #[], #[], rfl, callable_24, fun w hw => ⟨_, hw.satV, fiduciallaw21_turned_walk (OwnE.rd (E := T8) (k := 8) (fun _ => rfl) hL51 (fun _ hx => hw.memV (i := 4) rfl hx)) hc53⟩⟩ (fun v58 L57 hq => ?_)
                obtain ⟨a54, qa54, c55, rfl, hL57⟩ := hq
                obtain rfl := OwnE.qlen hL57
                refine WO.cls (C' := St w0 m m [[⟨b3, 29, [.int .i64 p0_0, .int .i64 p0_1, .int .i64 p0_2, .slice a_p0_3 p0_3.length c_p0_3]⟩], [⟨b4, 31, [.int .i64 p2_0, .int .i64 p2_1]⟩], L13, L41, L51, L57]) (fun _ h => h) ?_
                obtain ⟨y_23, hc59, hx18⟩ := bind_some hx18
                refine WO_call1 (fiduciallaw21_turned_Q y_23) rfl rfl trivial rfl rfl rfl rfl ⟨24, #[], #[], rfl, callable_24, fun w hw => ⟨_, hw.satV, fiduciallaw21_turned_walk (OwnE.rd (E := T8) (k := 8) (fun _ => rfl) hL57 (fun _ hx => hw.memV (i := 5) rfl hx)) hc59⟩⟩ (fun v64 L63 hq => ?_)
                obtain ⟨a60, qa60, c61, rfl, hL63⟩ := hq
                obtain rfl := OwnE.qlen hL63
                refine WO.cls (C' := St w0 m m [[⟨b3, 29, [.int .i64 p0_0, .int .i64 p0_1, .int .i64 p0_2, .slice a_p0_3 p0_3.length c_p0_3]⟩], [⟨b4, 31, [.int .i64 p2_0, .int .i64 p2_1]⟩], L13, L41, L51, L57, L63]) (fun _ h => h) ?_
                refine WO_pure tbok 1 [(1, .slice a_p1 p1.length c_p1), (3, .pointer (some ⟨b3, 0, none⟩)), (5, .pointer (some ⟨b4, 0, none⟩)), (6, .bool false), (7, .slice a10 ((y_3).length) c11), (47, .bool false), (51, .slice a60 ((y_23).length) c61), (52, .slice a_p1 p1.length c_p1)] rfl ⟨rfl, rfl, rfl, rfl, rfl, rfl, rfl, rfl, trivial⟩ ?_
                obtain ⟨y_24, hc65, hx18⟩ := bind_some hx18
                refine WO_call0 (.bool y_24) rfl rfl trivial rfl rfl rfl rfl St_closed ⟨23, #[], #[], rfl, callable_23, fun w hw => ⟨_, hw.satV, slices_Equal_sdescriptor_Test_walk (OwnE.rd (E := T8) (k := 8) (fun _ => rfl) hL63 (fun _ hx => hw.memV (i := 6) rfl hx)) (h_p1.mono (mono_FE _) hw.leV) hc65⟩⟩ ?_
                refine WO_pure tbok 2 [(1, .slice a_p1 p1.length c_p1), (3, .pointer (some ⟨b3, 0, none⟩)), (5, .pointer (some ⟨b4, 0, none⟩)), (6, .bool false), (7, .slice a10 ((y_3).length) c11), (55, .bool (!y_24))] rfl ⟨rfl, rfl, rfl, rfl, rfl, rfl, trivial⟩ ?_
                refine WO_end ?_
                cases hx18
                refine WK.sub ?_ (WK.cls (fun _ h => St.take 3 h) hk19)
                exact ⟨rfl, rfl, rfl, rfl, rfl, rfl, trivial⟩
end Go.Proofs.Ytdgmeplpkehdnaa
