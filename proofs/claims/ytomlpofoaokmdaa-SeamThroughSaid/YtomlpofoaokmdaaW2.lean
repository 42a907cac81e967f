import Derived.Test.YtomlpofoaokmdaaTab
import Derived.Test.YtomlpofoaokmdaaM
import Derived.Test.YtomlpofoaokmdaaW1
set_option linter.unusedVariables false
set_option maxRecDepth 100000
set_option maxHeartbeats 4000000
namespace Go.Proofs.Ytomlpofoaokmdaa
open Go.E Go.RowKit
attribute [local irreducible] Go.E.WO Go.E.WK
theorem seam_total_walk {m : Mu} {p0 : List (List Int)} {p1 : List Int} {a_p0 : Option Addr} {q_p0 c_p0 : Nat} {a_p1 : Option Addr} {q_p1 c_p1 : Nat} (h_p0 : SlR (RowE (FE (I1 .i64)) 1) 1 m (.slice a_p0 q_p0 c_p0) p0) (h_p1 : SlR (FE (I1 .i64)) 1 m (.slice a_p1 q_p1 c_p1) p1) {r : Int × Bool} (hm : seam_total p0 p1 = some r) :
    Go.E.Spec Try.prog 39 [.slice a_p0 q_p0 c_p0, .slice a_p1 q_p1 c_p1] m (fun v _ _ => v = .tuple #[.int .i64 r.1, .bool r.2]) := by
  refine Spec_enter Try.func39 rfl rfl rfl (fun w0 => ?_)
  refine WK.sub (e' := [(0, .slice a_p0 q_p0 c_p0), (1, .slice a_p1 q_p1 c_p1)]) ⟨rfl, rfl, trivial⟩ ?_
  obtain rfl := SlR.qlen h_p0
  obtain rfl := SlR.qlen h_p1
  refine WK.sub (e' := [(0, .slice a_p0 p0.length c_p0), (1, .slice a_p1 p1.length c_p1)]) ⟨rfl, rfl, trivial⟩ ?_
  unfold seam_total at hm
  refine WK_seq ?_
  refine WK_region ?_
  refine WO_pure tbok 2 [(0, .slice a_p0 p0.length c_p0), (1, .slice a_p1 p1.length c_p1), (4, .int .i64 0), (5, .bool false)] rfl ⟨rfl, rfl, rfl, rfl, trivial⟩ ?_
  refine WO_end ?_
  refine WK_seq ?_
  refine WK_seq ?_
  refine WK_region ?_
  refine WO_pure tbok 5 [(0, .slice a_p0 p0.length c_p0), (1, .slice a_p1 p1.length c_p1), (4, .int .i64 0), (5, .bool false), (13, .bool ((p1.length : Int) != (p0.length : Int)))] rfl ⟨rfl, rfl, rfl, rfl, rfl, trivial⟩ ?_
  refine WO_end ?_
  refine WK_cond (b := (p1.length : Int) != (p0.length : Int)) rfl (fun hb3 => ?_) (fun hb3 => ?_)
  · have hm := ifT hb3 hm
    refine WK_seq ?_
    refine WK_region ?_
    refine WO_pure tbok 2 [(0, .slice a_p0 p0.length c_p0), (1, .slice a_p1 p1.length c_p1), (4, .int .i64 0), (5, .bool false)] rfl ⟨rfl, rfl, rfl, rfl, trivial⟩ ?_
    refine WO_end ?_
    cases hm
    exact WK_ret (ret_out (L := []) (RLc_tmp rfl (RLc_tmp rfl RLc_nil)) (List.nil_sublist _) rfl)
  · have hm := ifF hb3 hm
    refine WK_skip ?_
    refine WK_seq ?_
    refine WK_region ?_
    refine WO_pure tbok 1 [(0, .slice a_p0 p0.length c_p0), (1, .slice a_p1 p1.length c_p1), (4, .int .i64 0), (5, .bool false), (6, .int .i64 0)] rfl ⟨rfl, rfl, rfl, rfl, rfl, trivial⟩ ?_
    refine WO_end ?_
    refine WK_seq ?_
    refine WK_seq ?_
    refine WK_region ?_
    refine WO_pure tbok 3 [(0, .slice a_p0 p0.length c_p0), (1, .slice a_p1 p1.length c_p1), (4, .int .i64 0), (5, .bool false), (6, .int .i64 0), (14, .slice a_p1 p1.length c_p1), (15, .int .i64 (p1.length : Int)), (16, .int .i64 0)] rfl ⟨rfl, rfl, rfl, rfl, rfl, rfl, rfl, rfl, trivial⟩ ?_
    refine WO_end ?_
    obtain ⟨x4, hx5, hm⟩ := bind_some hm
    refine WK_join (β := Int × Unit) (fun p => Sum.inr p.1 = x4) (fun p => [(4, .int .i64 0), (5, .bool false), (6, .int .i64 p.1)]) (fun p => St w0 m m []) ?_ (fun hk6 => ?_)
    · rintro ⟨s_3, ⟨⟩⟩ hq12
      subst hq12
      refine WK.sub (e' := [(4, .int .i64 0), (5, .bool false), (6, .int .i64 s_3)]) ⟨rfl, rfl, rfl, trivial⟩ (WK.cls (C' := St w0 m m []) (fun _ h => h) ?_)
      refine WK_seq ?_
      refine WK_region ?_
      refine WO_pure tbok 3 [(4, .int .i64 s_3), (5, .bool true)] rfl ⟨rfl, rfl, trivial⟩ ?_
      refine WO_end ?_
      cases hm
      exact WK_ret (ret_out (L := []) (RLc_tmp rfl (RLc_tmp rfl RLc_nil)) (List.nil_sublist _) rfl)
    · refine WK_block ?_
      refine WK_loop (S := Int × Int) (G := Unit) (fun s => seam_total_s1 p0 p1 s.1 s.2) (fun s g => [(0, .slice a_p0 p0.length c_p0), (1, .slice a_p1 p1.length c_p1), (4, .int .i64 0), (5, .bool false), (6, .int .i64 s.1), (14, .slice a_p1 p1.length c_p1), (15, .int .i64 (p1.length : Int)), (16, .int .i64 s.2)]) (fun s g => St w0 m m []) (fun s g => True) FUEL (0, 0) () x4 hx5 trivial ⟨rfl, rfl, rfl, rfl, rfl, rfl, rfl, rfl, trivial⟩ (fun _ h => h) ?_
      rintro ⟨s_1, s_2⟩ ⟨⟩ o8 fl9 hm7 - hn10 hd11
      have hm7 : seam_total_s1 p0 p1 s_1 s_2 = some o8 := hm7
      unfold seam_total_s1 at hm7
      refine WK.sub (e' := [(0, .slice a_p0 p0.length c_p0), (1, .slice a_p1 p1.length c_p1), (4, .int .i64 0), (5, .bool false), (6, .int .i64 s_1), (14, .slice a_p1 p1.length c_p1), (15, .int .i64 (p1.length : Int)), (16, .int .i64 s_2)]) ⟨rfl, rfl, rfl, rfl, rfl, rfl, rfl, rfl, trivial⟩ (WK.cls (C' := St w0 m m []) (fun _ h => h) ?_)
      refine WK_seq ?_
      refine WK_region ?_
      refine WO_pure tbok 1 [(0, .slice a_p0 p0.length c_p0), (1, .slice a_p1 p1.length c_p1), (4, .int .i64 0), (5, .bool false), (6, .int .i64 s_1), (14, .slice a_p1 p1.length c_p1), (15, .int .i64 (p1.length : Int)), (16, .int .i64 s_2), (17, .bool (decide (s_2 < (p1.length : Int))))] rfl ⟨rfl, rfl, rfl, rfl, rfl, rfl, rfl, rfl, rfl, trivial⟩ ?_
      refine WO_end ?_
      refine WK_seq ?_
      refine WK_cond (b := decide (s_2 < (p1.length : Int))) rfl (fun hb13 => ?_) (fun hb13 => ?_)
      · have hm7 := ifT hb13 hm7
        refine WK_skip ?_
        refine WK_seq ?_
        refine WK_block ?_
        refine WK_seq ?_
        refine WK_region ?_
        refine WO_pure tbok 1 [(0, .slice a_p0 p0.length c_p0), (1, .slice a_p1 p1.length c_p1), (4, .int .i64 0), (5, .bool false), (6, .int .i64 s_1), (14, .slice a_p1 p1.length c_p1), (15, .int .i64 (p1.length : Int)), (16, .int .i64 s_2), (18, .int .i64 s_2)] rfl ⟨rfl, rfl, rfl, rfl, rfl, rfl, rfl, rfl, rfl, trivial⟩ ?_
        obtain ⟨v_4, hy14, hm7⟩ := bind_some hm7
        obtain ⟨hc15, hy14⟩ := ix_some hy14
        refine WO_index tbok rfl rfl rfl rfl rfl rfl rfl rfl (SlR.addr h_p1) hc15 ?_
        refine WO_loadE tbok rfl rfl rfl rfl (fun _ h => St.sat h) h_p1 hy14 rfl ?_
        refine WO_pure tbok 2 [(0, .slice a_p0 p0.length c_p0), (1, .slice a_p1 p1.length c_p1), (4, .int .i64 0), (5, .bool false), (6, .int .i64 s_1), (7, .int .i64 s_2), (8, .int .i64 v_4), (14, .slice a_p1 p1.length c_p1), (15, .int .i64 (p1.length : Int)), (16, .int .i64 s_2)] rfl ⟨rfl, rfl, rfl, rfl, rfl, rfl, rfl, rfl, rfl, rfl, trivial⟩ ?_
        refine WO_end ?_
        refine WK_seq ?_
        refine WK_seq ?_
        obtain ⟨s_5, hx16, hm7⟩ := bind_some hm7
        refine WK_meet [(0, .slice a_p0 p0.length c_p0), (1, .slice a_p1 p1.length c_p1), (4, .int .i64 0), (5, .bool false), (6, .int .i64 s_1), (7, .int .i64 s_2), (8, .int .i64 v_4), (14, .slice a_p1 p1.length c_p1), (15, .int .i64 (p1.length : Int)), (16, .int .i64 s_2), (55, .bool s_5)] (St w0 m m []) ?_ (fun hk17 => ?_)
        · refine WK_cond (b := s_5) rfl (fun hb18 => ?_) (fun hb18 => ?_)
          · have hm7 := ifT hb18 hm7
            refine WK_seq ?_
            refine WK_region ?_
            refine WO_pure tbok 2 [(0, .slice a_p0 p0.length c_p0), (1, .slice a_p1 p1.length c_p1), (4, .int .i64 0), (5, .bool false), (6, .int .i64 s_1), (7, .int .i64 s_2), (8, .int .i64 v_4), (14, .slice a_p1 p1.length c_p1), (15, .int .i64 (p1.length : Int)), (16, .int .i64 s_2)] rfl ⟨rfl, rfl, rfl, rfl, rfl, rfl, rfl, rfl, rfl, rfl, trivial⟩ ?_
            refine WO_end ?_
            cases hm7
            have hq := hd11 _ rfl
            subst hq
            have hm : some _ = some _ := hm
            cases hm
            exact WK_ret (ret_out (L := []) (RLc_tmp rfl (RLc_tmp rfl RLc_nil)) (List.nil_sublist _) rfl)
          · have hm7 := ifF hb18 hm7
            refine WK_skip ?_
            refine WK_region ?_
            refine WO_pure tbok 3 [(0, .slice a_p0 p0.length c_p0), (1, .slice a_p1 p1.length c_p1), (4, .int .i64 0), (5, .bool false), (6, .int .i64 s_1), (8, .int .i64 v_4), (14, .slice a_p1 p1.length c_p1), (15, .int .i64 (p1.length : Int)), (16, .int .i64 s_2), (56, .int .i64 s_1), (57, .slice a_p0 p0.length c_p0), (58, .int .i64 s_2)] rfl ⟨rfl, rfl, rfl, rfl, rfl, rfl, rfl, rfl, rfl, rfl, rfl, rfl, trivial⟩ ?_
            obtain ⟨v_6, hy19, hm7⟩ := bind_some hm7
            obtain ⟨hc20, hy19⟩ := ix_some hy19
            refine WO_index tbok rfl rfl rfl rfl rfl rfl rfl rfl (SlR.addr h_p0) hc20 ?_
            refine WO_loadR tbok rfl rfl rfl rfl (fun _ h => St.sat h) h_p0 hy19 rfl rfl (fun a21 c22 h23 => ?_)
            refine WO_pure tbok 1 [(0, .slice a_p0 p0.length c_p0), (1, .slice a_p1 p1.length c_p1), (4, .int .i64 0), (5, .bool false), (6, .int .i64 s_1), (14, .slice a_p1 p1.length c_p1), (15, .int .i64 (p1.length : Int)), (16, .int .i64 s_2), (56, .int .i64 s_1), (60, .slice a21 ((v_6).length) c22), (61, .int .i64 v_4)] rfl ⟨rfl, rfl, rfl, rfl, rfl, rfl, rfl, rfl, rfl, rfl, rfl, trivial⟩ ?_
            obtain ⟨v_7, hy25, hm7⟩ := bind_some hm7
            obtain ⟨hc26, hy25⟩ := ix_some hy25
            refine WO_index tbok rfl rfl rfl rfl rfl rfl rfl rfl (SlR.addr h23) hc26 ?_
            refine WO_loadE tbok rfl rfl rfl rfl (fun _ h => St.sat h) h23 hy25 rfl ?_
            refine WO_pure tbok 2 [(0, .slice a_p0 p0.length c_p0), (1, .slice a_p1 p1.length c_p1), (4, .int .i64 0), (5, .bool false), (6, .int .i64 (w64 (s_1 + v_7))), (14, .slice a_p1 p1.length c_p1), (15, .int .i64 (p1.length : Int)), (16, .int .i64 s_2)] rfl ⟨rfl, rfl, rfl, rfl, rfl, rfl, rfl, rfl, trivial⟩ ?_
            refine WO_end ?_
            refine WK_blk ?_
            refine WK_region ?_
            refine WO_pure tbok 2 [(0, .slice a_p0 p0.length c_p0), (1, .slice a_p1 p1.length c_p1), (4, .int .i64 0), (5, .bool false), (6, .int .i64 (w64 (s_1 + v_7))), (14, .slice a_p1 p1.length c_p1), (15, .int .i64 (p1.length : Int)), (16, .int .i64 (w64 (s_2 + 1)))] rfl ⟨rfl, rfl, rfl, rfl, rfl, rfl, rfl, rfl, trivial⟩ ?_
            refine WO_end ?_
            cases hm7
            refine WK.sub ?_ (WK.cls (fun _ h => h) (hn10 _ () rfl trivial))
            exact ⟨rfl, rfl, rfl, rfl, rfl, rfl, rfl, rfl, trivial⟩
        · refine WK_region ?_
          refine WO_pure tbok 3 [(0, .slice a_p0 p0.length c_p0), (1, .slice a_p1 p1.length c_p1), (4, .int .i64 0), (5, .bool false), (6, .int .i64 s_1), (7, .int .i64 s_2), (8, .int .i64 v_4), (14, .slice a_p1 p1.length c_p1), (15, .int .i64 (p1.length : Int)), (16, .int .i64 s_2), (23, .bool (decide (v_4 < 0)))] rfl ⟨rfl, rfl, rfl, rfl, rfl, rfl, rfl, rfl, rfl, rfl, rfl, trivial⟩ ?_
          refine WO_split (d := 23) (b := decide (v_4 < 0)) rfl (fun hb27 => ?_) (fun hb27 => ?_)
          · have hx16 := ifT hb27 hx16
            refine WO_pure tbok 32 [(0, .slice a_p0 p0.length c_p0), (1, .slice a_p1 p1.length c_p1), (4, .int .i64 0), (5, .bool false), (6, .int .i64 s_1), (7, .int .i64 s_2), (8, .int .i64 v_4), (14, .slice a_p1 p1.length c_p1), (15, .int .i64 (p1.length : Int)), (16, .int .i64 s_2), (55, .bool true)] rfl ⟨rfl, rfl, rfl, rfl, rfl, rfl, rfl, rfl, rfl, rfl, rfl, trivial⟩ ?_
            refine WO_end ?_
            cases hx16
            refine WK.sub ?_ (WK.cls (fun _ h => h) hk17)
            exact ⟨rfl, rfl, rfl, rfl, rfl, rfl, rfl, rfl, rfl, rfl, rfl, trivial⟩
          · have hx16 := ifF hb27 hx16
            refine WO_pure tbok 3 [(0, .slice a_p0 p0.length c_p0), (1, .slice a_p1 p1.length c_p1), (4, .int .i64 0), (5, .bool false), (6, .int .i64 s_1), (7, .int .i64 s_2), (8, .int .i64 v_4), (14, .slice a_p1 p1.length c_p1), (15, .int .i64 (p1.length : Int)), (16, .int .i64 s_2), (23, .bool false), (24, .int .i64 v_4), (25, .slice a_p0 p0.length c_p0), (26, .int .i64 s_2)] rfl ⟨rfl, rfl, rfl, rfl, rfl, rfl, rfl, rfl, rfl, rfl, rfl, rfl, rfl, rfl, trivial⟩ ?_
            obtain ⟨v_8, hy28, hx16⟩ := bind_some hx16
            obtain ⟨hc29, hy28⟩ := ix_some hy28
            refine WO_index tbok rfl rfl rfl rfl rfl rfl rfl rfl (SlR.addr h_p0) hc29 ?_
            refine WO_loadR tbok rfl rfl rfl rfl (fun _ h => St.sat h) h_p0 hy28 rfl rfl (fun a30 c31 h32 => ?_)
            refine WO_pure tbok 4 [(0, .slice a_p0 p0.length c_p0), (1, .slice a_p1 p1.length c_p1), (4, .int .i64 0), (5, .bool false), (6, .int .i64 s_1), (7, .int .i64 s_2), (8, .int .i64 v_4), (14, .slice a_p1 p1.length c_p1), (15, .int .i64 (p1.length : Int)), (16, .int .i64 s_2), (32, .bool (decide (((v_8).length : Int) ≤ v_4)))] rfl ⟨rfl, rfl, rfl, rfl, rfl, rfl, rfl, rfl, rfl, rfl, rfl, trivial⟩ ?_
            refine WO_split (d := 32) (b := decide (((v_8).length : Int) ≤ v_4)) rfl (fun hb34 => ?_) (fun hb34 => ?_)
            · have hx16 := ifT hb34 hx16
              refine WO_pure tbok 23 [(0, .slice a_p0 p0.length c_p0), (1, .slice a_p1 p1.length c_p1), (4, .int .i64 0), (5, .bool false), (6, .int .i64 s_1), (7, .int .i64 s_2), (8, .int .i64 v_4), (14, .slice a_p1 p1.length c_p1), (15, .int .i64 (p1.length : Int)), (16, .int .i64 s_2), (55, .bool true)] rfl ⟨rfl, rfl, rfl, rfl, rfl, rfl, rfl, rfl, rfl, rfl, rfl, trivial⟩ ?_
              refine WO_end ?_
              cases hx16
              refine WK.sub ?_ (WK.cls (fun _ h => h) hk17)
              exact ⟨rfl, rfl, rfl, rfl, rfl, rfl, rfl, rfl, rfl, rfl, rfl, trivial⟩
            · have hx16 := ifF hb34 hx16
              refine WO_pure tbok 3 [(0, .slice a_p0 p0.length c_p0), (1, .slice a_p1 p1.length c_p1), (4, .int .i64 0), (5, .bool false), (6, .int .i64 s_1), (7, .int .i64 s_2), (8, .int .i64 v_4), (14, .slice a_p1 p1.length c_p1), (15, .int .i64 (p1.length : Int)), (16, .int .i64 s_2), (32, .bool false), (35, .bool (decide (0 < s_2)))] rfl ⟨rfl, rfl, rfl, rfl, rfl, rfl, rfl, rfl, rfl, rfl, rfl, rfl, trivial⟩ ?_
              refine WO_split (d := 35) (b := decide (0 < s_2)) rfl (fun hb35 => ?_) (fun hb35 => ?_)
              · have hx16 := ifT hb35 hx16
                refine WO_pure tbok 4 [(0, .slice a_p0 p0.length c_p0), (1, .slice a_p1 p1.length c_p1), (4, .int .i64 0), (5, .bool false), (6, .int .i64 s_1), (7, .int .i64 s_2), (8, .int .i64 v_4), (14, .slice a_p1 p1.length c_p1), (15, .int .i64 (p1.length : Int)), (16, .int .i64 s_2), (32, .bool false), (35, .bool true), (36, .int .i64 v_4), (37, .slice a_p1 p1.length c_p1), (39, .int .i64 (w64 (s_2 - 1)))] rfl ⟨rfl, rfl, rfl, rfl, rfl, rfl, rfl, rfl, rfl, rfl, rfl, rfl, rfl, rfl, rfl, trivial⟩ ?_
                obtain ⟨v_9, hy36, hx16⟩ := bind_some hx16
                obtain ⟨hc37, hy36⟩ := ix_some hy36
                refine WO_index tbok rfl rfl rfl rfl rfl rfl rfl rfl (SlR.addr h_p1) hc37 ?_
                refine WO_loadE tbok rfl rfl rfl rfl (fun _ h => St.sat h) h_p1 hy36 rfl ?_
                refine WO_pure tbok 3 [(0, .slice a_p0 p0.length c_p0), (1, .slice a_p1 p1.length c_p1), (4, .int .i64 0), (5, .bool false), (6, .int .i64 s_1), (7, .int .i64 s_2), (8, .int .i64 v_4), (14, .slice a_p1 p1.length c_p1), (15, .int .i64 (p1.length : Int)), (16, .int .i64 s_2), (32, .bool false), (35, .bool true), (44, .bool (decide (v_4 < (w64 (v_9 - 1)))))] rfl ⟨rfl, rfl, rfl, rfl, rfl, rfl, rfl, rfl, rfl, rfl, rfl, rfl, rfl, trivial⟩ ?_
                refine WO_split (d := 44) (b := decide (v_4 < (w64 (v_9 - 1)))) rfl (fun hb38 => ?_) (fun hb38 => ?_)
                · have hx16 := ifT hb38 hx16
                  refine WO_pure tbok 11 [(0, .slice a_p0 p0.length c_p0), (1, .slice a_p1 p1.length c_p1), (4, .int .i64 0), (5, .bool false), (6, .int .i64 s_1), (7, .int .i64 s_2), (8, .int .i64 v_4), (14, .slice a_p1 p1.length c_p1), (15, .int .i64 (p1.length : Int)), (16, .int .i64 s_2), (55, .bool true)] rfl ⟨rfl, rfl, rfl, rfl, rfl, rfl, rfl, rfl, rfl, rfl, rfl, trivial⟩ ?_
                  refine WO_end ?_
                  cases hx16
                  refine WK.sub ?_ (WK.cls (fun _ h => h) hk17)
                  exact ⟨rfl, rfl, rfl, rfl, rfl, rfl, rfl, rfl, rfl, rfl, rfl, trivial⟩
                · have hx16 := ifF hb38 hx16
                  refine WO_pure tbok 4 [(0, .slice a_p0 p0.length c_p0), (1, .slice a_p1 p1.length c_p1), (4, .int .i64 0), (5, .bool false), (6, .int .i64 s_1), (7, .int .i64 s_2), (8, .int .i64 v_4), (14, .slice a_p1 p1.length c_p1), (15, .int .i64 (p1.length : Int)), (16, .int .i64 s_2), (32, .bool false), (35, .bool true), (44, .bool false), (45, .int .i64 v_4), (46, .slice a_p1 p1.length c_p1), (48, .int .i64 (w64 (s_2 - 1)))] rfl ⟨rfl, rfl, rfl, rfl, rfl, rfl, rfl, rfl, rfl, rfl, rfl, rfl, rfl, rfl, rfl, rfl, trivial⟩ ?_
                  obtain ⟨v_10, hy39, hx16⟩ := bind_some hx16
                  obtain ⟨hc40, hy39⟩ := ix_some hy39
                  refine WO_index tbok rfl rfl rfl rfl rfl rfl rfl rfl (SlR.addr h_p1) hc40 ?_
                  refine WO_loadE tbok rfl rfl rfl rfl (fun _ h => St.sat h) h_p1 hy39 rfl ?_
                  refine WO_pure tbok 5 [(0, .slice a_p0 p0.length c_p0), (1, .slice a_p1 p1.length c_p1), (4, .int .i64 0), (5, .bool false), (6, .int .i64 s_1), (7, .int .i64 s_2), (8, .int .i64 v_4), (14, .slice a_p1 p1.length c_p1), (15, .int .i64 (p1.length : Int)), (16, .int .i64 s_2), (55, .bool (decide ((w64 (v_10 + 1)) < v_4)))] rfl ⟨rfl, rfl, rfl, rfl, rfl, rfl, rfl, rfl, rfl, rfl, rfl, trivial⟩ ?_
                  refine WO_end ?_
                  cases hx16
                  refine WK.sub ?_ (WK.cls (fun _ h => h) hk17)
                  exact ⟨rfl, rfl, rfl, rfl, rfl, rfl, rfl, rfl, rfl, rfl, rfl, trivial⟩
              · have hx16 := ifF hb35 hx16
                refine WO_pure tbok 20 [(0, .slice a_p0 p0.length c_p0), (1, .slice a_p1 p1.length c_p1), (4, .int .i64 0), (5, .bool false), (6, .int .i64 s_1), (7, .int .i64 s_2), (8, .int .i64 v_4), (14, .slice a_p1 p1.length c_p1), (15, .int .i64 (p1.length : Int)), (16, .int .i64 s_2), (55, .bool false)] rfl ⟨rfl, rfl, rfl, rfl, rfl, rfl, rfl, rfl, rfl, rfl, rfl, trivial⟩ ?_
                refine WO_end ?_
                cases hx16
                refine WK.sub ?_ (WK.cls (fun _ h => h) hk17)
                exact ⟨rfl, rfl, rfl, rfl, rfl, rfl, rfl, rfl, rfl, rfl, rfl, trivial⟩
      · have hm7 := ifF hb13 hm7
        refine WK_exit rfl ?_
        cases hm7
        refine WK.sub ?_ (WK.cls (fun _ h => h) (hk6 (s_1, ()) (hd11 _ rfl)))
        exact ⟨rfl, rfl, rfl, trivial⟩
theorem seam_above_walk {m : Mu} {p0 : Int} {p1 : Int} {p2 : Int}   {r : Bool} (hm : seam_above p0 p1 p2 = some r) :
    Go.E.Spec Try.prog 58 [.int .i64 p0, .int .i64 p1, .int .i64 p2] m (fun v _ _ => v = .bool r) := by
  refine Spec_enter Try.func58 rfl rfl rfl (fun w0 => ?_)
  refine WK.sub (e' := [(0, .int .i64 p0), (1, .int .i64 p1), (2, .int .i64 p2)]) ⟨rfl, rfl, rfl, trivial⟩ ?_
  refine WK.sub (e' := [(0, .int .i64 p0), (1, .int .i64 p1), (2, .int .i64 p2)]) ⟨rfl, rfl, rfl, trivial⟩ ?_
  unfold seam_above at hm
  refine WK_seq ?_
  refine WK_region ?_
  refine WO_pure tbok 1 [(0, .int .i64 p0), (1, .int .i64 p1), (2, .int .i64 p2), (6, .bool false)] rfl ⟨rfl, rfl, rfl, rfl, trivial⟩ ?_
  refine WO_end ?_
  refine WK_seq ?_
  refine WK_region ?_
  refine WO_pure tbok 5 [(0, .int .i64 p0), (1, .int .i64 p1), (2, .int .i64 p2), (6, .bool false), (11, .bool (decide (p1 ≤ (w64 (9223372036854775807 - p2)))))] rfl ⟨rfl, rfl, rfl, rfl, rfl, trivial⟩ ?_
  refine WO_split (d := 11) (b := decide (p1 ≤ (w64 (9223372036854775807 - p2)))) rfl (fun hb1 => ?_) (fun hb1 => ?_)
  · have hm := ifT hb1 hm
    refine WO_pure tbok 7 [(6, .bool (decide ((w64 (p1 + p2)) < p0)))] rfl ⟨rfl, trivial⟩ ?_
    refine WO_end ?_
    cases hm
    exact WK_ret (ret_out (L := []) (RLc_tmp rfl RLc_nil) (List.nil_sublist _) rfl)
  · have hm := ifF hb1 hm
    refine WO_pure tbok 7 [(6, .bool false)] rfl ⟨rfl, trivial⟩ ?_
    refine WO_end ?_
    cases hm
    exact WK_ret (ret_out (L := []) (RLc_tmp rfl RLc_nil) (List.nil_sublist _) rfl)
theorem seam_holds_walk {m : Mu} {p0 : List (List Int)} {p1 : List (List Int)} {a_p0 : Option Addr} {q_p0 c_p0 : Nat} {a_p1 : Option Addr} {q_p1 c_p1 : Nat} (h_p0 : SlR (RowE (FE (I1 .i64)) 1) 1 m (.slice a_p0 q_p0 c_p0) p0) (h_p1 : SlR (RowE (FE (I1 .i64)) 1) 1 m (.slice a_p1 q_p1 c_p1) p1) {r : Bool} (hm : seam_holds p0 p1 = some r) :
    Go.E.Spec Try.prog 40 [.slice a_p0 q_p0 c_p0, .slice a_p1 q_p1 c_p1] m (fun v _ _ => v = .bool r) := by
  refine Spec_enter Try.func40 rfl rfl rfl (fun w0 => ?_)
  refine WK.sub (e' := [(0, .slice a_p0 q_p0 c_p0), (1, .slice a_p1 q_p1 c_p1)]) ⟨rfl, rfl, trivial⟩ ?_
  obtain rfl := SlR.qlen h_p0
  obtain rfl := SlR.qlen h_p1
  refine WK.sub (e' := [(0, .slice a_p0 p0.length c_p0), (1, .slice a_p1 p1.length c_p1)]) ⟨rfl, rfl, trivial⟩ ?_
  unfold seam_holds at hm
  refine WK_seq ?_
  refine WK_region ?_
  refine WO_pure tbok 1 [(0, .slice a_p0 p0.length c_p0), (1, .slice a_p1 p1.length c_p1), (4, .bool false)] rfl ⟨rfl, rfl, rfl, trivial⟩ ?_
  refine WO_end ?_
  refine WK_seq ?_
  refine WK_seq ?_
  refine WK_region ?_
  refine WO_pure tbok 5 [(0, .slice a_p0 p0.length c_p0), (1, .slice a_p1 p1.length c_p1), (4, .bool false), (15, .bool ((p1.length : Int) != (p0.length : Int)))] rfl ⟨rfl, rfl, rfl, rfl, trivial⟩ ?_
  refine WO_end ?_
  refine WK_cond (b := (p1.length : Int) != (p0.length : Int)) rfl (fun hb3 => ?_) (fun hb3 => ?_)
  · have hm := ifT hb3 hm
    refine WK_seq ?_
    refine WK_region ?_
    refine WO_pure tbok 1 [(0, .slice a_p0 p0.length c_p0), (1, .slice a_p1 p1.length c_p1), (4, .bool false)] rfl ⟨rfl, rfl, rfl, trivial⟩ ?_
    refine WO_end ?_
    cases hm
    exact WK_ret (ret_out (L := []) (RLc_tmp rfl RLc_nil) (List.nil_sublist _) rfl)
  · have hm := ifF hb3 hm
    refine WK_skip ?_
    refine WK_seq ?_
    refine WK_seq ?_
    refine WK_region ?_
    refine WO_pure tbok 3 [(1, .slice a_p1 p1.length c_p1), (4, .bool false), (16, .slice a_p0 p0.length c_p0), (17, .int .i64 (p0.length : Int)), (18, .int .i64 0)] rfl ⟨rfl, rfl, rfl, rfl, rfl, trivial⟩ ?_
    refine WO_end ?_
    obtain ⟨x4, hx5, hm⟩ := bind_some hm
    refine WK_join (β := Unit × Unit) (fun p => Sum.inr p.1 = x4) (fun p => [(4, .bool false)]) (fun p => St w0 m m []) ?_ (fun hk6 => ?_)
    · rintro ⟨⟨⟩, ⟨⟩⟩ hq12
      subst hq12
      refine WK.sub (e' := [(4, .bool false)]) ⟨rfl, trivial⟩ (WK.cls (C' := St w0 m m []) (fun _ h => h) ?_)
      refine WK_seq ?_
      refine WK_region ?_
      refine WO_pure tbok 1 [(4, .bool true)] rfl ⟨rfl, trivial⟩ ?_
      refine WO_end ?_
      cases hm
      exact WK_ret (ret_out (L := []) (RLc_tmp rfl RLc_nil) (List.nil_sublist _) rfl)
    · refine WK_block ?_
      refine WK_loop (S := Int) (G := Unit) (fun s => seam_holds_s1 p0 p1 s) (fun s g => [(1, .slice a_p1 p1.length c_p1), (4, .bool false), (16, .slice a_p0 p0.length c_p0), (17, .int .i64 (p0.length : Int)), (18, .int .i64 s)]) (fun s g => St w0 m m []) (fun s g => True) FUEL 0 () x4 hx5 trivial ⟨rfl, rfl, rfl, rfl, rfl, trivial⟩ (fun _ h => h) ?_
      rintro s_1 ⟨⟩ o8 fl9 hm7 - hn10 hd11
      have hm7 : seam_holds_s1 p0 p1 s_1 = some o8 := hm7
      unfold seam_holds_s1 at hm7
      refine WK.sub (e' := [(1, .slice a_p1 p1.length c_p1), (4, .bool false), (16, .slice a_p0 p0.length c_p0), (17, .int .i64 (p0.length : Int)), (18, .int .i64 s_1)]) ⟨rfl, rfl, rfl, rfl, rfl, trivial⟩ (WK.cls (C' := St w0 m m []) (fun _ h => h) ?_)
      refine WK_seq ?_
      refine WK_region ?_
      refine WO_pure tbok 1 [(1, .slice a_p1 p1.length c_p1), (4, .bool false), (16, .slice a_p0 p0.length c_p0), (17, .int .i64 (p0.length : Int)), (18, .int .i64 s_1), (19, .bool (decide (s_1 < (p0.length : Int))))] rfl ⟨rfl, rfl, rfl, rfl, rfl, rfl, trivial⟩ ?_
      refine WO_end ?_
      refine WK_seq ?_
      refine WK_cond (b := decide (s_1 < (p0.length : Int))) rfl (fun hb13 => ?_) (fun hb13 => ?_)
      · have hm7 := ifT hb13 hm7
        refine WK_skip ?_
        refine WK_seq ?_
        refine WK_block ?_
        refine WK_seq ?_
        refine WK_region ?_
        refine WO_pure tbok 1 [(1, .slice a_p1 p1.length c_p1), (4, .bool false), (16, .slice a_p0 p0.length c_p0), (17, .int .i64 (p0.length : Int)), (18, .int .i64 s_1), (20, .int .i64 s_1)] rfl ⟨rfl, rfl, rfl, rfl, rfl, rfl, trivial⟩ ?_
        obtain ⟨v_2, hy14, hm7⟩ := bind_some hm7
        obtain ⟨hc15, hy14⟩ := ix_some hy14
        refine WO_index tbok rfl rfl rfl rfl rfl rfl rfl rfl (SlR.addr h_p0) hc15 ?_
        refine WO_loadR tbok rfl rfl rfl rfl (fun _ h => St.sat h) h_p0 hy14 rfl rfl (fun a16 c17 h18 => ?_)
        refine WO_pure tbok 2 [(1, .slice a_p1 p1.length c_p1), (4, .bool false), (5, .int .i64 s_1), (6, .slice a16 ((v_2).length) c17), (16, .slice a_p0 p0.length c_p0), (17, .int .i64 (p0.length : Int)), (18, .int .i64 s_1)] rfl ⟨rfl, rfl, rfl, rfl, rfl, rfl, rfl, trivial⟩ ?_
        refine WO_end ?_
        refine WK_seq ?_
        refine WK_seq ?_
        refine WK_region ?_
        refine WO_pure tbok 2 [(1, .slice a_p1 p1.length c_p1), (4, .bool false), (5, .int .i64 s_1), (6, .slice a16 ((v_2).length) c17), (16, .slice a_p0 p0.length c_p0), (17, .int .i64 (p0.length : Int)), (18, .int .i64 s_1), (23, .slice a_p1 p1.length c_p1), (24, .int .i64 s_1)] rfl ⟨rfl, rfl, rfl, rfl, rfl, rfl, rfl, rfl, rfl, trivial⟩ ?_
        obtain ⟨v_3, hy20, hm7⟩ := bind_some hm7
        obtain ⟨hc21, hy20⟩ := ix_some hy20
        refine WO_index tbok rfl rfl rfl rfl rfl rfl rfl rfl (SlR.addr h_p1) hc21 ?_
        refine WO_loadR tbok rfl rfl rfl rfl (fun _ h => St.sat h) h_p1 hy20 rfl rfl (fun a22 c23 h24 => ?_)
        refine WO_pure tbok 4 [(1, .slice a_p1 p1.length c_p1), (4, .bool false), (5, .int .i64 s_1), (6, .slice a16 ((v_2).length) c17), (16, .slice a_p0 p0.length c_p0), (17, .int .i64 (p0.length : Int)), (18, .int .i64 s_1), (30, .bool (((v_3).length : Int) != ((v_2).length : Int)))] rfl ⟨rfl, rfl, rfl, rfl, rfl, rfl, rfl, rfl, trivial⟩ ?_
        refine WO_end ?_
        refine WK_cond (b := ((v_3).length : Int) != ((v_2).length : Int)) rfl (fun hb26 => ?_) (fun hb26 => ?_)
        · have hm7 := ifT hb26 hm7
          refine WK_seq ?_
          refine WK_region ?_
          refine WO_pure tbok 1 [(1, .slice a_p1 p1.length c_p1), (4, .bool false), (5, .int .i64 s_1), (6, .slice a16 ((v_2).length) c17), (16, .slice a_p0 p0.length c_p0), (17, .int .i64 (p0.length : Int)), (18, .int .i64 s_1)] rfl ⟨rfl, rfl, rfl, rfl, rfl, rfl, rfl, trivial⟩ ?_
          refine WO_end ?_
          cases hm7
          have hq := hd11 _ rfl
          subst hq
          have hm : some _ = some _ := hm
          cases hm
          exact WK_ret (ret_out (L := []) (RLc_tmp rfl RLc_nil) (List.nil_sublist _) rfl)
        · have hm7 := ifF hb26 hm7
          refine WK_skip ?_
          refine WK_seq ?_
          refine WK_region ?_
          refine WO_pure tbok 3 [(1, .slice a_p1 p1.length c_p1), (4, .bool false), (5, .int .i64 s_1), (6, .slice a16 ((v_2).length) c17), (16, .slice a_p0 p0.length c_p0), (17, .int .i64 (p0.length : Int)), (18, .int .i64 s_1), (31, .slice a16 ((v_2).length) c17), (32, .int .i64 ((v_2).length : Int)), (33, .int .i64 0)] rfl ⟨rfl, rfl, rfl, rfl, rfl, rfl, rfl, rfl, rfl, rfl, trivial⟩ ?_
          refine WO_end ?_
          obtain ⟨x27, hx28, hm7⟩ := bind_some hm7
          refine WK_join (β := Unit × Unit) (fun p => Sum.inr p.1 = x27) (fun p => [(1, .slice a_p1 p1.length c_p1), (4, .bool false), (16, .slice a_p0 p0.length c_p0), (17, .int .i64 (p0.length : Int)), (18, .int .i64 s_1)]) (fun p => St w0 m m []) ?_ (fun hk29 => ?_)
          · rintro ⟨⟨⟩, ⟨⟩⟩ hq35
            subst hq35
            refine WK.sub (e' := [(1, .slice a_p1 p1.length c_p1), (4, .bool false), (16, .slice a_p0 p0.length c_p0), (17, .int .i64 (p0.length : Int)), (18, .int .i64 s_1)]) ⟨rfl, rfl, rfl, rfl, rfl, trivial⟩ (WK.cls (C' := St w0 m m []) (fun _ h => h) ?_)
            refine WK_blk ?_
            refine WK_region ?_
            refine WO_pure tbok 2 [(1, .slice a_p1 p1.length c_p1), (4, .bool false), (16, .slice a_p0 p0.length c_p0), (17, .int .i64 (p0.length : Int)), (18, .int .i64 (w64 (s_1 + 1)))] rfl ⟨rfl, rfl, rfl, rfl, rfl, trivial⟩ ?_
            refine WO_end ?_
            cases hm7
            refine WK.sub ?_ (WK.cls (fun _ h => h) (hn10 _ () rfl trivial))
            exact ⟨rfl, rfl, rfl, rfl, rfl, trivial⟩
          · refine WK_block ?_
            refine WK_loop (S := Int) (G := Unit) (fun s => seam_holds_s2 p1 s_1 v_2 s) (fun s g => [(1, .slice a_p1 p1.length c_p1), (4, .bool false), (5, .int .i64 s_1), (6, .slice a16 ((v_2).length) c17), (16, .slice a_p0 p0.length c_p0), (17, .int .i64 (p0.length : Int)), (18, .int .i64 s_1), (31, .slice a16 ((v_2).length) c17), (32, .int .i64 ((v_2).length : Int)), (33, .int .i64 s)]) (fun s g => St w0 m m []) (fun s g => True) FUEL 0 () x27 hx28 trivial ⟨rfl, rfl, rfl, rfl, rfl, rfl, rfl, rfl, rfl, rfl, trivial⟩ (fun _ h => h) ?_
            rintro s_4 ⟨⟩ o31 fl32 hm30 - hn33 hd34
            have hm30 : seam_holds_s2 p1 s_1 v_2 s_4 = some o31 := hm30
            unfold seam_holds_s2 at hm30
            refine WK.sub (e' := [(1, .slice a_p1 p1.length c_p1), (4, .bool false), (5, .int .i64 s_1), (6, .slice a16 ((v_2).length) c17), (16, .slice a_p0 p0.length c_p0), (17, .int .i64 (p0.length : Int)), (18, .int .i64 s_1), (31, .slice a16 ((v_2).length) c17), (32, .int .i64 ((v_2).length : Int)), (33, .int .i64 s_4)]) ⟨rfl, rfl, rfl, rfl, rfl, rfl, rfl, rfl, rfl, rfl, trivial⟩ (WK.cls (C' := St w0 m m []) (fun _ h => h) ?_)
            refine WK_seq ?_
            refine WK_region ?_
            refine WO_pure tbok 1 [(1, .slice a_p1 p1.length c_p1), (4, .bool false), (5, .int .i64 s_1), (6, .slice a16 ((v_2).length) c17), (16, .slice a_p0 p0.length c_p0), (17, .int .i64 (p0.length : Int)), (18, .int .i64 s_1), (31, .slice a16 ((v_2).length) c17), (32, .int .i64 ((v_2).length : Int)), (33, .int .i64 s_4), (34, .bool (decide (s_4 < ((v_2).length : Int))))] rfl ⟨rfl, rfl, rfl, rfl, rfl, rfl, rfl, rfl, rfl, rfl, rfl, trivial⟩ ?_
            refine WO_end ?_
            refine WK_seq ?_
            refine WK_cond (b := decide (s_4 < ((v_2).length : Int))) rfl (fun hb36 => ?_) (fun hb36 => ?_)
            · have hm30 := ifT hb36 hm30
              refine WK_skip ?_
              refine WK_seq ?_
              refine WK_block ?_
              refine WK_seq ?_
              refine WK_region ?_
              refine WO_pure tbok 1 [(1, .slice a_p1 p1.length c_p1), (4, .bool false), (5, .int .i64 s_1), (6, .slice a16 ((v_2).length) c17), (16, .slice a_p0 p0.length c_p0), (17, .int .i64 (p0.length : Int)), (18, .int .i64 s_1), (31, .slice a16 ((v_2).length) c17), (32, .int .i64 ((v_2).length : Int)), (33, .int .i64 s_4), (35, .int .i64 s_4)] rfl ⟨rfl, rfl, rfl, rfl, rfl, rfl, rfl, rfl, rfl, rfl, rfl, trivial⟩ ?_
              obtain ⟨v_5, hy37, hm30⟩ := bind_some hm30
              obtain ⟨hc38, hy37⟩ := ix_some hy37
              refine WO_index tbok rfl rfl rfl rfl rfl rfl rfl rfl (SlR.addr h18) hc38 ?_
              refine WO_loadE tbok rfl rfl rfl rfl (fun _ h => St.sat h) h18 hy37 rfl ?_
              refine WO_pure tbok 2 [(1, .slice a_p1 p1.length c_p1), (4, .bool false), (5, .int .i64 s_1), (6, .slice a16 ((v_2).length) c17), (7, .int .i64 s_4), (8, .int .i64 v_5), (16, .slice a_p0 p0.length c_p0), (17, .int .i64 (p0.length : Int)), (18, .int .i64 s_1), (31, .slice a16 ((v_2).length) c17), (32, .int .i64 ((v_2).length : Int)), (33, .int .i64 s_4)] rfl ⟨rfl, rfl, rfl, rfl, rfl, rfl, rfl, rfl, rfl, rfl, rfl, rfl, trivial⟩ ?_
              refine WO_end ?_
              refine WK_seq ?_
              refine WK_seq ?_
              refine WK_region ?_
              refine WO_pure tbok 2 [(1, .slice a_p1 p1.length c_p1), (4, .bool false), (5, .int .i64 s_1), (6, .slice a16 ((v_2).length) c17), (7, .int .i64 s_4), (8, .int .i64 v_5), (16, .slice a_p0 p0.length c_p0), (17, .int .i64 (p0.length : Int)), (18, .int .i64 s_1), (31, .slice a16 ((v_2).length) c17), (32, .int .i64 ((v_2).length : Int)), (33, .int .i64 s_4), (39, .bool (s_1 == 0))] rfl ⟨rfl, rfl, rfl, rfl, rfl, rfl, rfl, rfl, rfl, rfl, rfl, rfl, rfl, trivial⟩ ?_
              refine WO_end ?_
              refine WK_cond (b := s_1 == 0) rfl (fun hb39 => ?_) (fun hb39 => ?_)
              · have hm30 := ifT hb39 hm30
                refine WK_seq ?_
                refine WK_seq ?_
                refine WK_region ?_
                refine WO_pure tbok 1 [(1, .slice a_p1 p1.length c_p1), (4, .bool false), (5, .int .i64 s_1), (6, .slice a16 ((v_2).length) c17), (7, .int .i64 s_4), (8, .int .i64 v_5), (16, .slice a_p0 p0.length c_p0), (17, .int .i64 (p0.length : Int)), (18, .int .i64 s_1), (31, .slice a16 ((v_2).length) c17), (32, .int .i64 ((v_2).length : Int)), (33, .int .i64 s_4), (40, .slice a_p1 p1.length c_p1)] rfl ⟨rfl, rfl, rfl, rfl, rfl, rfl, rfl, rfl, rfl, rfl, rfl, rfl, rfl, trivial⟩ ?_
                obtain ⟨v_6, hy40, hm30⟩ := bind_some hm30
                obtain ⟨hc41, hy40⟩ := ix_some hy40
                refine WO_index tbok rfl rfl rfl rfl rfl rfl rfl rfl (SlR.addr h_p1) hc41 ?_
                refine WO_loadR tbok rfl rfl rfl rfl (fun _ h => St.sat h) h_p1 hy40 rfl rfl (fun a42 c43 h44 => ?_)
                refine WO_pure tbok 1 [(1, .slice a_p1 p1.length c_p1), (4, .bool false), (5, .int .i64 s_1), (6, .slice a16 ((v_2).length) c17), (7, .int .i64 s_4), (8, .int .i64 v_5), (16, .slice a_p0 p0.length c_p0), (17, .int .i64 (p0.length : Int)), (18, .int .i64 s_1), (31, .slice a16 ((v_2).length) c17), (32, .int .i64 ((v_2).length : Int)), (33, .int .i64 s_4), (42, .slice a42 ((v_6).length) c43), (43, .int .i64 s_4)] rfl ⟨rfl, rfl, rfl, rfl, rfl, rfl, rfl, rfl, rfl, rfl, rfl, rfl, rfl, rfl, trivial⟩ ?_
                obtain ⟨v_7, hy46, hm30⟩ := bind_some hm30
                obtain ⟨hc47, hy46⟩ := ix_some hy46
                refine WO_index tbok rfl rfl rfl rfl rfl rfl rfl rfl (SlR.addr h44) hc47 ?_
                refine WO_loadE tbok rfl rfl rfl rfl (fun _ h => St.sat h) h44 hy46 rfl ?_
                refine WO_pure tbok 2 [(1, .slice a_p1 p1.length c_p1), (4, .bool false), (5, .int .i64 s_1), (6, .slice a16 ((v_2).length) c17), (7, .int .i64 s_4), (8, .int .i64 v_5), (16, .slice a_p0 p0.length c_p0), (17, .int .i64 (p0.length : Int)), (18, .int .i64 s_1), (31, .slice a16 ((v_2).length) c17), (32, .int .i64 ((v_2).length : Int)), (33, .int .i64 s_4), (47, .bool (decide (v_5 < v_7)))] rfl ⟨rfl, rfl, rfl, rfl, rfl, rfl, rfl, rfl, rfl, rfl, rfl, rfl, rfl, trivial⟩ ?_
                refine WO_end ?_
                refine WK_cond (b := decide (v_5 < v_7)) rfl (fun hb48 => ?_) (fun hb48 => ?_)
                · have hm30 := ifT hb48 hm30
                  refine WK_seq ?_
                  refine WK_region ?_
                  refine WO_pure tbok 1 [(1, .slice a_p1 p1.length c_p1), (4, .bool false), (5, .int .i64 s_1), (6, .slice a16 ((v_2).length) c17), (7, .int .i64 s_4), (8, .int .i64 v_5), (16, .slice a_p0 p0.length c_p0), (17, .int .i64 (p0.length : Int)), (18, .int .i64 s_1), (31, .slice a16 ((v_2).length) c17), (32, .int .i64 ((v_2).length : Int)), (33, .int .i64 s_4)] rfl ⟨rfl, rfl, rfl, rfl, rfl, rfl, rfl, rfl, rfl, rfl, rfl, rfl, trivial⟩ ?_
                  refine WO_end ?_
                  cases hm30
                  have hq := hd34 _ rfl
                  subst hq
                  have hm7 : some _ = some _ := hm7
                  cases hm7
                  have hq := hd11 _ rfl
                  subst hq
                  have hm : some _ = some _ := hm
                  cases hm
                  exact WK_ret (ret_out (L := []) (RLc_tmp rfl RLc_nil) (List.nil_sublist _) rfl)
                · have hm30 := ifF hb48 hm30
                  refine WK_skip ?_
                  refine WK_exit rfl ?_
                  refine WK_region ?_
                  refine WO_pure tbok 2 [(1, .slice a_p1 p1.length c_p1), (4, .bool false), (5, .int .i64 s_1), (6, .slice a16 ((v_2).length) c17), (16, .slice a_p0 p0.length c_p0), (17, .int .i64 (p0.length : Int)), (18, .int .i64 s_1), (31, .slice a16 ((v_2).length) c17), (32, .int .i64 ((v_2).length : Int)), (33, .int .i64 (w64 (s_4 + 1)))] rfl ⟨rfl, rfl, rfl, rfl, rfl, rfl, rfl, rfl, rfl, rfl, trivial⟩ ?_
                  refine WO_end ?_
                  cases hm30
                  refine WK.sub ?_ (WK.cls (fun _ h => h) (hn33 _ () rfl trivial))
                  exact ⟨rfl, rfl, rfl, rfl, rfl, rfl, rfl, rfl, rfl, rfl, trivial⟩
              · have hm30 := ifF hb39 hm30
                refine WK_skip ?_
                refine WK_seq ?_
                refine WK_region ?_
                refine WO_pure tbok 3 [(1, .slice a_p1 p1.length c_p1), (4, .bool false), (5, .int .i64 s_1), (6, .slice a16 ((v_2).length) c17), (7, .int .i64 s_4), (8, .int .i64 v_5), (16, .slice a_p0 p0.length c_p0), (17, .int .i64 (p0.length : Int)), (18, .int .i64 s_1), (31, .slice a16 ((v_2).length) c17), (32, .int .i64 ((v_2).length : Int)), (33, .int .i64 s_4), (49, .int .i64 s_4), (51, .int .i64 ((v_2).length : Int))] rfl ⟨rfl, rfl, rfl, rfl, rfl, rfl, rfl, rfl, rfl, rfl, rfl, rfl, rfl, rfl, trivial⟩ ?_
                obtain ⟨⟨y_8, y_9⟩, hc49, hm30⟩ := bind_some hm30
                refine WO_call0 (.tuple #[.int .i64 y_8, .int .i64 y_9]) rfl rfl trivial rfl rfl rfl rfl St_closed ⟨57, #[], #[], rfl, callable_57, fun w hw => ⟨_, hw.sat, seam_near_walk hc49⟩⟩ ?_
                refine WO_pure tbok 5 [(1, .slice a_p1 p1.length c_p1), (4, .bool false), (5, .int .i64 s_1), (6, .slice a16 ((v_2).length) c17), (7, .int .i64 s_4), (8, .int .i64 v_5), (9, .int .i64 y_8), (10, .int .i64 y_9), (16, .slice a_p0 p0.length c_p0), (17, .int .i64 (p0.length : Int)), (18, .int .i64 s_1), (31, .slice a16 ((v_2).length) c17), (32, .int .i64 ((v_2).length : Int)), (33, .int .i64 s_4)] rfl ⟨rfl, rfl, rfl, rfl, rfl, rfl, rfl, rfl, rfl, rfl, rfl, rfl, rfl, rfl, trivial⟩ ?_
                refine WO_end ?_
                refine WK_seq ?_
                refine WK_draw 17 [0, 1, 2, 3, 4, 5, 6, 7, 8, 9, 10, 11, 12, 13, 15, 14, 16] follows_ok (by kernel_rfl) St_closed ?_
                refine WO_pure tbok 2 [(1, .slice a_p1 p1.length c_p1), (4, .bool false), (5, .int .i64 s_1), (6, .slice a16 ((v_2).length) c17), (7, .int .i64 s_4), (8, .int .i64 v_5), (9, .int .i64 y_8), (10, .int .i64 y_9), (16, .slice a_p0 p0.length c_p0), (17, .int .i64 (p0.length : Int)), (18, .int .i64 s_1), (31, .slice a16 ((v_2).length) c17), (32, .int .i64 ((v_2).length : Int)), (33, .int .i64 s_4), (55, .slice a_p1 p1.length c_p1), (56, .int .i64 s_1)] rfl ⟨rfl, rfl, rfl, rfl, rfl, rfl, rfl, rfl, rfl, rfl, rfl, rfl, rfl, rfl, rfl, rfl, trivial⟩ ?_
                obtain ⟨v_10, hy50, hm30⟩ := bind_some hm30
                obtain ⟨hc51, hy50⟩ := ix_some hy50
                refine WO_index tbok rfl rfl rfl rfl rfl rfl rfl rfl (SlR.addr h_p1) hc51 ?_
                refine WO_loadR tbok rfl rfl rfl rfl (fun _ h => St.sat h) h_p1 hy50 rfl rfl (fun a52 c53 h54 => ?_)
                refine WO_pure tbok 1 [(1, .slice a_p1 p1.length c_p1), (4, .bool false), (5, .int .i64 s_1), (6, .slice a16 ((v_2).length) c17), (8, .int .i64 v_5), (9, .int .i64 y_8), (10, .int .i64 y_9), (16, .slice a_p0 p0.length c_p0), (17, .int .i64 (p0.length : Int)), (18, .int .i64 s_1), (31, .slice a16 ((v_2).length) c17), (32, .int .i64 ((v_2).length : Int)), (33, .int .i64 s_4), (58, .slice a52 ((v_10).length) c53), (59, .int .i64 s_4)] rfl ⟨rfl, rfl, rfl, rfl, rfl, rfl, rfl, rfl, rfl, rfl, rfl, rfl, rfl, rfl, rfl, trivial⟩ ?_
                obtain ⟨v_11, hy56, hm30⟩ := bind_some hm30
                obtain ⟨hc57, hy56⟩ := ix_some hy56
                refine WO_index tbok rfl rfl rfl rfl rfl rfl rfl rfl (SlR.addr h54) hc57 ?_
                refine WO_loadE tbok rfl rfl rfl rfl (fun _ h => St.sat h) h54 hy56 rfl ?_
                refine WO_pure tbok 3 [(1, .slice a_p1 p1.length c_p1), (4, .bool false), (5, .int .i64 s_1), (6, .slice a16 ((v_2).length) c17), (8, .int .i64 v_5), (9, .int .i64 y_8), (10, .int .i64 y_9), (16, .slice a_p0 p0.length c_p0), (17, .int .i64 (p0.length : Int)), (18, .int .i64 s_1), (31, .slice a16 ((v_2).length) c17), (32, .int .i64 ((v_2).length : Int)), (33, .int .i64 s_4), (61, .int .i64 v_11), (62, .slice a_p1 p1.length c_p1), (64, .int .i64 (w64 (s_1 - 1)))] rfl ⟨rfl, rfl, rfl, rfl, rfl, rfl, rfl, rfl, rfl, rfl, rfl, rfl, rfl, rfl, rfl, rfl, trivial⟩ ?_
                obtain ⟨v_12, hy58, hm30⟩ := bind_some hm30
                obtain ⟨hc59, hy58⟩ := ix_some hy58
                refine WO_index tbok rfl rfl rfl rfl rfl rfl rfl rfl (SlR.addr h_p1) hc59 ?_
                refine WO_loadR tbok rfl rfl rfl rfl (fun _ h => St.sat h) h_p1 hy58 rfl rfl (fun a60 c61 h62 => ?_)
                refine WO_pure tbok 3 [(1, .slice a_p1 p1.length c_p1), (4, .bool false), (5, .int .i64 s_1), (6, .slice a16 ((v_2).length) c17), (16, .slice a_p0 p0.length c_p0), (17, .int .i64 (p0.length : Int)), (18, .int .i64 s_1), (31, .slice a16 ((v_2).length) c17), (32, .int .i64 ((v_2).length : Int)), (33, .int .i64 s_4), (61, .int .i64 v_11), (66, .slice a60 ((v_12).length) c61), (67, .int .i64 y_8), (68, .int .i64 y_9), (70, .int .i64 v_5)] rfl ⟨rfl, rfl, rfl, rfl, rfl, rfl, rfl, rfl, rfl, rfl, rfl, rfl, rfl, rfl, rfl, trivial⟩ ?_
                obtain ⟨y_13, hc64, hm30⟩ := bind_some hm30
                refine WO_call0 (.int .i64 y_13) rfl rfl St_closed rfl rfl rfl rfl St_closed ⟨59, #[], #[], rfl, callable_59, fun w hw => ⟨_, hw.sat, seam_least_walk h62 hc64⟩⟩ ?_
                obtain ⟨y_14, hc65, hm30⟩ := bind_some hm30
                refine WO_call0 (.bool y_14) rfl rfl St_closed rfl rfl rfl rfl St_closed ⟨58, #[], #[], rfl, callable_58, fun w hw => ⟨_, hw.sat, seam_above_walk hc65⟩⟩ ?_
                refine WO_tail ?_
                refine WO_end ?_
                refine WK_cond (b := y_14) rfl (fun hb66 => ?_) (fun hb66 => ?_)
                · have hm30 := ifT hb66 hm30
                  refine WK_seq ?_
                  refine WK_region ?_
                  refine WO_pure tbok 1 [(1, .slice a_p1 p1.length c_p1), (4, .bool false), (5, .int .i64 s_1), (6, .slice a16 ((v_2).length) c17), (16, .slice a_p0 p0.length c_p0), (17, .int .i64 (p0.length : Int)), (18, .int .i64 s_1), (31, .slice a16 ((v_2).length) c17), (32, .int .i64 ((v_2).length : Int)), (33, .int .i64 s_4)] rfl ⟨rfl, rfl, rfl, rfl, rfl, rfl, rfl, rfl, rfl, rfl, trivial⟩ ?_
                  refine WO_end ?_
                  cases hm30
                  have hq := hd34 _ rfl
                  subst hq
                  have hm7 : some _ = some _ := hm7
                  cases hm7
                  have hq := hd11 _ rfl
                  subst hq
                  have hm : some _ = some _ := hm
                  cases hm
                  exact WK_ret (ret_out (L := []) (RLc_tmp rfl RLc_nil) (List.nil_sublist _) rfl)
                · have hm30 := ifF hb66 hm30
                  refine WK_skip ?_
                  refine WK_blk ?_
                  refine WK_region ?_
                  refine WO_pure tbok 2 [(1, .slice a_p1 p1.length c_p1), (4, .bool false), (5, .int .i64 s_1), (6, .slice a16 ((v_2).length) c17), (16, .slice a_p0 p0.length c_p0), (17, .int .i64 (p0.length : Int)), (18, .int .i64 s_1), (31, .slice a16 ((v_2).length) c17), (32, .int .i64 ((v_2).length : Int)), (33, .int .i64 (w64 (s_4 + 1)))] rfl ⟨rfl, rfl, rfl, rfl, rfl, rfl, rfl, rfl, rfl, rfl, trivial⟩ ?_
                  refine WO_end ?_
                  cases hm30
                  refine WK.sub ?_ (WK.cls (fun _ h => h) (hn33 _ () rfl trivial))
                  exact ⟨rfl, rfl, rfl, rfl, rfl, rfl, rfl, rfl, rfl, rfl, trivial⟩
            · have hm30 := ifF hb36 hm30
              refine WK_exit rfl ?_
              cases hm30
              refine WK.sub ?_ (WK.cls (fun _ h => h) (hk29 ((), ()) (hd34 _ rfl)))
              exact ⟨rfl, rfl, rfl, rfl, rfl, trivial⟩
      · have hm7 := ifF hb13 hm7
        refine WK_exit rfl ?_
        cases hm7
        refine WK.sub ?_ (WK.cls (fun _ h => h) (hk6 ((), ()) (hd11 _ rfl)))
        exact ⟨rfl, trivial⟩
theorem seam_Prove_walk {m : Mu} {p0 : List (List Int)} {p1_0 : List Int} {p1_1 : Int} {p1_2 : List (List Int)} {a_p0 : Option Addr} {q_p0 c_p0 : Nat} {a_p1_0 : Option Addr} {q_p1_0 c_p1_0 : Nat} {a_p1_2 : Option Addr} {q_p1_2 c_p1_2 : Nat} (h_p0 : SlR (RowE (FE (I1 .i64)) 1) 1 m (.slice a_p0 q_p0 c_p0) p0) (h_p1_0 : SlR (FE (I1 .i64)) 1 m (.slice a_p1_0 q_p1_0 c_p1_0) p1_0) (h_p1_2 : SlR (RowE (FE (I1 .i64)) 1) 1 m (.slice a_p1_2 q_p1_2 c_p1_2) p1_2) {r : Int} (hm : seam_Prove p0 p1_0 p1_1 p1_2 = some r) :
    Go.E.Spec Try.prog 15 [.slice a_p0 q_p0 c_p0, .agg #[.slice a_p1_0 q_p1_0 c_p1_0, .int .i64 p1_1, .slice a_p1_2 q_p1_2 c_p1_2]] m (fun v _ _ => v = .int .i64 r) := by
  refine Spec_enter Try.func15 rfl rfl rfl (fun w0 => ?_)
  refine WK.sub (e' := [(0, .slice a_p0 q_p0 c_p0), (1, .agg #[.slice a_p1_0 q_p1_0 c_p1_0, .int .i64 p1_1, .slice a_p1_2 q_p1_2 c_p1_2])]) ⟨rfl, rfl, trivial⟩ ?_
  obtain rfl := SlR.qlen h_p0
  obtain rfl := SlR.qlen h_p1_0
  obtain rfl := SlR.qlen h_p1_2
  refine WK.sub (e' := [(0, .slice a_p0 p0.length c_p0), (1, .agg #[.slice a_p1_0 p1_0.length c_p1_0, .int .i64 p1_1, .slice a_p1_2 p1_2.length c_p1_2])]) ⟨rfl, rfl, trivial⟩ ?_
  unfold seam_Prove at hm
  refine WK_seq ?_
  refine WK_region ?_
  refine WO_box [.slice a_p1_0 p1_0.length c_p1_0, .int .i64 p1_1, .slice a_p1_2 p1_2.length c_p1_2] rfl rfl trivial rfl rfl rfl (fun b4 => ?_)
  refine WO.cls (C' := St w0 m m [[⟨b4, 25, [.slice a_p1_0 p1_0.length c_p1_0, .int .i64 p1_1, .slice a_p1_2 p1_2.length c_p1_2]⟩]]) (fun _ h => h) ?_
  refine WO_pure tbok 1 [(0, .slice a_p0 p0.length c_p0), (3, .pointer (some ⟨b4, 0, none⟩)), (4, .int .i64 0)] rfl ⟨rfl, rfl, rfl, trivial⟩ ?_
  refine WO_end ?_
  refine WK_seq ?_
  refine WK_seq ?_
  refine WK_region ?_
  refine WO_pure tbok 1 [(0, .slice a_p0 p0.length c_p0), (3, .pointer (some ⟨b4, 0, none⟩)), (4, .int .i64 0), (8, .slice a_p0 p0.length c_p0)] rfl ⟨rfl, rfl, rfl, rfl, trivial⟩ ?_
  obtain ⟨y_1, hc5, hm⟩ := bind_some hm
  refine WO_call0 (.int .i64 y_1) rfl rfl trivial rfl rfl rfl rfl St_closed ⟨25, #[], #[], rfl, callable_25, fun w hw => ⟨_, hw.sat, seam_Check_walk h_p0 hc5⟩⟩ ?_
  refine WO_pure tbok 1 [(0, .slice a_p0 p0.length c_p0), (3, .pointer (some ⟨b4, 0, none⟩)), (4, .int .i64 0), (5, .int .i64 y_1)] rfl ⟨rfl, rfl, rfl, rfl, trivial⟩ ?_
  refine WO_end ?_
  refine WK_seq ?_
  refine WK_region ?_
  refine WO_pure tbok 2 [(0, .slice a_p0 p0.length c_p0), (3, .pointer (some ⟨b4, 0, none⟩)), (4, .int .i64 0), (5, .int .i64 y_1), (11, .bool (y_1 != 0))] rfl ⟨rfl, rfl, rfl, rfl, rfl, trivial⟩ ?_
  refine WO_end ?_
  refine WK_cond (b := y_1 != 0) rfl (fun hb6 => ?_) (fun hb6 => ?_)
  · have hm := ifT hb6 hm
    refine WK_seq ?_
    refine WK_region ?_
    refine WO_pure tbok 2 [(0, .slice a_p0 p0.length c_p0), (3, .pointer (some ⟨b4, 0, none⟩)), (4, .int .i64 y_1)] rfl ⟨rfl, rfl, rfl, trivial⟩ ?_
    refine WO_end ?_
    cases hm
    exact WK_ret (ret_out (L := []) (RLc_tmp rfl RLc_nil) (List.nil_sublist _) rfl)
  · have hm := ifF hb6 hm
    refine WK_skip ?_
    refine WK_seq ?_
    refine WK_region ?_
    refine WO_pure tbok 2 [(0, .slice a_p0 p0.length c_p0), (3, .pointer (some ⟨b4, 0, none⟩)), (4, .int .i64 0), (14, .slice a_p0 p0.length c_p0), (15, .pointer (some ⟨b4, 0, none⟩))] rfl ⟨rfl, rfl, rfl, rfl, rfl, trivial⟩ ?_
    refine WO_loadB tbok 0 rfl rfl rfl rfl (fun _ h => h) rfl rfl ?_
    obtain ⟨⟨y_2, y_3⟩, hc7, hm⟩ := bind_some hm
    refine WO_call0 (.tuple #[.int .i64 y_2, .bool y_3]) rfl rfl trivial rfl rfl rfl rfl St_closed ⟨39, #[], #[], rfl, callable_39, fun w hw => ⟨_, hw.sat, seam_total_walk h_p0 h_p1_0 hc7⟩⟩ ?_
    refine WO_pure tbok 5 [(0, .slice a_p0 p0.length c_p0), (3, .pointer (some ⟨b4, 0, none⟩)), (4, .int .i64 0), (6, .int .i64 y_2), (7, .bool y_3)] rfl ⟨rfl, rfl, rfl, rfl, rfl, trivial⟩ ?_
    refine WO_end ?_
    refine WK_seq ?_
    refine WK_seq ?_
    obtain ⟨s_4, hx8, hm⟩ := bind_some hm
    refine WK_meet [(4, .int .i64 0), (47, .bool s_4)] (St w0 m m [[⟨b4, 25, [.slice a_p1_0 p1_0.length c_p1_0, .int .i64 p1_1, .slice a_p1_2 p1_2.length c_p1_2]⟩]]) ?_ (fun hk9 => ?_)
    · refine WK_cond (b := s_4) rfl (fun hb10 => ?_) (fun hb10 => ?_)
      · have hm := ifT hb10 hm
        refine WK_seq ?_
        refine WK_region ?_
        refine WO_pure tbok 1 [(4, .int .i64 12)] rfl ⟨rfl, trivial⟩ ?_
        refine WO_end ?_
        cases hm
        exact WK_ret (ret_out (L := []) (RLc_tmp rfl RLc_nil) (List.nil_sublist _) rfl)
      · have hm := ifF hb10 hm
        refine WK_skip ?_
        refine WK_seq ?_
        refine WK_region ?_
        refine WO_pure tbok 1 [(4, .int .i64 0)] rfl ⟨rfl, trivial⟩ ?_
        refine WO_end ?_
        cases hm
        exact WK_ret (ret_out (L := []) (RLc_tmp rfl RLc_nil) (List.nil_sublist _) rfl)
    · refine WK_draw 28 [0, 1, 2, 3, 4, 5, 6, 7, 8, 9, 10, 11, 12, 13, 14, 15, 16, 17, 18, 19, 20, 21, 22, 24, 25, 23, 26, 27] follows_ok (by kernel_rfl) St_closed ?_
      refine WO_pure tbok 3 [(0, .slice a_p0 p0.length c_p0), (3, .pointer (some ⟨b4, 0, none⟩)), (4, .int .i64 0), (6, .int .i64 y_2), (22, .bool (!y_3))] rfl ⟨rfl, rfl, rfl, rfl, rfl, trivial⟩ ?_
      refine WO_split (d := 22) (b := !y_3) rfl (fun hb11 => ?_) (fun hb11 => ?_)
      · have hx8 := ifT hb11 hx8
        refine WO_pure tbok 9 [(0, .slice a_p0 p0.length c_p0), (3, .pointer (some ⟨b4, 0, none⟩)), (4, .int .i64 0), (28, .bool true)] rfl ⟨rfl, rfl, rfl, rfl, trivial⟩ ?_
        refine WO_skip rfl rfl ?_
        refine WO_pure tbok 12 [(4, .int .i64 0), (35, .bool true)] rfl ⟨rfl, rfl, trivial⟩ ?_
        refine WO_skip rfl rfl ?_
        refine WO_pure tbok 2 [(4, .int .i64 0), (47, .bool true)] rfl ⟨rfl, rfl, trivial⟩ ?_
        refine WO_tail ?_
        refine WO_end ?_
        cases hx8
        refine WK.sub ?_ (WK.cls (fun _ h => h) hk9)
        exact ⟨rfl, rfl, trivial⟩
      · have hx8 := ifF hb11 hx8
        refine WO_pure tbok 2 [(0, .slice a_p0 p0.length c_p0), (3, .pointer (some ⟨b4, 0, none⟩)), (4, .int .i64 0), (22, .bool false), (23, .int .i64 y_2), (24, .pointer (some ⟨b4, 1, none⟩))] rfl ⟨rfl, rfl, rfl, rfl, rfl, rfl, trivial⟩ ?_
        refine WO_loadB tbok 0 rfl rfl rfl rfl (fun _ h => h) rfl rfl ?_
        refine WO_pure tbok 3 [(0, .slice a_p0 p0.length c_p0), (3, .pointer (some ⟨b4, 0, none⟩)), (4, .int .i64 0), (28, .bool (y_2 != p1_1))] rfl ⟨rfl, rfl, rfl, rfl, trivial⟩ ?_
        refine WO_split (d := 28) (b := y_2 != p1_1) rfl (fun hb12 => ?_) (fun hb12 => ?_)
        · have hx8 := ifT hb12 hx8
          refine WO_pure tbok 3 [(0, .slice a_p0 p0.length c_p0), (3, .pointer (some ⟨b4, 0, none⟩)), (4, .int .i64 0), (28, .bool true)] rfl ⟨rfl, rfl, rfl, rfl, trivial⟩ ?_
          refine WO_skip rfl rfl ?_
          refine WO_pure tbok 12 [(4, .int .i64 0), (35, .bool true)] rfl ⟨rfl, rfl, trivial⟩ ?_
          refine WO_skip rfl rfl ?_
          refine WO_pure tbok 2 [(4, .int .i64 0), (47, .bool true)] rfl ⟨rfl, rfl, trivial⟩ ?_
          refine WO_tail ?_
          refine WO_end ?_
          cases hx8
          refine WK.sub ?_ (WK.cls (fun _ h => h) hk9)
          exact ⟨rfl, rfl, trivial⟩
        · have hx8 := ifF hb12 hx8
          refine WO_pure tbok 2 [(0, .slice a_p0 p0.length c_p0), (3, .pointer (some ⟨b4, 0, none⟩)), (4, .int .i64 0), (28, .bool false), (29, .slice a_p0 p0.length c_p0), (30, .pointer (some ⟨b4, 2, none⟩))] rfl ⟨rfl, rfl, rfl, rfl, rfl, rfl, trivial⟩ ?_
          refine WO_loadB tbok 0 rfl rfl rfl rfl (fun _ h => h) rfl rfl ?_
          obtain ⟨y_5, hc13, hx8⟩ := bind_some hx8
          refine WO_call0 (.bool y_5) rfl rfl St_closed rfl rfl rfl rfl St_closed ⟨40, #[], #[], rfl, callable_40, fun w hw => ⟨_, hw.sat, seam_holds_walk h_p0 h_p1_2 hc13⟩⟩ ?_
          refine WO_pure tbok 3 [(0, .slice a_p0 p0.length c_p0), (3, .pointer (some ⟨b4, 0, none⟩)), (4, .int .i64 0), (35, .bool (!y_5))] rfl ⟨rfl, rfl, rfl, rfl, trivial⟩ ?_
          refine WO_split (d := 35) (b := !y_5) rfl (fun hb14 => ?_) (fun hb14 => ?_)
          · have hx8 := ifT hb14 hx8
            refine WO_pure tbok 9 [(4, .int .i64 0), (35, .bool true)] rfl ⟨rfl, rfl, trivial⟩ ?_
            refine WO_skip rfl rfl ?_
            refine WO_pure tbok 2 [(4, .int .i64 0), (47, .bool true)] rfl ⟨rfl, rfl, trivial⟩ ?_
            refine WO_tail ?_
            refine WO_end ?_
            cases hx8
            refine WK.sub ?_ (WK.cls (fun _ h => h) hk9)
            exact ⟨rfl, rfl, trivial⟩
          · have hx8 := ifF hb14 hx8
            refine WO_pure tbok 1 [(0, .slice a_p0 p0.length c_p0), (3, .pointer (some ⟨b4, 0, none⟩)), (4, .int .i64 0), (35, .bool false), (36, .pointer (some ⟨b4, 2, none⟩))] rfl ⟨rfl, rfl, rfl, rfl, rfl, trivial⟩ ?_
            refine WO_loadB tbok 0 rfl rfl rfl rfl (fun _ h => h) rfl rfl ?_
            refine WO_pure tbok 3 [(3, .pointer (some ⟨b4, 0, none⟩)), (4, .int .i64 0), (35, .bool false), (37, .slice a_p1_2 p1_2.length c_p1_2), (40, .int .i64 (w64 ((p0.length : Int) - 1)))] rfl ⟨rfl, rfl, rfl, rfl, rfl, trivial⟩ ?_
            obtain ⟨v_6, hy15, hx8⟩ := bind_some hx8
            obtain ⟨hc16, hy15⟩ := ix_some hy15
            refine WO_index tbok rfl rfl rfl rfl rfl rfl rfl rfl (SlR.addr h_p1_2) hc16 ?_
            refine WO_loadR tbok rfl rfl rfl rfl (fun _ h => St.sat h) h_p1_2 hy15 rfl rfl (fun a17 c18 h19 => ?_)
            refine WO_pure tbok 1 [(4, .int .i64 0), (35, .bool false), (42, .slice a17 ((v_6).length) c18), (44, .pointer (some ⟨b4, 1, none⟩))] rfl ⟨rfl, rfl, rfl, rfl, trivial⟩ ?_
            refine WO_loadB tbok 0 rfl rfl rfl rfl (fun _ h => h) rfl rfl ?_
            obtain ⟨y_7, hc21, hx8⟩ := bind_some hx8
            refine WO_call0 (.int .i64 y_7) rfl rfl St_closed rfl rfl rfl rfl St_closed ⟨41, #[], #[], rfl, callable_41, fun w hw => ⟨_, hw.sat, slices_Min_sint_walk h19 hc21⟩⟩ ?_
            refine WO_pure tbok 2 [(4, .int .i64 0), (47, .bool (decide (y_7 < p1_1)))] rfl ⟨rfl, rfl, trivial⟩ ?_
            refine WO_tail ?_
            refine WO_end ?_
            cases hx8
            refine WK.sub ?_ (WK.cls (fun _ h => h) hk9)
            exact ⟨rfl, rfl, trivial⟩
theorem fiduciallaw50_known_walk {m : Mu}    {r : Bool} (hm : fiduciallaw50_known = some r) :
    Go.E.Spec Try.prog 11 [] m (fun v _ _ => v = .bool r) := by
  refine Spec_enter Try.func11 rfl rfl rfl (fun w0 => ?_)
  refine WK.sub (e' := []) trivial ?_
  refine WK.sub (e' := []) trivial ?_
  unfold fiduciallaw50_known at hm
  refine WK_seq ?_
  refine WK_region ?_
  refine WO_pure tbok 1 [(0, .bool false)] rfl ⟨rfl, trivial⟩ ?_
  refine WO_end ?_
  refine WK_seq ?_
  refine WK_region ?_
  refine WO_bslice (E := (I1 .i64)) tbok (fun _ => rfl) (by decide) [.int .i64 3, .int .i64 1, .int .i64 2] ([3, 1, 2] : List Int) rfl rfl trivial rfl rfl rfl rfl rfl rfl rfl rfl rfl rfl rfl rfl (fun b1 hb1 => ?_)
  refine WO.cls (C' := St w0 m m [[⟨b1, 3, ([3, 1, 2] : List Int).flatMap (I1 .i64)⟩]]) (fun _ h => h) ?_
  refine WO_bslice (E := (I1 .i64)) tbok (fun _ => rfl) (by decide) [.int .i64 5, .int .i64 4, .int .i64 0] ([5, 4, 0] : List Int) rfl rfl trivial rfl rfl rfl rfl rfl rfl rfl rfl rfl rfl rfl rfl (fun b3 hb3 => ?_)
  refine WO.cls (C' := St w0 m m [[⟨b1, 3, ([3, 1, 2] : List Int).flatMap (I1 .i64)⟩], [⟨b3, 3, ([5, 4, 0] : List Int).flatMap (I1 .i64)⟩]]) (fun _ h => h) ?_
  refine WO_bslice (E := (I1 .i64)) tbok (fun _ => rfl) (by decide) [.int .i64 1, .int .i64 9, .int .i64 9] ([1, 9, 9] : List Int) rfl rfl trivial rfl rfl rfl rfl rfl rfl rfl rfl rfl rfl rfl rfl (fun b5 hb5 => ?_)
  refine WO.cls (C' := St w0 m m [[⟨b1, 3, ([3, 1, 2] : List Int).flatMap (I1 .i64)⟩], [⟨b3, 3, ([5, 4, 0] : List Int).flatMap (I1 .i64)⟩], [⟨b5, 3, ([1, 9, 9] : List Int).flatMap (I1 .i64)⟩]]) (fun _ h => h) ?_
  refine WO_freeze 0 rfl (fun m8 hle9 hmm10 => ?_)
  refine WO.cls (C' := St w0 m m8 [[], [⟨b3, 3, ([5, 4, 0] : List Int).flatMap (I1 .i64)⟩], [⟨b5, 3, ([1, 9, 9] : List Int).flatMap (I1 .i64)⟩]]) (fun _ h => h) ?_
  refine WO_freeze 1 rfl (fun m11 hle12 hmm13 => ?_)
  refine WO.cls (C' := St w0 m m11 [[], [], [⟨b5, 3, ([1, 9, 9] : List Int).flatMap (I1 .i64)⟩]]) (fun _ h => h) ?_
  refine WO_freeze 2 rfl (fun m14 hle15 hmm16 => ?_)
  refine WO.cls (C' := St w0 m m14 [[], [], []]) (fun _ h => h) ?_
  refine WO_bsliceX (E := V1) (El := (RowE (FE (I1 .i64)) 1)) tbok (fun _ => rfl) (by decide) [.slice (some ⟨b1, 0, none⟩) 3 3, .slice (some ⟨b3, 0, none⟩) 3 3, .slice (some ⟨b5, 0, none⟩) 3 3] [.slice (some ⟨b1, 0, none⟩) 3 3, .slice (some ⟨b3, 0, none⟩) 3 3, .slice (some ⟨b5, 0, none⟩) 3 3] ([([3, 1, 2] : List Int), ([5, 4, 0] : List Int), ([1, 9, 9] : List Int)] : List (List Int)) rfl rfl trivial rfl rfl rfl rfl rfl rfl rfl rfl rfl rfl rfl rfl ⟨⟨_, rfl, (((OwnE.rd (E := (I1 .i64)) (k := 1) (fun _ => rfl) hb1 hmm10).mono (mono_FE _) hle12).mono (mono_FE _) hle15)⟩, ⟨_, rfl, ((OwnE.rd (E := (I1 .i64)) (k := 1) (fun _ => rfl) hb3 hmm13).mono (mono_FE _) hle15)⟩, ⟨_, rfl, (OwnE.rd (E := (I1 .i64)) (k := 1) (fun _ => rfl) hb5 hmm16)⟩, trivial⟩ (fun b7 hb7 => ?_)
  refine WO.cls (C' := St w0 m m14 [[], [], [], [⟨b7, 23, [.slice (some ⟨b1, 0, none⟩) 3 3, .slice (some ⟨b3, 0, none⟩) 3 3, .slice (some ⟨b5, 0, none⟩) 3 3]⟩]]) (fun _ h => h) ?_
  refine WO_pure tbok 1 [(0, .bool false), (1, .slice (some ⟨b7, 0, none⟩) 3 3)] rfl ⟨rfl, rfl, trivial⟩ ?_
  refine WO_end ?_
  refine WK_seq ?_
  refine WK_region ?_
  refine WO_pure tbok 1 [(0, .bool false), (1, .slice (some ⟨b7, 0, none⟩) 3 3), (11, .slice (some ⟨b7, 0, none⟩) 3 3)] rfl ⟨rfl, rfl, rfl, trivial⟩ ?_
  refine WO_freeze 3 rfl (fun m18 hle19 hmm20 => ?_)
  refine WO.cls (C' := St w0 m m18 [[], [], [], []]) (fun _ h => h) ?_
  obtain ⟨⟨y_1, y_2, y_3, y_4⟩, hc21, hm⟩ := bind_some hm
  refine WO_call2 (seam_Find_Q (y_1, y_2, y_3, y_4)) rfl rfl trivial rfl rfl rfl rfl ⟨19, #[], #[], rfl, callable_19, seam_Find_walk (OwnX.rd (E := V1) (k := 1) (fun _ => rfl) hb7 (mono_RowE (mono_FE _) _) hle19 hmm20) hc21⟩ (fun v29 m30 L28 hle31 hq => ?_)
  obtain ⟨a22, qa22, c23, a25, qa25, c26, rfl, h32, h33⟩ := hq
  obtain rfl := SlR.qlen h32
  obtain rfl := SlR.qlen h33
  refine WO.cls (C' := St w0 m m30 [[], [], [], [], L28]) (fun _ h => h.sub (by simp)) ?_
  refine WO_pure tbok 3 [(0, .bool false), (1, .slice (some ⟨b7, 0, none⟩) 3 3), (13, .agg #[.slice a22 ((y_1).length) c23, .int .i64 y_2, .slice a25 ((y_3).length) c26]), (14, .int .i64 y_4)] rfl ⟨rfl, rfl, rfl, rfl, trivial⟩ ?_
  refine WO_alloc tbok [.slice none 0 0, .int .i64 0, .slice none 0 0] rfl rfl trivial rfl rfl rfl rfl (fun b34 => ?_)
  refine WO.cls (C' := St w0 m m30 [[], [], [], [], L28, [⟨b34, 25, [.slice none 0 0, .int .i64 0, .slice none 0 0]⟩]]) (fun _ h => h) ?_
  refine WO_storeB tbok 5 [.slice a22 ((y_1).length) c23, .int .i64 y_2, .slice a25 ((y_3).length) c26] rfl rfl rfl rfl rfl rfl rfl ?_
  refine WO.cls (C' := St w0 m m30 [[], [], [], [], L28, [⟨b34, 25, [.slice a22 ((y_1).length) c23, .int .i64 y_2, .slice a25 ((y_3).length) c26]⟩]]) (fun _ h => h) ?_
  refine WO_pure tbok 1 [(0, .bool false), (1, .slice (some ⟨b7, 0, none⟩) 3 3), (2, .pointer (some ⟨b34, 0, none⟩)), (3, .int .i64 y_4)] rfl ⟨rfl, rfl, rfl, rfl, trivial⟩ ?_
  refine WO_end ?_
  refine WK_seq ?_
  refine WK_region ?_
  refine WO_bslice (E := (I1 .i64)) tbok (fun _ => rfl) (by decide) [.int .i64 1, .int .i64 2] ([1, 2] : List Int) rfl rfl trivial rfl rfl rfl rfl rfl rfl rfl rfl rfl rfl rfl rfl (fun b35 hb35 => ?_)
  refine WO.cls (C' := St w0 m m30 [[], [], [], [], L28, [⟨b34, 25, [.slice a22 ((y_1).length) c23, .int .i64 y_2, .slice a25 ((y_3).length) c26]⟩], [⟨b35, 3, ([1, 2] : List Int).flatMap (I1 .i64)⟩]]) (fun _ h => h) ?_
  refine WO_pure tbok 1 [(0, .bool false), (1, .slice (some ⟨b7, 0, none⟩) 3 3), (2, .pointer (some ⟨b34, 0, none⟩)), (3, .int .i64 y_4), (17, .agg #[.int .i64 2, .int .i64 1, .int .i64 9, .slice (some ⟨b35, 0, none⟩) 2 2])] rfl ⟨rfl, rfl, rfl, rfl, rfl, trivial⟩ ?_
  refine WO_bslice (E := (I1 .i64)) tbok (fun _ => rfl) (by decide) [.int .i64 3, .int .i64 4] ([3, 4] : List Int) rfl rfl trivial rfl rfl rfl rfl rfl rfl rfl rfl rfl rfl rfl rfl (fun b37 hb37 => ?_)
  refine WO.cls (C' := St w0 m m30 [[], [], [], [], L28, [⟨b34, 25, [.slice a22 ((y_1).length) c23, .int .i64 y_2, .slice a25 ((y_3).length) c26]⟩], [⟨b35, 3, ([1, 2] : List Int).flatMap (I1 .i64)⟩], [⟨b37, 3, ([3, 4] : List Int).flatMap (I1 .i64)⟩]]) (fun _ h => h) ?_
  refine WO_pure tbok 1 [(0, .bool false), (1, .slice (some ⟨b7, 0, none⟩) 3 3), (2, .pointer (some ⟨b34, 0, none⟩)), (3, .int .i64 y_4), (17, .agg #[.int .i64 2, .int .i64 1, .int .i64 9, .slice (some ⟨b35, 0, none⟩) 2 2]), (19, .agg #[.int .i64 2, .int .i64 1, .int .i64 9, .slice (some ⟨b37, 0, none⟩) 2 2])] rfl ⟨rfl, rfl, rfl, rfl, rfl, rfl, trivial⟩ ?_
  refine WO_bslice (E := (I1 .i64)) tbok (fun _ => rfl) (by decide) [.int .i64 1] ([1] : List Int) rfl rfl trivial rfl rfl rfl rfl rfl rfl rfl rfl rfl rfl rfl rfl (fun b39 hb39 => ?_)
  refine WO.cls (C' := St w0 m m30 [[], [], [], [], L28, [⟨b34, 25, [.slice a22 ((y_1).length) c23, .int .i64 y_2, .slice a25 ((y_3).length) c26]⟩], [⟨b35, 3, ([1, 2] : List Int).flatMap (I1 .i64)⟩], [⟨b37, 3, ([3, 4] : List Int).flatMap (I1 .i64)⟩], [⟨b39, 3, ([1] : List Int).flatMap (I1 .i64)⟩]]) (fun _ h => h) ?_
  obtain ⟨⟨y_5, y_6, y_7, y_8, y_9⟩, hc41, hm⟩ := bind_some hm
  refine WO_call1 (seam_Mosaic_Q (y_5, y_6, y_7, y_8, y_9)) rfl rfl trivial rfl rfl rfl rfl ⟨30, #[], #[], rfl, callable_30, fun w hw => ⟨_, hw.satV, seam_Mosaic_walk (OwnE.rd (E := (I1 .i64)) (k := 1) (fun _ => rfl) hb35 (fun _ hx => hw.memV (i := 6) rfl hx)) (OwnE.rd (E := (I1 .i64)) (k := 1) (fun _ => rfl) hb37 (fun _ hx => hw.memV (i := 7) rfl hx)) (OwnE.rd (E := (I1 .i64)) (k := 1) (fun _ => rfl) hb39 (fun _ hx => hw.memV (i := 8) rfl hx)) hc41⟩⟩ (fun v46 L45 hq => ?_)
  obtain ⟨a42, qa42, c43, rfl, hL45⟩ := hq
  obtain rfl := OwnE.qlen hL45
  refine WO.cls (C' := St w0 m m30 [[], [], [], [], L28, [⟨b34, 25, [.slice a22 ((y_1).length) c23, .int .i64 y_2, .slice a25 ((y_3).length) c26]⟩], [⟨b35, 3, ([1, 2] : List Int).flatMap (I1 .i64)⟩], [⟨b37, 3, ([3, 4] : List Int).flatMap (I1 .i64)⟩], [⟨b39, 3, ([1] : List Int).flatMap (I1 .i64)⟩], L45]) (fun _ h => h) ?_
  refine WO_pure tbok 3 [(0, .bool false), (1, .slice (some ⟨b7, 0, none⟩) 3 3), (2, .pointer (some ⟨b34, 0, none⟩)), (3, .int .i64 y_4), (22, .agg #[.int .i64 y_5, .int .i64 y_6, .int .i64 y_7, .slice a42 ((y_8).length) c43]), (23, .int .i64 y_9)] rfl ⟨rfl, rfl, rfl, rfl, rfl, rfl, trivial⟩ ?_
  refine WO_alloc tbok [.int .i64 0, .int .i64 0, .int .i64 0, .slice none 0 0] rfl rfl trivial rfl rfl rfl rfl (fun b47 => ?_)
  refine WO.cls (C' := St w0 m m30 [[], [], [], [], L28, [⟨b34, 25, [.slice a22 ((y_1).length) c23, .int .i64 y_2, .slice a25 ((y_3).length) c26]⟩], [⟨b35, 3, ([1, 2] : List Int).flatMap (I1 .i64)⟩], [⟨b37, 3, ([3, 4] : List Int).flatMap (I1 .i64)⟩], [⟨b39, 3, ([1] : List Int).flatMap (I1 .i64)⟩], L45, [⟨b47, 50, [.int .i64 0, .int .i64 0, .int .i64 0, .slice none 0 0]⟩]]) (fun _ h => h) ?_
  refine WO_storeB tbok 10 [.int .i64 y_5, .int .i64 y_6, .int .i64 y_7, .slice a42 ((y_8).length) c43] rfl rfl rfl rfl rfl rfl rfl ?_
  refine WO.cls (C' := St w0 m m30 [[], [], [], [], L28, [⟨b34, 25, [.slice a22 ((y_1).length) c23, .int .i64 y_2, .slice a25 ((y_3).length) c26]⟩], [⟨b35, 3, ([1, 2] : List Int).flatMap (I1 .i64)⟩], [⟨b37, 3, ([3, 4] : List Int).flatMap (I1 .i64)⟩], [⟨b39, 3, ([1] : List Int).flatMap (I1 .i64)⟩], L45, [⟨b47, 50, [.int .i64 y_5, .int .i64 y_6, .int .i64 y_7, .slice a42 ((y_8).length) c43]⟩]]) (fun _ h => h) ?_
  refine WO_pure tbok 1 [(0, .bool false), (1, .slice (some ⟨b7, 0, none⟩) 3 3), (2, .pointer (some ⟨b34, 0, none⟩)), (3, .int .i64 y_4), (4, .pointer (some ⟨b47, 0, none⟩)), (5, .int .i64 y_9)] rfl ⟨rfl, rfl, rfl, rfl, rfl, rfl, trivial⟩ ?_
  refine WO_end ?_
  refine WK_seq ?_
  refine WK_region ?_
  refine WO_pure tbok 3 [(0, .bool false), (1, .slice (some ⟨b7, 0, none⟩) 3 3), (2, .pointer (some ⟨b34, 0, none⟩)), (4, .pointer (some ⟨b47, 0, none⟩)), (5, .int .i64 y_9), (26, .bool (y_4 == 0))] rfl ⟨rfl, rfl, rfl, rfl, rfl, rfl, trivial⟩ ?_
  refine WO_split (d := 26) (b := y_4 == 0) rfl (fun hb48 => ?_) (fun hb48 => ?_)
  · have hm := ifT hb48 hm
    refine WO_pure tbok 4 [(0, .bool false), (1, .slice (some ⟨b7, 0, none⟩) 3 3), (2, .pointer (some ⟨b34, 0, none⟩)), (4, .pointer (some ⟨b47, 0, none⟩)), (30, .bool (y_9 == 0))] rfl ⟨rfl, rfl, rfl, rfl, rfl, trivial⟩ ?_
    refine WO_split (d := 30) (b := y_9 == 0) rfl (fun hb49 => ?_) (fun hb49 => ?_)
    · have hm := ifT hb49 hm
      refine WO_pure tbok 1 [(0, .bool false), (1, .slice (some ⟨b7, 0, none⟩) 3 3), (2, .pointer (some ⟨b34, 0, none⟩)), (4, .pointer (some ⟨b47, 0, none⟩)), (30, .bool true), (31, .pointer (some ⟨b34, 1, none⟩))] rfl ⟨rfl, rfl, rfl, rfl, rfl, rfl, trivial⟩ ?_
      refine WO_loadB tbok 5 rfl rfl rfl rfl (fun _ h => h) rfl rfl ?_
      refine WO_pure tbok 3 [(0, .bool false), (1, .slice (some ⟨b7, 0, none⟩) 3 3), (2, .pointer (some ⟨b34, 0, none⟩)), (4, .pointer (some ⟨b47, 0, none⟩)), (35, .bool (y_2 == 6))] rfl ⟨rfl, rfl, rfl, rfl, rfl, trivial⟩ ?_
      refine WO_split (d := 35) (b := y_2 == 6) rfl (fun hb50 => ?_) (fun hb50 => ?_)
      · have hm := ifT hb50 hm
        refine WO_pure tbok 1 [(0, .bool false), (1, .slice (some ⟨b7, 0, none⟩) 3 3), (2, .pointer (some ⟨b34, 0, none⟩)), (4, .pointer (some ⟨b47, 0, none⟩)), (35, .bool true), (36, .pointer (some ⟨b34, 0, none⟩))] rfl ⟨rfl, rfl, rfl, rfl, rfl, rfl, trivial⟩ ?_
        refine WO_loadB tbok 5 rfl rfl rfl rfl (fun _ h => h) rfl rfl ?_
        refine WO_bslice (E := (I1 .i64)) tbok (fun _ => rfl) (by decide) [.int .i64 1, .int .i64 1, .int .i64 0] ([1, 1, 0] : List Int) rfl rfl trivial rfl rfl rfl rfl rfl rfl rfl rfl rfl rfl rfl rfl (fun b51 hb51 => ?_)
        refine WO.cls (C' := St w0 m m30 [[], [], [], [], L28, [⟨b34, 25, [.slice a22 ((y_1).length) c23, .int .i64 y_2, .slice a25 ((y_3).length) c26]⟩], [⟨b35, 3, ([1, 2] : List Int).flatMap (I1 .i64)⟩], [⟨b37, 3, ([3, 4] : List Int).flatMap (I1 .i64)⟩], [⟨b39, 3, ([1] : List Int).flatMap (I1 .i64)⟩], L45, [⟨b47, 50, [.int .i64 y_5, .int .i64 y_6, .int .i64 y_7, .slice a42 ((y_8).length) c43]⟩], [⟨b51, 3, ([1, 1, 0] : List Int).flatMap (I1 .i64)⟩]]) (fun _ h => h) ?_
        obtain ⟨y_10, hc53, hm⟩ := bind_some hm
        refine WO_call0 (.bool y_10) rfl rfl trivial rfl rfl rfl rfl St_closed ⟨21, #[], #[], rfl, callable_21, fun w hw => ⟨_, hw.satV, slices_Equal_sint_walk (h32.mono (mono_FE _) hw.leV) (OwnE.rd (E := (I1 .i64)) (k := 1) (fun _ => rfl) hb51 (fun _ hx => hw.memV (i := 11) rfl hx)) hc53⟩⟩ ?_
        refine WO_pure tbok 2 [(0, .bool false), (1, .slice (some ⟨b7, 0, none⟩) 3 3), (2, .pointer (some ⟨b34, 0, none⟩)), (4, .pointer (some ⟨b47, 0, none⟩)), (41, .bool y_10)] rfl ⟨rfl, rfl, rfl, rfl, rfl, trivial⟩ ?_
        refine WO_split (d := 41) (b := y_10) rfl (fun hb54 => ?_) (fun hb54 => ?_)
        · have hm := ifT hb54 hm
          refine WO_pure tbok 1 [(0, .bool false), (1, .slice (some ⟨b7, 0, none⟩) 3 3), (2, .pointer (some ⟨b34, 0, none⟩)), (4, .pointer (some ⟨b47, 0, none⟩)), (41, .bool true), (42, .slice (some ⟨b7, 0, none⟩) 3 3)] rfl ⟨rfl, rfl, rfl, rfl, rfl, rfl, trivial⟩ ?_
          refine WO_loadB tbok 5 rfl rfl rfl rfl (fun _ h => h) rfl rfl ?_
          obtain ⟨y_11, hc55, hm⟩ := bind_some hm
          refine WO_call0 (.int .i64 y_11) rfl rfl trivial rfl rfl rfl rfl St_closed ⟨15, #[], #[], rfl, callable_15, fun w hw => ⟨_, hw.sat, seam_Prove_walk ((OwnX.rd (E := V1) (k := 1) (fun _ => rfl) hb7 (mono_RowE (mono_FE _) _) hle19 hmm20).mono (mono_RowE (mono_FE _) _) hle31) h32 h33 hc55⟩⟩ ?_
          refine WO_pure tbok 3 [(0, .bool false), (1, .slice (some ⟨b7, 0, none⟩) 3 3), (4, .pointer (some ⟨b47, 0, none⟩)), (47, .bool (y_11 == 0))] rfl ⟨rfl, rfl, rfl, rfl, trivial⟩ ?_
          refine WO_split (d := 47) (b := y_11 == 0) rfl (fun hb56 => ?_) (fun hb56 => ?_)
          · have hm := ifT hb56 hm
            refine WO_pure tbok 1 [(0, .bool false), (1, .slice (some ⟨b7, 0, none⟩) 3 3), (47, .bool true), (48, .pointer (some ⟨b47, 3, none⟩))] rfl ⟨rfl, rfl, rfl, rfl, trivial⟩ ?_
            refine WO_loadB tbok 10 rfl rfl rfl rfl (fun _ h => h) rfl rfl ?_
            refine WO_bslice (E := (I1 .i64)) tbok (fun _ => rfl) (by decide) [.int .i64 1, .int .i64 4] ([1, 4] : List Int) rfl rfl trivial rfl rfl rfl rfl rfl rfl rfl rfl rfl rfl rfl rfl (fun b57 hb57 => ?_)
            refine WO.cls (C' := St w0 m m30 [[], [], [], [], L28, [⟨b34, 25, [.slice a22 ((y_1).length) c23, .int .i64 y_2, .slice a25 ((y_3).length) c26]⟩], [⟨b35, 3, ([1, 2] : List Int).flatMap (I1 .i64)⟩], [⟨b37, 3, ([3, 4] : List Int).flatMap (I1 .i64)⟩], [⟨b39, 3, ([1] : List Int).flatMap (I1 .i64)⟩], L45, [⟨b47, 50, [.int .i64 y_5, .int .i64 y_6, .int .i64 y_7, .slice a42 ((y_8).length) c43]⟩], [⟨b51, 3, ([1, 1, 0] : List Int).flatMap (I1 .i64)⟩], [⟨b57, 3, ([1, 4] : List Int).flatMap (I1 .i64)⟩]]) (fun _ h => h) ?_
            obtain ⟨y_12, hc59, hm⟩ := bind_some hm
            refine WO_call0 (.bool y_12) rfl rfl trivial rfl rfl rfl rfl St_closed ⟨21, #[], #[], rfl, callable_21, fun w hw => ⟨_, hw.satV, slices_Equal_sint_walk (OwnE.rd (E := (I1 .i64)) (k := 1) (fun _ => rfl) hL45 (fun _ hx => hw.memV (i := 9) rfl hx)) (OwnE.rd (E := (I1 .i64)) (k := 1) (fun _ => rfl) hb57 (fun _ hx => hw.memV (i := 12) rfl hx)) hc59⟩⟩ ?_
            refine WO_pure tbok 2 [(0, .bool false), (1, .slice (some ⟨b7, 0, none⟩) 3 3), (53, .bool y_12)] rfl ⟨rfl, rfl, rfl, trivial⟩ ?_
            refine WO_split (d := 53) (b := y_12) rfl (fun hb60 => ?_) (fun hb60 => ?_)
            · have hm := ifT hb60 hm
              refine WO_pure tbok 1 [(0, .bool false), (53, .bool true), (54, .slice (some ⟨b7, 0, none⟩) 3 3)] rfl ⟨rfl, rfl, rfl, trivial⟩ ?_
              refine WO_bslice (E := (I1 .i64)) tbok (fun _ => rfl) (by decide) [.int .i64 1, .int .i64 1, .int .i64 0] ([1, 1, 0] : List Int) rfl rfl trivial rfl rfl rfl rfl rfl rfl rfl rfl rfl rfl rfl rfl (fun b61 hb61 => ?_)
              refine WO.cls (C' := St w0 m m30 [[], [], [], [], L28, [⟨b34, 25, [.slice a22 ((y_1).length) c23, .int .i64 y_2, .slice a25 ((y_3).length) c26]⟩], [⟨b35, 3, ([1, 2] : List Int).flatMap (I1 .i64)⟩], [⟨b37, 3, ([3, 4] : List Int).flatMap (I1 .i64)⟩], [⟨b39, 3, ([1] : List Int).flatMap (I1 .i64)⟩], L45, [⟨b47, 50, [.int .i64 y_5, .int .i64 y_6, .int .i64 y_7, .slice a42 ((y_8).length) c43]⟩], [⟨b51, 3, ([1, 1, 0] : List Int).flatMap (I1 .i64)⟩], [⟨b57, 3, ([1, 4] : List Int).flatMap (I1 .i64)⟩], [⟨b61, 3, ([1, 1, 0] : List Int).flatMap (I1 .i64)⟩]]) (fun _ h => h) ?_
              refine WO_bslice (E := (I1 .i64)) tbok (fun _ => rfl) (by decide) [.int .i64 3, .int .i64 1, .int .i64 2] ([3, 1, 2] : List Int) rfl rfl trivial rfl rfl rfl rfl rfl rfl rfl rfl rfl rfl rfl rfl (fun b63 hb63 => ?_)
              refine WO.cls (C' := St w0 m m30 [[], [], [], [], L28, [⟨b34, 25, [.slice a22 ((y_1).length) c23, .int .i64 y_2, .slice a25 ((y_3).length) c26]⟩], [⟨b35, 3, ([1, 2] : List Int).flatMap (I1 .i64)⟩], [⟨b37, 3, ([3, 4] : List Int).flatMap (I1 .i64)⟩], [⟨b39, 3, ([1] : List Int).flatMap (I1 .i64)⟩], L45, [⟨b47, 50, [.int .i64 y_5, .int .i64 y_6, .int .i64 y_7, .slice a42 ((y_8).length) c43]⟩], [⟨b51, 3, ([1, 1, 0] : List Int).flatMap (I1 .i64)⟩], [⟨b57, 3, ([1, 4] : List Int).flatMap (I1 .i64)⟩], [⟨b61, 3, ([1, 1, 0] : List Int).flatMap (I1 .i64)⟩], [⟨b63, 3, ([3, 1, 2] : List Int).flatMap (I1 .i64)⟩]]) (fun _ h => h) ?_
              refine WO_bslice (E := (I1 .i64)) tbok (fun _ => rfl) (by decide) [.int .i64 6, .int .i64 5, .int .i64 1] ([6, 5, 1] : List Int) rfl rfl trivial rfl rfl rfl rfl rfl rfl rfl rfl rfl rfl rfl rfl (fun b65 hb65 => ?_)
              refine WO.cls (C' := St w0 m m30 [[], [], [], [], L28, [⟨b34, 25, [.slice a22 ((y_1).length) c23, .int .i64 y_2, .slice a25 ((y_3).length) c26]⟩], [⟨b35, 3, ([1, 2] : List Int).flatMap (I1 .i64)⟩], [⟨b37, 3, ([3, 4] : List Int).flatMap (I1 .i64)⟩], [⟨b39, 3, ([1] : List Int).flatMap (I1 .i64)⟩], L45, [⟨b47, 50, [.int .i64 y_5, .int .i64 y_6, .int .i64 y_7, .slice a42 ((y_8).length) c43]⟩], [⟨b51, 3, ([1, 1, 0] : List Int).flatMap (I1 .i64)⟩], [⟨b57, 3, ([1, 4] : List Int).flatMap (I1 .i64)⟩], [⟨b61, 3, ([1, 1, 0] : List Int).flatMap (I1 .i64)⟩], [⟨b63, 3, ([3, 1, 2] : List Int).flatMap (I1 .i64)⟩], [⟨b65, 3, ([6, 5, 1] : List Int).flatMap (I1 .i64)⟩]]) (fun _ h => h) ?_
              refine WO_bslice (E := (I1 .i64)) tbok (fun _ => rfl) (by decide) [.int .i64 7, .int .i64 10, .int .i64 10] ([7, 10, 10] : List Int) rfl rfl trivial rfl rfl rfl rfl rfl rfl rfl rfl rfl rfl rfl rfl (fun b67 hb67 => ?_)
              refine WO.cls (C' := St w0 m m30 [[], [], [], [], L28, [⟨b34, 25, [.slice a22 ((y_1).length) c23, .int .i64 y_2, .slice a25 ((y_3).length) c26]⟩], [⟨b35, 3, ([1, 2] : List Int).flatMap (I1 .i64)⟩], [⟨b37, 3, ([3, 4] : List Int).flatMap (I1 .i64)⟩], [⟨b39, 3, ([1] : List Int).flatMap (I1 .i64)⟩], L45, [⟨b47, 50, [.int .i64 y_5, .int .i64 y_6, .int .i64 y_7, .slice a42 ((y_8).length) c43]⟩], [⟨b51, 3, ([1, 1, 0] : List Int).flatMap (I1 .i64)⟩], [⟨b57, 3, ([1, 4] : List Int).flatMap (I1 .i64)⟩], [⟨b61, 3, ([1, 1, 0] : List Int).flatMap (I1 .i64)⟩], [⟨b63, 3, ([3, 1, 2] : List Int).flatMap (I1 .i64)⟩], [⟨b65, 3, ([6, 5, 1] : List Int).flatMap (I1 .i64)⟩], [⟨b67, 3, ([7, 10, 10] : List Int).flatMap (I1 .i64)⟩]]) (fun _ h => h) ?_
              refine WO_freeze 14 rfl (fun m70 hle71 hmm72 => ?_)
              refine WO.cls (C' := St w0 m m70 [[], [], [], [], L28, [⟨b34, 25, [.slice a22 ((y_1).length) c23, .int .i64 y_2, .slice a25 ((y_3).length) c26]⟩], [⟨b35, 3, ([1, 2] : List Int).flatMap (I1 .i64)⟩], [⟨b37, 3, ([3, 4] : List Int).flatMap (I1 .i64)⟩], [⟨b39, 3, ([1] : List Int).flatMap (I1 .i64)⟩], L45, [⟨b47, 50, [.int .i64 y_5, .int .i64 y_6, .int .i64 y_7, .slice a42 ((y_8).length) c43]⟩], [⟨b51, 3, ([1, 1, 0] : List Int).flatMap (I1 .i64)⟩], [⟨b57, 3, ([1, 4] : List Int).flatMap (I1 .i64)⟩], [⟨b61, 3, ([1, 1, 0] : List Int).flatMap (I1 .i64)⟩], [], [⟨b65, 3, ([6, 5, 1] : List Int).flatMap (I1 .i64)⟩], [⟨b67, 3, ([7, 10, 10] : List Int).flatMap (I1 .i64)⟩]]) (fun _ h => h) ?_
              refine WO_freeze 15 rfl (fun m73 hle74 hmm75 => ?_)
              refine WO.cls (C' := St w0 m m73 [[], [], [], [], L28, [⟨b34, 25, [.slice a22 ((y_1).length) c23, .int .i64 y_2, .slice a25 ((y_3).length) c26]⟩], [⟨b35, 3, ([1, 2] : List Int).flatMap (I1 .i64)⟩], [⟨b37, 3, ([3, 4] : List Int).flatMap (I1 .i64)⟩], [⟨b39, 3, ([1] : List Int).flatMap (I1 .i64)⟩], L45, [⟨b47, 50, [.int .i64 y_5, .int .i64 y_6, .int .i64 y_7, .slice a42 ((y_8).length) c43]⟩], [⟨b51, 3, ([1, 1, 0] : List Int).flatMap (I1 .i64)⟩], [⟨b57, 3, ([1, 4] : List Int).flatMap (I1 .i64)⟩], [⟨b61, 3, ([1, 1, 0] : List Int).flatMap (I1 .i64)⟩], [], [], [⟨b67, 3, ([7, 10, 10] : List Int).flatMap (I1 .i64)⟩]]) (fun _ h => h) ?_
              refine WO_freeze 16 rfl (fun m76 hle77 hmm78 => ?_)
              refine WO.cls (C' := St w0 m m76 [[], [], [], [], L28, [⟨b34, 25, [.slice a22 ((y_1).length) c23, .int .i64 y_2, .slice a25 ((y_3).length) c26]⟩], [⟨b35, 3, ([1, 2] : List Int).flatMap (I1 .i64)⟩], [⟨b37, 3, ([3, 4] : List Int).flatMap (I1 .i64)⟩], [⟨b39, 3, ([1] : List Int).flatMap (I1 .i64)⟩], L45, [⟨b47, 50, [.int .i64 y_5, .int .i64 y_6, .int .i64 y_7, .slice a42 ((y_8).length) c43]⟩], [⟨b51, 3, ([1, 1, 0] : List Int).flatMap (I1 .i64)⟩], [⟨b57, 3, ([1, 4] : List Int).flatMap (I1 .i64)⟩], [⟨b61, 3, ([1, 1, 0] : List Int).flatMap (I1 .i64)⟩], [], [], []]) (fun _ h => h) ?_
              refine WO_bsliceX (E := V1) (El := (RowE (FE (I1 .i64)) 1)) tbok (fun _ => rfl) (by decide) [.slice (some ⟨b63, 0, none⟩) 3 3, .slice (some ⟨b65, 0, none⟩) 3 3, .slice (some ⟨b67, 0, none⟩) 3 3] [.slice (some ⟨b63, 0, none⟩) 3 3, .slice (some ⟨b65, 0, none⟩) 3 3, .slice (some ⟨b67, 0, none⟩) 3 3] ([([3, 1, 2] : List Int), ([6, 5, 1] : List Int), ([7, 10, 10] : List Int)] : List (List Int)) rfl rfl trivial rfl rfl rfl rfl rfl rfl rfl rfl rfl rfl rfl rfl ⟨⟨_, rfl, (((OwnE.rd (E := (I1 .i64)) (k := 1) (fun _ => rfl) hb63 hmm72).mono (mono_FE _) hle74).mono (mono_FE _) hle77)⟩, ⟨_, rfl, ((OwnE.rd (E := (I1 .i64)) (k := 1) (fun _ => rfl) hb65 hmm75).mono (mono_FE _) hle77)⟩, ⟨_, rfl, (OwnE.rd (E := (I1 .i64)) (k := 1) (fun _ => rfl) hb67 hmm78)⟩, trivial⟩ (fun b69 hb69 => ?_)
              refine WO.cls (C' := St w0 m m76 [[], [], [], [], L28, [⟨b34, 25, [.slice a22 ((y_1).length) c23, .int .i64 y_2, .slice a25 ((y_3).length) c26]⟩], [⟨b35, 3, ([1, 2] : List Int).flatMap (I1 .i64)⟩], [⟨b37, 3, ([3, 4] : List Int).flatMap (I1 .i64)⟩], [⟨b39, 3, ([1] : List Int).flatMap (I1 .i64)⟩], L45, [⟨b47, 50, [.int .i64 y_5, .int .i64 y_6, .int .i64 y_7, .slice a42 ((y_8).length) c43]⟩], [⟨b51, 3, ([1, 1, 0] : List Int).flatMap (I1 .i64)⟩], [⟨b57, 3, ([1, 4] : List Int).flatMap (I1 .i64)⟩], [⟨b61, 3, ([1, 1, 0] : List Int).flatMap (I1 .i64)⟩], [], [], [], [⟨b69, 23, [.slice (some ⟨b63, 0, none⟩) 3 3, .slice (some ⟨b65, 0, none⟩) 3 3, .slice (some ⟨b67, 0, none⟩) 3 3]⟩]]) (fun _ h => h) ?_
              refine WO_pure tbok 1 [(0, .bool false), (53, .bool true), (54, .slice (some ⟨b7, 0, none⟩) 3 3), (60, .agg #[.slice (some ⟨b61, 0, none⟩) 3 3, .int .i64 6, .slice (some ⟨b69, 0, none⟩) 3 3])] rfl ⟨rfl, rfl, rfl, rfl, trivial⟩ ?_
              obtain ⟨y_13, hc80, hm⟩ := bind_some hm
              refine WO_call0 (.int .i64 y_13) rfl rfl trivial rfl rfl rfl rfl St_closed ⟨15, #[], #[], rfl, callable_15, fun w hw => ⟨_, hw.satV, seam_Prove_walk ((((((OwnX.rd (E := V1) (k := 1) (fun _ => rfl) hb7 (mono_RowE (mono_FE _) _) hle19 hmm20).mono (mono_RowE (mono_FE _) _) hle31).mono (mono_RowE (mono_FE _) _) hle71).mono (mono_RowE (mono_FE _) _) hle74).mono (mono_RowE (mono_FE _) _) hle77).mono (mono_RowE (mono_FE _) _) hw.leV) (OwnE.rd (E := (I1 .i64)) (k := 1) (fun _ => rfl) hb61 (fun _ hx => hw.memV (i := 13) rfl hx)) (OwnX.rd (E := V1) (k := 1) (fun _ => rfl) hb69 (mono_RowE (mono_FE _) _) hw.leV (fun _ hx => hw.memV (i := 17) rfl hx)) hc80⟩⟩ ?_
              refine WO_pure tbok 3 [(0, .bool (y_13 == 12))] rfl ⟨rfl, trivial⟩ ?_
              refine WO_end ?_
              cases hm
              exact WK_ret (ret_out (L := []) (RLc_tmp rfl RLc_nil) (List.nil_sublist _) rfl)
            · have hm := ifF hb60 hm
              refine WO_pure tbok 1 [(0, .bool false), (53, .bool false)] rfl ⟨rfl, rfl, trivial⟩ ?_
              refine WO_skip rfl rfl ?_
              refine WO_skip rfl rfl ?_
              refine WO_skip rfl rfl ?_
              refine WO_skip rfl rfl ?_
              refine WO_skip rfl rfl ?_
              refine WO_pure tbok 1 [(0, .bool false), (53, .bool false)] rfl ⟨rfl, rfl, trivial⟩ ?_
              refine WO_skip rfl rfl ?_
              refine WO_pure tbok 3 [(0, .bool false)] rfl ⟨rfl, trivial⟩ ?_
              refine WO_end ?_
              cases hm
              exact WK_ret (ret_out (L := []) (RLc_tmp rfl RLc_nil) (List.nil_sublist _) rfl)
          · have hm := ifF hb56 hm
            refine WO_pure tbok 2 [(0, .bool false), (1, .slice (some ⟨b7, 0, none⟩) 3 3), (47, .bool false)] rfl ⟨rfl, rfl, rfl, trivial⟩ ?_
            refine WO_skip rfl rfl ?_
            refine WO_skip rfl rfl ?_
            refine WO_pure tbok 3 [(0, .bool false), (53, .bool false)] rfl ⟨rfl, rfl, trivial⟩ ?_
            refine WO_skip rfl rfl ?_
            refine WO_skip rfl rfl ?_
            refine WO_skip rfl rfl ?_
            refine WO_skip rfl rfl ?_
            refine WO_skip rfl rfl ?_
            refine WO_pure tbok 1 [(0, .bool false), (53, .bool false)] rfl ⟨rfl, rfl, trivial⟩ ?_
            refine WO_skip rfl rfl ?_
            refine WO_pure tbok 3 [(0, .bool false)] rfl ⟨rfl, trivial⟩ ?_
            refine WO_end ?_
            cases hm
            exact WK_ret (ret_out (L := []) (RLc_tmp rfl RLc_nil) (List.nil_sublist _) rfl)
        · have hm := ifF hb54 hm
          refine WO_pure tbok 2 [(0, .bool false), (1, .slice (some ⟨b7, 0, none⟩) 3 3), (4, .pointer (some ⟨b47, 0, none⟩)), (41, .bool false)] rfl ⟨rfl, rfl, rfl, rfl, trivial⟩ ?_
          refine WO_skip rfl rfl ?_
          refine WO_pure tbok 5 [(0, .bool false), (1, .slice (some ⟨b7, 0, none⟩) 3 3), (47, .bool false)] rfl ⟨rfl, rfl, rfl, trivial⟩ ?_
          refine WO_skip rfl rfl ?_
          refine WO_skip rfl rfl ?_
          refine WO_pure tbok 3 [(0, .bool false), (53, .bool false)] rfl ⟨rfl, rfl, trivial⟩ ?_
          refine WO_skip rfl rfl ?_
          refine WO_skip rfl rfl ?_
          refine WO_skip rfl rfl ?_
          refine WO_skip rfl rfl ?_
          refine WO_skip rfl rfl ?_
          refine WO_pure tbok 1 [(0, .bool false), (53, .bool false)] rfl ⟨rfl, rfl, trivial⟩ ?_
          refine WO_skip rfl rfl ?_
          refine WO_pure tbok 3 [(0, .bool false)] rfl ⟨rfl, trivial⟩ ?_
          refine WO_end ?_
          cases hm
          exact WK_ret (ret_out (L := []) (RLc_tmp rfl RLc_nil) (List.nil_sublist _) rfl)
      · have hm := ifF hb50 hm
        refine WO_pure tbok 2 [(0, .bool false), (1, .slice (some ⟨b7, 0, none⟩) 3 3), (2, .pointer (some ⟨b34, 0, none⟩)), (4, .pointer (some ⟨b47, 0, none⟩)), (35, .bool false)] rfl ⟨rfl, rfl, rfl, rfl, rfl, trivial⟩ ?_
        refine WO_skip rfl rfl ?_
        refine WO_skip rfl rfl ?_
        refine WO_pure tbok 4 [(0, .bool false), (1, .slice (some ⟨b7, 0, none⟩) 3 3), (4, .pointer (some ⟨b47, 0, none⟩)), (41, .bool false)] rfl ⟨rfl, rfl, rfl, rfl, trivial⟩ ?_
        refine WO_skip rfl rfl ?_
        refine WO_pure tbok 5 [(0, .bool false), (1, .slice (some ⟨b7, 0, none⟩) 3 3), (47, .bool false)] rfl ⟨rfl, rfl, rfl, trivial⟩ ?_
        refine WO_skip rfl rfl ?_
        refine WO_skip rfl rfl ?_
        refine WO_pure tbok 3 [(0, .bool false), (53, .bool false)] rfl ⟨rfl, rfl, trivial⟩ ?_
        refine WO_skip rfl rfl ?_
        refine WO_skip rfl rfl ?_
        refine WO_skip rfl rfl ?_
        refine WO_skip rfl rfl ?_
        refine WO_skip rfl rfl ?_
        refine WO_pure tbok 1 [(0, .bool false), (53, .bool false)] rfl ⟨rfl, rfl, trivial⟩ ?_
        refine WO_skip rfl rfl ?_
        refine WO_pure tbok 3 [(0, .bool false)] rfl ⟨rfl, trivial⟩ ?_
        refine WO_end ?_
        cases hm
        exact WK_ret (ret_out (L := []) (RLc_tmp rfl RLc_nil) (List.nil_sublist _) rfl)
    · have hm := ifF hb49 hm
      refine WO_pure tbok 7 [(0, .bool false), (1, .slice (some ⟨b7, 0, none⟩) 3 3), (2, .pointer (some ⟨b34, 0, none⟩)), (4, .pointer (some ⟨b47, 0, none⟩)), (35, .bool false)] rfl ⟨rfl, rfl, rfl, rfl, rfl, trivial⟩ ?_
      refine WO_skip rfl rfl ?_
      refine WO_skip rfl rfl ?_
      refine WO_pure tbok 4 [(0, .bool false), (1, .slice (some ⟨b7, 0, none⟩) 3 3), (4, .pointer (some ⟨b47, 0, none⟩)), (41, .bool false)] rfl ⟨rfl, rfl, rfl, rfl, trivial⟩ ?_
      refine WO_skip rfl rfl ?_
      refine WO_pure tbok 5 [(0, .bool false), (1, .slice (some ⟨b7, 0, none⟩) 3 3), (47, .bool false)] rfl ⟨rfl, rfl, rfl, trivial⟩ ?_
      refine WO_skip rfl rfl ?_
      refine WO_skip rfl rfl ?_
      refine WO_pure tbok 3 [(0, .bool false), (53, .bool false)] rfl ⟨rfl, rfl, trivial⟩ ?_
      refine WO_skip rfl rfl ?_
      refine WO_skip rfl rfl ?_
      refine WO_skip rfl rfl ?_
      refine WO_skip rfl rfl ?_
      refine WO_skip rfl rfl ?_
      refine WO_pure tbok 1 [(0, .bool false), (53, .bool false)] rfl ⟨rfl, rfl, trivial⟩ ?_
      refine WO_skip rfl rfl ?_
      refine WO_pure tbok 3 [(0, .bool false)] rfl ⟨rfl, trivial⟩ ?_
      refine WO_end ?_
      cases hm
      exact WK_ret (ret_out (L := []) (RLc_tmp rfl RLc_nil) (List.nil_sublist _) rfl)
  · have hm := ifF hb48 hm
    refine WO_pure tbok 11 [(0, .bool false), (1, .slice (some ⟨b7, 0, none⟩) 3 3), (2, .pointer (some ⟨b34, 0, none⟩)), (4, .pointer (some ⟨b47, 0, none⟩)), (35, .bool false)] rfl ⟨rfl, rfl, rfl, rfl, rfl, trivial⟩ ?_
    refine WO_skip rfl rfl ?_
    refine WO_skip rfl rfl ?_
    refine WO_pure tbok 4 [(0, .bool false), (1, .slice (some ⟨b7, 0, none⟩) 3 3), (4, .pointer (some ⟨b47, 0, none⟩)), (41, .bool false)] rfl ⟨rfl, rfl, rfl, rfl, trivial⟩ ?_
    refine WO_skip rfl rfl ?_
    refine WO_pure tbok 5 [(0, .bool false), (1, .slice (some ⟨b7, 0, none⟩) 3 3), (47, .bool false)] rfl ⟨rfl, rfl, rfl, trivial⟩ ?_
    refine WO_skip rfl rfl ?_
    refine WO_skip rfl rfl ?_
    refine WO_pure tbok 3 [(0, .bool false), (53, .bool false)] rfl ⟨rfl, rfl, trivial⟩ ?_
    refine WO_skip rfl rfl ?_
    refine WO_skip rfl rfl ?_
    refine WO_skip rfl rfl ?_
    refine WO_skip rfl rfl ?_
    refine WO_skip rfl rfl ?_
    refine WO_pure tbok 1 [(0, .bool false), (53, .bool false)] rfl ⟨rfl, rfl, trivial⟩ ?_
    refine WO_skip rfl rfl ?_
    refine WO_pure tbok 3 [(0, .bool false)] rfl ⟨rfl, trivial⟩ ?_
    refine WO_end ?_
    cases hm
    exact WK_ret (ret_out (L := []) (RLc_tmp rfl RLc_nil) (List.nil_sublist _) rfl)
theorem slices_IndexFunc_ssint_walk {m : Mu} {p0 : List (List Int)} {p1 : List Int → Option Bool} {a_p0 : Option Addr} {q_p0 c_p0 : Nat} {p1v : Value} (h_p0 : SlR (RowE (FE (I1 .i64)) 1) 1 m (.slice a_p0 q_p0 c_p0) p0) (hp1 : ∀ (m1 : Mu), Le m m1 → ∀ (au1 : Option Addr) (qu1 cu1 : Nat) (u1 : List Int), SlR (FE (I1 .i64)) 1 m1 (.slice au1 qu1 cu1) u1 → ∀ (r : Bool), p1 u1 = some r → SpecV Try.prog p1v [.slice au1 qu1 cu1] m1 (fun v _ _ => v = .bool r)) {r : Int} (hm : slices_IndexFunc_ssint p0 p1 = some r) :
    Go.E.Spec Try.prog 56 [.slice a_p0 q_p0 c_p0, p1v] m (fun v _ _ => v = .int .i64 r) := by
  refine Spec_enter Try.func56 rfl rfl rfl (fun w0 => ?_)
  refine WK.sub (e' := [(0, .slice a_p0 q_p0 c_p0), (1, p1v)]) ⟨rfl, rfl, trivial⟩ ?_
  obtain rfl := SlR.qlen h_p0
  refine WK.sub (e' := [(0, .slice a_p0 p0.length c_p0), (1, p1v)]) ⟨rfl, rfl, trivial⟩ ?_
  unfold slices_IndexFunc_ssint at hm
  refine WK_seq ?_
  refine WK_region ?_
  refine WO_pure tbok 1 [(0, .slice a_p0 p0.length c_p0), (1, p1v), (4, .int .i64 0)] rfl ⟨rfl, rfl, rfl, trivial⟩ ?_
  refine WO_end ?_
  refine WK_seq ?_
  refine WK_seq ?_
  refine WK_region ?_
  refine WO_pure tbok 3 [(0, .slice a_p0 p0.length c_p0), (1, p1v), (4, .int .i64 0), (7, .int .i64 (p0.length : Int)), (8, .int .i64 0)] rfl ⟨rfl, rfl, rfl, rfl, rfl, trivial⟩ ?_
  refine WO_end ?_
  obtain ⟨x2, hx3, hm⟩ := bind_some hm
  refine WK_join (β := Unit × Unit) (fun p => Sum.inr p.1 = x2) (fun p => [(4, .int .i64 0)]) (fun p => St w0 m m []) ?_ (fun hk4 => ?_)
  · rintro ⟨⟨⟩, ⟨⟩⟩ hq10
    subst hq10
    refine WK.sub (e' := [(4, .int .i64 0)]) ⟨rfl, trivial⟩ (WK.cls (C' := St w0 m m []) (fun _ h => h) ?_)
    refine WK_seq ?_
    refine WK_region ?_
    refine WO_pure tbok 1 [(4, .int .i64 (-1))] rfl ⟨rfl, trivial⟩ ?_
    refine WO_end ?_
    cases hm
    exact WK_ret (ret_out (L := []) (RLc_tmp rfl RLc_nil) (List.nil_sublist _) rfl)
  · refine WK_block ?_
    refine WK_loop (S := Int) (G := Unit) (fun s => slices_IndexFunc_ssint_s1 p0 p1 s) (fun s g => [(0, .slice a_p0 p0.length c_p0), (1, p1v), (4, .int .i64 0), (7, .int .i64 (p0.length : Int)), (8, .int .i64 s)]) (fun s g => St w0 m m []) (fun s g => True) FUEL 0 () x2 hx3 trivial ⟨rfl, rfl, rfl, rfl, rfl, trivial⟩ (fun _ h => h) ?_
    rintro s_1 ⟨⟩ o6 fl7 hm5 - hn8 hd9
    have hm5 : slices_IndexFunc_ssint_s1 p0 p1 s_1 = some o6 := hm5
    unfold slices_IndexFunc_ssint_s1 at hm5
    refine WK.sub (e' := [(0, .slice a_p0 p0.length c_p0), (1, p1v), (4, .int .i64 0), (7, .int .i64 (p0.length : Int)), (8, .int .i64 s_1)]) ⟨rfl, rfl, rfl, rfl, rfl, trivial⟩ (WK.cls (C' := St w0 m m []) (fun _ h => h) ?_)
    refine WK_seq ?_
    refine WK_region ?_
    refine WO_pure tbok 1 [(0, .slice a_p0 p0.length c_p0), (1, p1v), (4, .int .i64 0), (7, .int .i64 (p0.length : Int)), (8, .int .i64 s_1), (9, .bool (decide (s_1 < (p0.length : Int))))] rfl ⟨rfl, rfl, rfl, rfl, rfl, rfl, trivial⟩ ?_
    refine WO_end ?_
    refine WK_seq ?_
    refine WK_cond (b := decide (s_1 < (p0.length : Int))) rfl (fun hb11 => ?_) (fun hb11 => ?_)
    · have hm5 := ifT hb11 hm5
      refine WK_skip ?_
      refine WK_seq ?_
      refine WK_block ?_
      refine WK_seq ?_
      refine WK_region ?_
      refine WO_pure tbok 2 [(0, .slice a_p0 p0.length c_p0), (1, p1v), (4, .int .i64 0), (5, .int .i64 s_1), (7, .int .i64 (p0.length : Int)), (8, .int .i64 s_1)] rfl ⟨rfl, rfl, rfl, rfl, rfl, rfl, trivial⟩ ?_
      refine WO_end ?_
      refine WK_seq ?_
      refine WK_region ?_
      refine WO_pure tbok 3 [(0, .slice a_p0 p0.length c_p0), (1, p1v), (4, .int .i64 0), (5, .int .i64 s_1), (7, .int .i64 (p0.length : Int)), (8, .int .i64 s_1), (11, p1v), (12, .slice a_p0 p0.length c_p0), (13, .int .i64 s_1)] rfl ⟨rfl, rfl, rfl, rfl, rfl, rfl, rfl, rfl, rfl, trivial⟩ ?_
      obtain ⟨v_2, hy12, hm5⟩ := bind_some hm5
      obtain ⟨hc13, hy12⟩ := ix_some hy12
      refine WO_index tbok rfl rfl rfl rfl rfl rfl rfl rfl (SlR.addr h_p0) hc13 ?_
      refine WO_loadR tbok rfl rfl rfl rfl (fun _ h => St.sat h) h_p0 hy12 rfl rfl (fun a14 c15 h16 => ?_)
      obtain ⟨y_3, hc18, hm5⟩ := bind_some hm5
      obtain ⟨f0, first0, cap0, hf0, hcal0, hsp0⟩ := hp1 _ (Le.refl _) _ _ _ v_2 h16 _ hc18
      refine WO_call0 (.bool y_3) rfl rfl trivial rfl rfl rfl rfl St_closed ⟨f0, first0, cap0, hf0, hcal0, fun w hw => ⟨m, hw.sat, hsp0⟩⟩ ?_
      refine WO_end ?_
      refine WK_cond (b := y_3) rfl (fun hb19 => ?_) (fun hb19 => ?_)
      · have hm5 := ifT hb19 hm5
        refine WK_seq ?_
        refine WK_region ?_
        refine WO_pure tbok 2 [(0, .slice a_p0 p0.length c_p0), (1, p1v), (4, .int .i64 s_1), (7, .int .i64 (p0.length : Int)), (8, .int .i64 s_1)] rfl ⟨rfl, rfl, rfl, rfl, rfl, trivial⟩ ?_
        refine WO_end ?_
        cases hm5
        have hq := hd9 _ rfl
        subst hq
        have hm : some _ = some _ := hm
        cases hm
        exact WK_ret (ret_out (L := []) (RLc_tmp rfl RLc_nil) (List.nil_sublist _) rfl)
      · have hm5 := ifF hb19 hm5
        refine WK_skip ?_
        refine WK_blk ?_
        refine WK_region ?_
        refine WO_pure tbok 2 [(0, .slice a_p0 p0.length c_p0), (1, p1v), (4, .int .i64 0), (7, .int .i64 (p0.length : Int)), (8, .int .i64 (w64 (s_1 + 1)))] rfl ⟨rfl, rfl, rfl, rfl, rfl, trivial⟩ ?_
        refine WO_end ?_
        cases hm5
        refine WK.sub ?_ (WK.cls (fun _ h => h) (hn8 _ () rfl trivial))
        exact ⟨rfl, rfl, rfl, rfl, rfl, trivial⟩
    · have hm5 := ifF hb11 hm5
      refine WK_exit rfl ?_
      cases hm5
      refine WK.sub ?_ (WK.cls (fun _ h => h) (hk4 ((), ()) (hd9 _ rfl)))
      exact ⟨rfl, trivial⟩
theorem slices_ContainsFunc_ssint_walk {m : Mu} {p0 : List (List Int)} {p1 : List Int → Option Bool} {a_p0 : Option Addr} {q_p0 c_p0 : Nat} {p1v : Value} (h_p0 : SlR (RowE (FE (I1 .i64)) 1) 1 m (.slice a_p0 q_p0 c_p0) p0) (hp1 : ∀ (m1 : Mu), Le m m1 → ∀ (au1 : Option Addr) (qu1 cu1 : Nat) (u1 : List Int), SlR (FE (I1 .i64)) 1 m1 (.slice au1 qu1 cu1) u1 → ∀ (r : Bool), p1 u1 = some r → SpecV Try.prog p1v [.slice au1 qu1 cu1] m1 (fun v _ _ => v = .bool r)) {r : Bool} (hm : slices_ContainsFunc_ssint p0 p1 = some r) :
    Go.E.Spec Try.prog 36 [.slice a_p0 q_p0 c_p0, p1v] m (fun v _ _ => v = .bool r) := by
  refine Spec_enter Try.func36 rfl rfl rfl (fun w0 => ?_)
  refine WK.sub (e' := [(0, .slice a_p0 q_p0 c_p0), (1, p1v)]) ⟨rfl, rfl, trivial⟩ ?_
  obtain rfl := SlR.qlen h_p0
  refine WK.sub (e' := [(0, .slice a_p0 p0.length c_p0), (1, p1v)]) ⟨rfl, rfl, trivial⟩ ?_
  unfold slices_ContainsFunc_ssint at hm
  refine WK_seq ?_
  refine WK_region ?_
  refine WO_pure tbok 1 [(0, .slice a_p0 p0.length c_p0), (1, p1v), (4, .bool false)] rfl ⟨rfl, rfl, rfl, trivial⟩ ?_
  refine WO_end ?_
  refine WK_seq ?_
  refine WK_region ?_
  refine WO_pure tbok 2 [(4, .bool false), (5, .slice a_p0 p0.length c_p0), (6, p1v)] rfl ⟨rfl, rfl, rfl, trivial⟩ ?_
  obtain ⟨y_1, hc2, hm⟩ := bind_some hm
  refine WO_call0 (.int .i64 y_1) rfl rfl trivial rfl rfl rfl rfl St_closed ⟨56, #[], #[], rfl, callable_56, fun w hw => ⟨_, hw.sat, slices_IndexFunc_ssint_walk h_p0 hp1 hc2⟩⟩ ?_
  refine WO_pure tbok 2 [(4, .bool (decide (0 ≤ y_1)))] rfl ⟨rfl, trivial⟩ ?_
  refine WO_end ?_
  cases hm
  exact WK_ret (ret_out (L := []) (RLc_tmp rfl RLc_nil) (List.nil_sublist _) rfl)
theorem fiduciallaw50_Few_c1_walk {m : Mu} {p0 : List Int} {a_p0 : Option Addr} {q_p0 c_p0 : Nat} (h_p0 : SlR (FE (I1 .i64)) 1 m (.slice a_p0 q_p0 c_p0) p0) {r : Bool} (hm : fiduciallaw50_Few_c1 p0 = some r) :
    Go.E.Spec Try.prog 37 [.slice a_p0 q_p0 c_p0] m (fun v _ _ => v = .bool r) := by
  refine Spec_enter Try.func37 rfl rfl rfl (fun w0 => ?_)
  refine WK.sub (e' := [(0, .slice a_p0 q_p0 c_p0)]) ⟨rfl, trivial⟩ ?_
  obtain rfl := SlR.qlen h_p0
  refine WK.sub (e' := [(0, .slice a_p0 p0.length c_p0)]) ⟨rfl, trivial⟩ ?_
  unfold fiduciallaw50_Few_c1 at hm
  refine WK_seq ?_
  refine WK_region ?_
  refine WO_pure tbok 1 [(0, .slice a_p0 p0.length c_p0), (2, .bool false)] rfl ⟨rfl, rfl, trivial⟩ ?_
  refine WO_end ?_
  refine WK_seq ?_
  refine WK_region ?_
  refine WO_pure tbok 4 [(2, .bool (decide (7 < (p0.length : Int))))] rfl ⟨rfl, trivial⟩ ?_
  refine WO_end ?_
  cases hm
  exact WK_ret (ret_out (L := []) (RLc_tmp rfl RLc_nil) (List.nil_sublist _) rfl)
theorem fiduciallaw50_Few_walk {m : Mu} {p0 : List (List Int)} {a_p0 : Option Addr} {q_p0 c_p0 : Nat} (h_p0 : SlR (RowE (FE (I1 .i64)) 1) 1 m (.slice a_p0 q_p0 c_p0) p0) {r : Bool} (hm : fiduciallaw50_Few p0 = some r) :
    Go.E.Spec Try.prog 12 [.slice a_p0 q_p0 c_p0] m (fun v _ _ => v = .bool r) := by
  refine Spec_enter Try.func12 rfl rfl rfl (fun w0 => ?_)
  refine WK.sub (e' := [(0, .slice a_p0 q_p0 c_p0)]) ⟨rfl, trivial⟩ ?_
  obtain rfl := SlR.qlen h_p0
  refine WK.sub (e' := [(0, .slice a_p0 p0.length c_p0)]) ⟨rfl, trivial⟩ ?_
  unfold fiduciallaw50_Few at hm
  refine WK_seq ?_
  refine WK_region ?_
  refine WO_pure tbok 1 [(0, .slice a_p0 p0.length c_p0), (2, .bool false)] rfl ⟨rfl, rfl, trivial⟩ ?_
  refine WO_end ?_
  refine WK_seq ?_
  refine WK_region ?_
  refine WO_pure tbok 4 [(0, .slice a_p0 p0.length c_p0), (2, .bool false), (6, .bool (decide ((p0.length : Int) ≤ 7)))] rfl ⟨rfl, rfl, rfl, trivial⟩ ?_
  refine WO_split (d := 6) (b := decide ((p0.length : Int) ≤ 7)) rfl (fun hb2 => ?_) (fun hb2 => ?_)
  · have hm := ifT hb2 hm
    refine WO_pure tbok 1 [(2, .bool false), (6, .bool true), (7, .slice a_p0 p0.length c_p0)] rfl ⟨rfl, rfl, rfl, trivial⟩ ?_
    obtain ⟨y_2, hc4, hm⟩ := bind_some hm
    refine WO_call0 (.bool y_2) rfl rfl trivial rfl rfl rfl rfl St_closed ⟨36, #[], #[], rfl, callable_36, fun w hw => ⟨_, hw.sat, slices_ContainsFunc_ssint_walk h_p0 (fun m1 hm1 _ _ _ z_1 h3 _ h => specV_cap callable_37 (fiduciallaw50_Few_c1_walk h3 h)) hc4⟩⟩ ?_
    refine WO_pure tbok 3 [(2, .bool (!y_2))] rfl ⟨rfl, trivial⟩ ?_
    refine WO_end ?_
    cases hm
    exact WK_ret (ret_out (L := []) (RLc_tmp rfl RLc_nil) (List.nil_sublist _) rfl)
  · have hm := ifF hb2 hm
    refine WO_pure tbok 1 [(2, .bool false), (6, .bool false)] rfl ⟨rfl, rfl, trivial⟩ ?_
    refine WO_skip rfl rfl ?_
    refine WO_pure tbok 3 [(2, .bool false)] rfl ⟨rfl, trivial⟩ ?_
    refine WO_end ?_
    cases hm
    exact WK_ret (ret_out (L := []) (RLc_tmp rfl RLc_nil) (List.nil_sublist _) rfl)
theorem fiduciallaw50_SeamProves_c1_walk {m : Mu} {p0 : Int}   {r : Bool} (hm : fiduciallaw50_SeamProves_c1 p0 = some r) :
    Go.E.Spec Try.prog 14 [.int .i64 p0] m (fun v _ _ => v = .bool r) := by
  refine Spec_enter Try.func14 rfl rfl rfl (fun w0 => ?_)
  refine WK.sub (e' := [(0, .int .i64 p0)]) ⟨rfl, trivial⟩ ?_
  refine WK.sub (e' := [(0, .int .i64 p0)]) ⟨rfl, trivial⟩ ?_
  unfold fiduciallaw50_SeamProves_c1 at hm
  refine WK_seq ?_
  refine WK_region ?_
  refine WO_pure tbok 1 [(0, .int .i64 p0), (2, .bool false)] rfl ⟨rfl, rfl, trivial⟩ ?_
  refine WO_end ?_
  refine WK_seq ?_
  refine WK_region ?_
  refine WO_pure tbok 3 [(0, .int .i64 p0), (2, .bool false), (5, .bool (decide (1099511627776 < p0)))] rfl ⟨rfl, rfl, rfl, trivial⟩ ?_
  refine WO_split (d := 5) (b := decide (1099511627776 < p0)) rfl (fun hb1 => ?_) (fun hb1 => ?_)
  · have hm := ifT hb1 hm
    refine WO_pure tbok 4 [(2, .bool true)] rfl ⟨rfl, trivial⟩ ?_
    refine WO_end ?_
    cases hm
    exact WK_ret (ret_out (L := []) (RLc_tmp rfl RLc_nil) (List.nil_sublist _) rfl)
  · have hm := ifF hb1 hm
    refine WO_pure tbok 4 [(2, .bool (decide (p0 < (-1099511627776))))] rfl ⟨rfl, trivial⟩ ?_
    refine WO_end ?_
    cases hm
    exact WK_ret (ret_out (L := []) (RLc_tmp rfl RLc_nil) (List.nil_sublist _) rfl)
theorem fiduciallaw50_Checked_c1_walk {m : Mu} {p0 : Int}   {r : Bool} (hm : fiduciallaw50_Checked_c1 p0 = some r) :
    Go.E.Spec Try.prog 43 [.int .i64 p0] m (fun v _ _ => v = .bool r) := by
  refine Spec_enter Try.func43 rfl rfl rfl (fun w0 => ?_)
  refine WK.sub (e' := [(0, .int .i64 p0)]) ⟨rfl, trivial⟩ ?_
  refine WK.sub (e' := [(0, .int .i64 p0)]) ⟨rfl, trivial⟩ ?_
  unfold fiduciallaw50_Checked_c1 at hm
  refine WK_seq ?_
  refine WK_region ?_
  refine WO_pure tbok 1 [(0, .int .i64 p0), (2, .bool false)] rfl ⟨rfl, rfl, trivial⟩ ?_
  refine WO_end ?_
  refine WK_seq ?_
  refine WK_region ?_
  refine WO_pure tbok 3 [(0, .int .i64 p0), (2, .bool false), (5, .bool (decide (p0 < 0)))] rfl ⟨rfl, rfl, rfl, trivial⟩ ?_
  refine WO_split (d := 5) (b := decide (p0 < 0)) rfl (fun hb1 => ?_) (fun hb1 => ?_)
  · have hm := ifT hb1 hm
    refine WO_pure tbok 4 [(2, .bool true)] rfl ⟨rfl, trivial⟩ ?_
    refine WO_end ?_
    cases hm
    exact WK_ret (ret_out (L := []) (RLc_tmp rfl RLc_nil) (List.nil_sublist _) rfl)
  · have hm := ifF hb1 hm
    refine WO_pure tbok 4 [(2, .bool (decide (1048576 < p0)))] rfl ⟨rfl, trivial⟩ ?_
    refine WO_end ?_
    cases hm
    exact WK_ret (ret_out (L := []) (RLc_tmp rfl RLc_nil) (List.nil_sublist _) rfl)
theorem fiduciallaw50_Checked_walk {m : Mu} {p0 : List (List Int)} {a_p0 : Option Addr} {q_p0 c_p0 : Nat} (h_p0 : SlR (RowE (FE (I1 .i64)) 1) 1 m (.slice a_p0 q_p0 c_p0) p0) {r : Int} (hm : fiduciallaw50_Checked p0 = some r) :
    Go.E.Spec Try.prog 17 [.slice a_p0 q_p0 c_p0] m (fun v _ _ => v = .int .i64 r) := by
  refine Spec_enter Try.func17 rfl rfl rfl (fun w0 => ?_)
  refine WK.sub (e' := [(0, .slice a_p0 q_p0 c_p0)]) ⟨rfl, trivial⟩ ?_
  obtain rfl := SlR.qlen h_p0
  refine WK.sub (e' := [(0, .slice a_p0 p0.length c_p0)]) ⟨rfl, trivial⟩ ?_
  unfold fiduciallaw50_Checked at hm
  refine WK_seq ?_
  refine WK_region ?_
  refine WO_pure tbok 1 [(0, .slice a_p0 p0.length c_p0), (2, .int .i64 0)] rfl ⟨rfl, rfl, trivial⟩ ?_
  refine WO_end ?_
  refine WK_seq ?_
  refine WK_seq ?_
  obtain ⟨s_1, hx2, hm⟩ := bind_some hm
  refine WK_meet [(0, .slice a_p0 p0.length c_p0), (2, .int .i64 0), (26, .bool s_1)] (St w0 m m []) ?_ (fun hk3 => ?_)
  · refine WK_cond (b := s_1) rfl (fun hb4 => ?_) (fun hb4 => ?_)
    · have hm := ifT hb4 hm
      refine WK_seq ?_
      refine WK_region ?_
      refine WO_pure tbok 1 [(0, .slice a_p0 p0.length c_p0), (2, .int .i64 3)] rfl ⟨rfl, rfl, trivial⟩ ?_
      refine WO_end ?_
      cases hm
      exact WK_ret (ret_out (L := []) (RLc_tmp rfl RLc_nil) (List.nil_sublist _) rfl)
    · have hm := ifF hb4 hm
      refine WK_skip ?_
      refine WK_seq ?_
      refine WK_seq ?_
      refine WK_region ?_
      refine WO_pure tbok 3 [(0, .slice a_p0 p0.length c_p0), (2, .int .i64 0), (27, .slice a_p0 p0.length c_p0), (28, .int .i64 (p0.length : Int)), (29, .int .i64 0)] rfl ⟨rfl, rfl, rfl, rfl, rfl, trivial⟩ ?_
      refine WO_end ?_
      obtain ⟨x5, hx6, hm⟩ := bind_some hm
      refine WK_join (β := Unit × Unit) (fun p => Sum.inr p.1 = x5) (fun p => [(2, .int .i64 0)]) (fun p => St w0 m m []) ?_ (fun hk7 => ?_)
      · rintro ⟨⟨⟩, ⟨⟩⟩ hq13
        subst hq13
        refine WK.sub (e' := [(2, .int .i64 0)]) ⟨rfl, trivial⟩ (WK.cls (C' := St w0 m m []) (fun _ h => h) ?_)
        refine WK_seq ?_
        refine WK_region ?_
        refine WO_pure tbok 1 [(2, .int .i64 0)] rfl ⟨rfl, trivial⟩ ?_
        refine WO_end ?_
        cases hm
        exact WK_ret (ret_out (L := []) (RLc_tmp rfl RLc_nil) (List.nil_sublist _) rfl)
      · refine WK_block ?_
        refine WK_loop (S := Int) (G := Unit) (fun s => fiduciallaw50_Checked_s1 p0 s) (fun s g => [(0, .slice a_p0 p0.length c_p0), (2, .int .i64 0), (27, .slice a_p0 p0.length c_p0), (28, .int .i64 (p0.length : Int)), (29, .int .i64 s)]) (fun s g => St w0 m m []) (fun s g => True) FUEL 0 () x5 hx6 trivial ⟨rfl, rfl, rfl, rfl, rfl, trivial⟩ (fun _ h => h) ?_
        rintro s_2 ⟨⟩ o9 fl10 hm8 - hn11 hd12
        have hm8 : fiduciallaw50_Checked_s1 p0 s_2 = some o9 := hm8
        unfold fiduciallaw50_Checked_s1 at hm8
        refine WK.sub (e' := [(0, .slice a_p0 p0.length c_p0), (2, .int .i64 0), (27, .slice a_p0 p0.length c_p0), (28, .int .i64 (p0.length : Int)), (29, .int .i64 s_2)]) ⟨rfl, rfl, rfl, rfl, rfl, trivial⟩ (WK.cls (C' := St w0 m m []) (fun _ h => h) ?_)
        refine WK_seq ?_
        refine WK_region ?_
        refine WO_pure tbok 1 [(0, .slice a_p0 p0.length c_p0), (2, .int .i64 0), (27, .slice a_p0 p0.length c_p0), (28, .int .i64 (p0.length : Int)), (29, .int .i64 s_2), (30, .bool (decide (s_2 < (p0.length : Int))))] rfl ⟨rfl, rfl, rfl, rfl, rfl, rfl, trivial⟩ ?_
        refine WO_end ?_
        refine WK_seq ?_
        refine WK_cond (b := decide (s_2 < (p0.length : Int))) rfl (fun hb14 => ?_) (fun hb14 => ?_)
        · have hm8 := ifT hb14 hm8
          refine WK_skip ?_
          refine WK_seq ?_
          refine WK_block ?_
          refine WK_seq ?_
          refine WK_region ?_
          obtain ⟨v_3, hy15, hm8⟩ := bind_some hm8
          obtain ⟨hc16, hy15⟩ := ix_some hy15
          refine WO_index tbok rfl rfl rfl rfl rfl rfl rfl rfl (SlR.addr h_p0) hc16 ?_
          refine WO_loadR tbok rfl rfl rfl rfl (fun _ h => St.sat h) h_p0 hy15 rfl rfl (fun a17 c18 h19 => ?_)
          refine WO_pure tbok 1 [(0, .slice a_p0 p0.length c_p0), (2, .int .i64 0), (4, .slice a17 ((v_3).length) c18), (27, .slice a_p0 p0.length c_p0), (28, .int .i64 (p0.length : Int)), (29, .int .i64 s_2)] rfl ⟨rfl, rfl, rfl, rfl, rfl, rfl, trivial⟩ ?_
          refine WO_end ?_
          refine WK_seq ?_
          refine WK_seq ?_
          refine WK_region ?_
          refine WO_pure tbok 3 [(0, .slice a_p0 p0.length c_p0), (2, .int .i64 0), (4, .slice a17 ((v_3).length) c18), (27, .slice a_p0 p0.length c_p0), (28, .int .i64 (p0.length : Int)), (29, .int .i64 s_2), (34, .int .i64 ((v_3).length : Int)), (35, .slice a_p0 p0.length c_p0)] rfl ⟨rfl, rfl, rfl, rfl, rfl, rfl, rfl, rfl, trivial⟩ ?_
          obtain ⟨v_4, hy21, hm8⟩ := bind_some hm8
          obtain ⟨hc22, hy21⟩ := ix_some hy21
          refine WO_index tbok rfl rfl rfl rfl rfl rfl rfl rfl (SlR.addr h_p0) hc22 ?_
          refine WO_loadR tbok rfl rfl rfl rfl (fun _ h => St.sat h) h_p0 hy21 rfl rfl (fun a23 c24 h25 => ?_)
          refine WO_pure tbok 2 [(0, .slice a_p0 p0.length c_p0), (2, .int .i64 0), (4, .slice a17 ((v_3).length) c18), (27, .slice a_p0 p0.length c_p0), (28, .int .i64 (p0.length : Int)), (29, .int .i64 s_2), (39, .bool (((v_3).length : Int) != ((v_4).length : Int)))] rfl ⟨rfl, rfl, rfl, rfl, rfl, rfl, rfl, trivial⟩ ?_
          refine WO_end ?_
          refine WK_cond (b := ((v_3).length : Int) != ((v_4).length : Int)) rfl (fun hb27 => ?_) (fun hb27 => ?_)
          · have hm8 := ifT hb27 hm8
            refine WK_seq ?_
            refine WK_region ?_
            refine WO_pure tbok 1 [(0, .slice a_p0 p0.length c_p0), (2, .int .i64 4), (4, .slice a17 ((v_3).length) c18), (27, .slice a_p0 p0.length c_p0), (28, .int .i64 (p0.length : Int)), (29, .int .i64 s_2)] rfl ⟨rfl, rfl, rfl, rfl, rfl, rfl, trivial⟩ ?_
            refine WO_end ?_
            cases hm8
            have hq := hd12 _ rfl
            subst hq
            have hm : some _ = some _ := hm
            cases hm
            exact WK_ret (ret_out (L := []) (RLc_tmp rfl RLc_nil) (List.nil_sublist _) rfl)
          · have hm8 := ifF hb27 hm8
            refine WK_skip ?_
            refine WK_seq ?_
            refine WK_region ?_
            refine WO_pure tbok 1 [(0, .slice a_p0 p0.length c_p0), (2, .int .i64 0), (27, .slice a_p0 p0.length c_p0), (28, .int .i64 (p0.length : Int)), (29, .int .i64 s_2), (40, .slice a17 ((v_3).length) c18)] rfl ⟨rfl, rfl, rfl, rfl, rfl, rfl, trivial⟩ ?_
            obtain ⟨y_6, hc28, hm8⟩ := bind_some hm8
            refine WO_call0 (.bool y_6) rfl rfl trivial rfl rfl rfl rfl St_closed ⟨13, #[], #[], rfl, callable_13, fun w hw => ⟨_, hw.sat, slices_ContainsFunc_sint_walk h19 (fun m1 hm1 z_5 _ h => specV_cap callable_43 (fiduciallaw50_Checked_c1_walk h)) hc28⟩⟩ ?_
            refine WO_end ?_
            refine WK_cond (b := y_6) rfl (fun hb29 => ?_) (fun hb29 => ?_)
            · have hm8 := ifT hb29 hm8
              refine WK_seq ?_
              refine WK_region ?_
              refine WO_pure tbok 1 [(0, .slice a_p0 p0.length c_p0), (2, .int .i64 2), (27, .slice a_p0 p0.length c_p0), (28, .int .i64 (p0.length : Int)), (29, .int .i64 s_2)] rfl ⟨rfl, rfl, rfl, rfl, rfl, trivial⟩ ?_
              refine WO_end ?_
              cases hm8
              have hq := hd12 _ rfl
              subst hq
              have hm : some _ = some _ := hm
              cases hm
              exact WK_ret (ret_out (L := []) (RLc_tmp rfl RLc_nil) (List.nil_sublist _) rfl)
            · have hm8 := ifF hb29 hm8
              refine WK_skip ?_
              refine WK_blk ?_
              refine WK_region ?_
              refine WO_pure tbok 2 [(0, .slice a_p0 p0.length c_p0), (2, .int .i64 0), (27, .slice a_p0 p0.length c_p0), (28, .int .i64 (p0.length : Int)), (29, .int .i64 (w64 (s_2 + 1)))] rfl ⟨rfl, rfl, rfl, rfl, rfl, trivial⟩ ?_
              refine WO_end ?_
              cases hm8
              refine WK.sub ?_ (WK.cls (fun _ h => h) (hn11 _ () rfl trivial))
              exact ⟨rfl, rfl, rfl, rfl, rfl, trivial⟩
        · have hm8 := ifF hb14 hm8
          refine WK_exit rfl ?_
          cases hm8
          refine WK.sub ?_ (WK.cls (fun _ h => h) (hk7 ((), ()) (hd12 _ rfl)))
          exact ⟨rfl, trivial⟩
  · refine WK_region ?_
    refine WO_pure tbok 4 [(0, .slice a_p0 p0.length c_p0), (2, .int .i64 0), (8, .bool (decide ((p0.length : Int) < 1)))] rfl ⟨rfl, rfl, rfl, trivial⟩ ?_
    refine WO_split (d := 8) (b := decide ((p0.length : Int) < 1)) rfl (fun hb30 => ?_) (fun hb30 => ?_)
    · have hx2 := ifT hb30 hx2
      refine WO_pure tbok 18 [(0, .slice a_p0 p0.length c_p0), (2, .int .i64 0), (26, .bool true)] rfl ⟨rfl, rfl, rfl, trivial⟩ ?_
      refine WO_end ?_
      cases hx2
      refine WK.sub ?_ (WK.cls (fun _ h => h) hk3)
      exact ⟨rfl, rfl, rfl, trivial⟩
    · have hx2 := ifF hb30 hx2
      refine WO_pure tbok 5 [(0, .slice a_p0 p0.length c_p0), (2, .int .i64 0), (13, .bool (decide (64 < (p0.length : Int))))] rfl ⟨rfl, rfl, rfl, trivial⟩ ?_
      refine WO_split (d := 13) (b := decide (64 < (p0.length : Int))) rfl (fun hb31 => ?_) (fun hb31 => ?_)
      · have hx2 := ifT hb31 hx2
        refine WO_pure tbok 13 [(0, .slice a_p0 p0.length c_p0), (2, .int .i64 0), (26, .bool true)] rfl ⟨rfl, rfl, rfl, trivial⟩ ?_
        refine WO_end ?_
        cases hx2
        refine WK.sub ?_ (WK.cls (fun _ h => h) hk3)
        exact ⟨rfl, rfl, rfl, trivial⟩
      · have hx2 := ifF hb31 hx2
        refine WO_pure tbok 1 [(0, .slice a_p0 p0.length c_p0), (2, .int .i64 0), (13, .bool false), (14, .slice a_p0 p0.length c_p0)] rfl ⟨rfl, rfl, rfl, rfl, trivial⟩ ?_
        obtain ⟨v_7, hy32, hx2⟩ := bind_some hx2
        obtain ⟨hc33, hy32⟩ := ix_some hy32
        refine WO_index tbok rfl rfl rfl rfl rfl rfl rfl rfl (SlR.addr h_p0) hc33 ?_
        refine WO_loadR tbok rfl rfl rfl rfl (fun _ h => St.sat h) h_p0 hy32 rfl rfl (fun a34 c35 h36 => ?_)
        refine WO_pure tbok 4 [(0, .slice a_p0 p0.length c_p0), (2, .int .i64 0), (20, .bool (decide (((v_7).length : Int) < 1)))] rfl ⟨rfl, rfl, rfl, trivial⟩ ?_
        refine WO_split (d := 20) (b := decide (((v_7).length : Int) < 1)) rfl (fun hb38 => ?_) (fun hb38 => ?_)
        · have hx2 := ifT hb38 hx2
          refine WO_pure tbok 6 [(0, .slice a_p0 p0.length c_p0), (2, .int .i64 0), (26, .bool true)] rfl ⟨rfl, rfl, rfl, trivial⟩ ?_
          refine WO_end ?_
          cases hx2
          refine WK.sub ?_ (WK.cls (fun _ h => h) hk3)
          exact ⟨rfl, rfl, rfl, trivial⟩
        · have hx2 := ifF hb38 hx2
          refine WO_pure tbok 1 [(0, .slice a_p0 p0.length c_p0), (2, .int .i64 0), (20, .bool false), (21, .slice a_p0 p0.length c_p0)] rfl ⟨rfl, rfl, rfl, rfl, trivial⟩ ?_
          obtain ⟨v_8, hy39, hx2⟩ := bind_some hx2
          obtain ⟨hc40, hy39⟩ := ix_some hy39
          refine WO_index tbok rfl rfl rfl rfl rfl rfl rfl rfl (SlR.addr h_p0) hc40 ?_
          refine WO_loadR tbok rfl rfl rfl rfl (fun _ h => St.sat h) h_p0 hy39 rfl rfl (fun a41 c42 h43 => ?_)
          refine WO_pure tbok 3 [(0, .slice a_p0 p0.length c_p0), (2, .int .i64 0), (26, .bool (decide (64 < ((v_8).length : Int))))] rfl ⟨rfl, rfl, rfl, trivial⟩ ?_
          refine WO_end ?_
          cases hx2
          refine WK.sub ?_ (WK.cls (fun _ h => h) hk3)
          exact ⟨rfl, rfl, rfl, trivial⟩
theorem fiduciallaw50_Right_walk {m : Mu} {p0 : List (List Int)} {p1 : List Int} {a_p0 : Option Addr} {q_p0 c_p0 : Nat} {a_p1 : Option Addr} {q_p1 c_p1 : Nat} (h_p0 : SlR (RowE (FE (I1 .i64)) 1) 1 m (.slice a_p0 q_p0 c_p0) p0) (h_p1 : SlR (FE (I1 .i64)) 1 m (.slice a_p1 q_p1 c_p1) p1) {r : Bool} (hm : fiduciallaw50_Right p0 p1 = some r) :
    Go.E.Spec Try.prog 26 [.slice a_p0 q_p0 c_p0, .slice a_p1 q_p1 c_p1] m (fun v _ _ => v = .bool r) := by
  refine Spec_enter Try.func26 rfl rfl rfl (fun w0 => ?_)
  refine WK.sub (e' := [(0, .slice a_p0 q_p0 c_p0), (1, .slice a_p1 q_p1 c_p1)]) ⟨rfl, rfl, trivial⟩ ?_
  obtain rfl := SlR.qlen h_p0
  obtain rfl := SlR.qlen h_p1
  refine WK.sub (e' := [(0, .slice a_p0 p0.length c_p0), (1, .slice a_p1 p1.length c_p1)]) ⟨rfl, rfl, trivial⟩ ?_
  unfold fiduciallaw50_Right at hm
  refine WK_seq ?_
  refine WK_region ?_
  refine WO_pure tbok 1 [(0, .slice a_p0 p0.length c_p0), (1, .slice a_p1 p1.length c_p1), (4, .bool false)] rfl ⟨rfl, rfl, rfl, trivial⟩ ?_
  refine WO_end ?_
  refine WK_seq ?_
  refine WK_seq ?_
  refine WK_region ?_
  refine WO_pure tbok 5 [(0, .slice a_p0 p0.length c_p0), (1, .slice a_p1 p1.length c_p1), (4, .bool false), (11, .bool ((p1.length : Int) != (p0.length : Int)))] rfl ⟨rfl, rfl, rfl, rfl, trivial⟩ ?_
  refine WO_end ?_
  refine WK_cond (b := (p1.length : Int) != (p0.length : Int)) rfl (fun hb3 => ?_) (fun hb3 => ?_)
  · have hm := ifT hb3 hm
    refine WK_seq ?_
    refine WK_region ?_
    refine WO_pure tbok 1 [(0, .slice a_p0 p0.length c_p0), (1, .slice a_p1 p1.length c_p1), (4, .bool false)] rfl ⟨rfl, rfl, rfl, trivial⟩ ?_
    refine WO_end ?_
    cases hm
    exact WK_ret (ret_out (L := []) (RLc_tmp rfl RLc_nil) (List.nil_sublist _) rfl)
  · have hm := ifF hb3 hm
    refine WK_skip ?_
    refine WK_seq ?_
    refine WK_seq ?_
    refine WK_region ?_
    refine WO_pure tbok 3 [(0, .slice a_p0 p0.length c_p0), (1, .slice a_p1 p1.length c_p1), (4, .bool false), (12, .slice a_p1 p1.length c_p1), (13, .int .i64 (p1.length : Int)), (14, .int .i64 0)] rfl ⟨rfl, rfl, rfl, rfl, rfl, rfl, trivial⟩ ?_
    refine WO_end ?_
    obtain ⟨x4, hx5, hm⟩ := bind_some hm
    refine WK_join (β := Unit × Unit) (fun p => Sum.inr p.1 = x4) (fun p => [(4, .bool false)]) (fun p => St w0 m m []) ?_ (fun hk6 => ?_)
    · rintro ⟨⟨⟩, ⟨⟩⟩ hq12
      subst hq12
      refine WK.sub (e' := [(4, .bool false)]) ⟨rfl, trivial⟩ (WK.cls (C' := St w0 m m []) (fun _ h => h) ?_)
      refine WK_seq ?_
      refine WK_region ?_
      refine WO_pure tbok 1 [(4, .bool true)] rfl ⟨rfl, trivial⟩ ?_
      refine WO_end ?_
      cases hm
      exact WK_ret (ret_out (L := []) (RLc_tmp rfl RLc_nil) (List.nil_sublist _) rfl)
    · refine WK_block ?_
      refine WK_loop (S := Int) (G := Unit) (fun s => fiduciallaw50_Right_s1 p0 p1 s) (fun s g => [(0, .slice a_p0 p0.length c_p0), (1, .slice a_p1 p1.length c_p1), (4, .bool false), (12, .slice a_p1 p1.length c_p1), (13, .int .i64 (p1.length : Int)), (14, .int .i64 s)]) (fun s g => St w0 m m []) (fun s g => True) FUEL 0 () x4 hx5 trivial ⟨rfl, rfl, rfl, rfl, rfl, rfl, trivial⟩ (fun _ h => h) ?_
      rintro s_1 ⟨⟩ o8 fl9 hm7 - hn10 hd11
      have hm7 : fiduciallaw50_Right_s1 p0 p1 s_1 = some o8 := hm7
      unfold fiduciallaw50_Right_s1 at hm7
      refine WK.sub (e' := [(0, .slice a_p0 p0.length c_p0), (1, .slice a_p1 p1.length c_p1), (4, .bool false), (12, .slice a_p1 p1.length c_p1), (13, .int .i64 (p1.length : Int)), (14, .int .i64 s_1)]) ⟨rfl, rfl, rfl, rfl, rfl, rfl, trivial⟩ (WK.cls (C' := St w0 m m []) (fun _ h => h) ?_)
      refine WK_seq ?_
      refine WK_region ?_
      refine WO_pure tbok 1 [(0, .slice a_p0 p0.length c_p0), (1, .slice a_p1 p1.length c_p1), (4, .bool false), (12, .slice a_p1 p1.length c_p1), (13, .int .i64 (p1.length : Int)), (14, .int .i64 s_1), (15, .bool (decide (s_1 < (p1.length : Int))))] rfl ⟨rfl, rfl, rfl, rfl, rfl, rfl, rfl, trivial⟩ ?_
      refine WO_end ?_
      refine WK_seq ?_
      refine WK_cond (b := decide (s_1 < (p1.length : Int))) rfl (fun hb13 => ?_) (fun hb13 => ?_)
      · have hm7 := ifT hb13 hm7
        refine WK_skip ?_
        refine WK_seq ?_
        refine WK_block ?_
        refine WK_seq ?_
        refine WK_region ?_
        refine WO_pure tbok 1 [(0, .slice a_p0 p0.length c_p0), (1, .slice a_p1 p1.length c_p1), (4, .bool false), (12, .slice a_p1 p1.length c_p1), (13, .int .i64 (p1.length : Int)), (14, .int .i64 s_1), (16, .int .i64 s_1)] rfl ⟨rfl, rfl, rfl, rfl, rfl, rfl, rfl, trivial⟩ ?_
        obtain ⟨v_2, hy14, hm7⟩ := bind_some hm7
        obtain ⟨hc15, hy14⟩ := ix_some hy14
        refine WO_index tbok rfl rfl rfl rfl rfl rfl rfl rfl (SlR.addr h_p1) hc15 ?_
        refine WO_loadE tbok rfl rfl rfl rfl (fun _ h => St.sat h) h_p1 hy14 rfl ?_
        refine WO_pure tbok 2 [(0, .slice a_p0 p0.length c_p0), (1, .slice a_p1 p1.length c_p1), (4, .bool false), (5, .int .i64 s_1), (6, .int .i64 v_2), (12, .slice a_p1 p1.length c_p1), (13, .int .i64 (p1.length : Int)), (14, .int .i64 s_1)] rfl ⟨rfl, rfl, rfl, rfl, rfl, rfl, rfl, rfl, trivial⟩ ?_
        refine WO_end ?_
        refine WK_seq ?_
        obtain ⟨s_3, hx16, hm7⟩ := bind_some hm7
        refine WK_meet [(0, .slice a_p0 p0.length c_p0), (1, .slice a_p1 p1.length c_p1), (4, .bool false), (12, .slice a_p1 p1.length c_p1), (13, .int .i64 (p1.length : Int)), (14, .int .i64 s_1), (52, .bool s_3)] (St w0 m m []) ?_ (fun hk17 => ?_)
        · refine WK_cond (b := s_3) rfl (fun hb18 => ?_) (fun hb18 => ?_)
          · have hm7 := ifT hb18 hm7
            refine WK_seq ?_
            refine WK_region ?_
            refine WO_pure tbok 1 [(0, .slice a_p0 p0.length c_p0), (1, .slice a_p1 p1.length c_p1), (4, .bool false), (12, .slice a_p1 p1.length c_p1), (13, .int .i64 (p1.length : Int)), (14, .int .i64 s_1)] rfl ⟨rfl, rfl, rfl, rfl, rfl, rfl, trivial⟩ ?_
            refine WO_end ?_
            cases hm7
            have hq := hd11 _ rfl
            subst hq
            have hm : some _ = some _ := hm
            cases hm
            exact WK_ret (ret_out (L := []) (RLc_tmp rfl RLc_nil) (List.nil_sublist _) rfl)
          · have hm7 := ifF hb18 hm7
            refine WK_skip ?_
            refine WK_blk ?_
            refine WK_region ?_
            refine WO_pure tbok 2 [(0, .slice a_p0 p0.length c_p0), (1, .slice a_p1 p1.length c_p1), (4, .bool false), (12, .slice a_p1 p1.length c_p1), (13, .int .i64 (p1.length : Int)), (14, .int .i64 (w64 (s_1 + 1)))] rfl ⟨rfl, rfl, rfl, rfl, rfl, rfl, trivial⟩ ?_
            refine WO_end ?_
            cases hm7
            refine WK.sub ?_ (WK.cls (fun _ h => h) (hn10 _ () rfl trivial))
            exact ⟨rfl, rfl, rfl, rfl, rfl, rfl, trivial⟩
        · refine WK_region ?_
          refine WO_pure tbok 3 [(0, .slice a_p0 p0.length c_p0), (1, .slice a_p1 p1.length c_p1), (4, .bool false), (5, .int .i64 s_1), (6, .int .i64 v_2), (12, .slice a_p1 p1.length c_p1), (13, .int .i64 (p1.length : Int)), (14, .int .i64 s_1), (21, .bool (decide (v_2 < 0)))] rfl ⟨rfl, rfl, rfl, rfl, rfl, rfl, rfl, rfl, rfl, trivial⟩ ?_
          refine WO_split (d := 21) (b := decide (v_2 < 0)) rfl (fun hb19 => ?_) (fun hb19 => ?_)
          · have hx16 := ifT hb19 hx16
            refine WO_pure tbok 31 [(0, .slice a_p0 p0.length c_p0), (1, .slice a_p1 p1.length c_p1), (4, .bool false), (12, .slice a_p1 p1.length c_p1), (13, .int .i64 (p1.length : Int)), (14, .int .i64 s_1), (52, .bool true)] rfl ⟨rfl, rfl, rfl, rfl, rfl, rfl, rfl, trivial⟩ ?_
            refine WO_end ?_
            cases hx16
            refine WK.sub ?_ (WK.cls (fun _ h => h) hk17)
            exact ⟨rfl, rfl, rfl, rfl, rfl, rfl, rfl, trivial⟩
          · have hx16 := ifF hb19 hx16
            refine WO_pure tbok 2 [(0, .slice a_p0 p0.length c_p0), (1, .slice a_p1 p1.length c_p1), (4, .bool false), (5, .int .i64 s_1), (6, .int .i64 v_2), (12, .slice a_p1 p1.length c_p1), (13, .int .i64 (p1.length : Int)), (14, .int .i64 s_1), (21, .bool false), (22, .int .i64 v_2), (23, .slice a_p0 p0.length c_p0)] rfl ⟨rfl, rfl, rfl, rfl, rfl, rfl, rfl, rfl, rfl, rfl, rfl, trivial⟩ ?_
            obtain ⟨v_4, hy20, hx16⟩ := bind_some hx16
            obtain ⟨hc21, hy20⟩ := ix_some hy20
            refine WO_index tbok rfl rfl rfl rfl rfl rfl rfl rfl (SlR.addr h_p0) hc21 ?_
            refine WO_loadR tbok rfl rfl rfl rfl (fun _ h => St.sat h) h_p0 hy20 rfl rfl (fun a22 c23 h24 => ?_)
            refine WO_pure tbok 4 [(0, .slice a_p0 p0.length c_p0), (1, .slice a_p1 p1.length c_p1), (4, .bool false), (5, .int .i64 s_1), (6, .int .i64 v_2), (12, .slice a_p1 p1.length c_p1), (13, .int .i64 (p1.length : Int)), (14, .int .i64 s_1), (29, .bool (decide (((v_4).length : Int) ≤ v_2)))] rfl ⟨rfl, rfl, rfl, rfl, rfl, rfl, rfl, rfl, rfl, trivial⟩ ?_
            refine WO_split (d := 29) (b := decide (((v_4).length : Int) ≤ v_2)) rfl (fun hb26 => ?_) (fun hb26 => ?_)
            · have hx16 := ifT hb26 hx16
              refine WO_pure tbok 23 [(0, .slice a_p0 p0.length c_p0), (1, .slice a_p1 p1.length c_p1), (4, .bool false), (12, .slice a_p1 p1.length c_p1), (13, .int .i64 (p1.length : Int)), (14, .int .i64 s_1), (52, .bool true)] rfl ⟨rfl, rfl, rfl, rfl, rfl, rfl, rfl, trivial⟩ ?_
              refine WO_end ?_
              cases hx16
              refine WK.sub ?_ (WK.cls (fun _ h => h) hk17)
              exact ⟨rfl, rfl, rfl, rfl, rfl, rfl, rfl, trivial⟩
            · have hx16 := ifF hb26 hx16
              refine WO_pure tbok 3 [(0, .slice a_p0 p0.length c_p0), (1, .slice a_p1 p1.length c_p1), (4, .bool false), (5, .int .i64 s_1), (6, .int .i64 v_2), (12, .slice a_p1 p1.length c_p1), (13, .int .i64 (p1.length : Int)), (14, .int .i64 s_1), (29, .bool false), (32, .bool (decide (0 < s_1)))] rfl ⟨rfl, rfl, rfl, rfl, rfl, rfl, rfl, rfl, rfl, rfl, trivial⟩ ?_
              refine WO_split (d := 32) (b := decide (0 < s_1)) rfl (fun hb27 => ?_) (fun hb27 => ?_)
              · have hx16 := ifT hb27 hx16
                refine WO_pure tbok 4 [(0, .slice a_p0 p0.length c_p0), (1, .slice a_p1 p1.length c_p1), (4, .bool false), (5, .int .i64 s_1), (6, .int .i64 v_2), (12, .slice a_p1 p1.length c_p1), (13, .int .i64 (p1.length : Int)), (14, .int .i64 s_1), (29, .bool false), (32, .bool true), (33, .int .i64 v_2), (34, .slice a_p1 p1.length c_p1), (36, .int .i64 (w64 (s_1 - 1)))] rfl ⟨rfl, rfl, rfl, rfl, rfl, rfl, rfl, rfl, rfl, rfl, rfl, rfl, rfl, trivial⟩ ?_
                obtain ⟨v_5, hy28, hx16⟩ := bind_some hx16
                obtain ⟨hc29, hy28⟩ := ix_some hy28
                refine WO_index tbok rfl rfl rfl rfl rfl rfl rfl rfl (SlR.addr h_p1) hc29 ?_
                refine WO_loadE tbok rfl rfl rfl rfl (fun _ h => St.sat h) h_p1 hy28 rfl ?_
                refine WO_pure tbok 3 [(0, .slice a_p0 p0.length c_p0), (1, .slice a_p1 p1.length c_p1), (4, .bool false), (5, .int .i64 s_1), (6, .int .i64 v_2), (12, .slice a_p1 p1.length c_p1), (13, .int .i64 (p1.length : Int)), (14, .int .i64 s_1), (29, .bool false), (32, .bool true), (41, .bool (decide (1 < (w64 (v_2 - v_5)))))] rfl ⟨rfl, rfl, rfl, rfl, rfl, rfl, rfl, rfl, rfl, rfl, rfl, trivial⟩ ?_
                refine WO_split (d := 41) (b := decide (1 < (w64 (v_2 - v_5)))) rfl (fun hb30 => ?_) (fun hb30 => ?_)
                · have hx16 := ifT hb30 hx16
                  refine WO_pure tbok 11 [(0, .slice a_p0 p0.length c_p0), (1, .slice a_p1 p1.length c_p1), (4, .bool false), (12, .slice a_p1 p1.length c_p1), (13, .int .i64 (p1.length : Int)), (14, .int .i64 s_1), (52, .bool true)] rfl ⟨rfl, rfl, rfl, rfl, rfl, rfl, rfl, trivial⟩ ?_
                  refine WO_end ?_
                  cases hx16
                  refine WK.sub ?_ (WK.cls (fun _ h => h) hk17)
                  exact ⟨rfl, rfl, rfl, rfl, rfl, rfl, rfl, trivial⟩
                · have hx16 := ifF hb30 hx16
                  refine WO_pure tbok 3 [(0, .slice a_p0 p0.length c_p0), (1, .slice a_p1 p1.length c_p1), (4, .bool false), (6, .int .i64 v_2), (12, .slice a_p1 p1.length c_p1), (13, .int .i64 (p1.length : Int)), (14, .int .i64 s_1), (29, .bool false), (32, .bool true), (41, .bool false), (42, .slice a_p1 p1.length c_p1), (44, .int .i64 (w64 (s_1 - 1)))] rfl ⟨rfl, rfl, rfl, rfl, rfl, rfl, rfl, rfl, rfl, rfl, rfl, rfl, trivial⟩ ?_
                  obtain ⟨v_6, hy31, hx16⟩ := bind_some hx16
                  obtain ⟨hc32, hy31⟩ := ix_some hy31
                  refine WO_index tbok rfl rfl rfl rfl rfl rfl rfl rfl (SlR.addr h_p1) hc32 ?_
                  refine WO_loadE tbok rfl rfl rfl rfl (fun _ h => St.sat h) h_p1 hy31 rfl ?_
                  refine WO_pure tbok 6 [(0, .slice a_p0 p0.length c_p0), (1, .slice a_p1 p1.length c_p1), (4, .bool false), (12, .slice a_p1 p1.length c_p1), (13, .int .i64 (p1.length : Int)), (14, .int .i64 s_1), (52, .bool (decide (1 < (w64 (v_6 - v_2)))))] rfl ⟨rfl, rfl, rfl, rfl, rfl, rfl, rfl, trivial⟩ ?_
                  refine WO_end ?_
                  cases hx16
                  refine WK.sub ?_ (WK.cls (fun _ h => h) hk17)
                  exact ⟨rfl, rfl, rfl, rfl, rfl, rfl, rfl, trivial⟩
              · have hx16 := ifF hb27 hx16
                refine WO_pure tbok 20 [(0, .slice a_p0 p0.length c_p0), (1, .slice a_p1 p1.length c_p1), (4, .bool false), (12, .slice a_p1 p1.length c_p1), (13, .int .i64 (p1.length : Int)), (14, .int .i64 s_1), (52, .bool false)] rfl ⟨rfl, rfl, rfl, rfl, rfl, rfl, rfl, trivial⟩ ?_
                refine WO_end ?_
                cases hx16
                refine WK.sub ?_ (WK.cls (fun _ h => h) hk17)
                exact ⟨rfl, rfl, rfl, rfl, rfl, rfl, rfl, trivial⟩
      · have hm7 := ifF hb13 hm7
        refine WK_exit rfl ?_
        cases hm7
        refine WK.sub ?_ (WK.cls (fun _ h => h) (hk6 ((), ()) (hd11 _ rfl)))
        exact ⟨rfl, trivial⟩
theorem fiduciallaw50_Total_walk {m : Mu} {p0 : List (List Int)} {p1 : List Int} {a_p0 : Option Addr} {q_p0 c_p0 : Nat} {a_p1 : Option Addr} {q_p1 c_p1 : Nat} (h_p0 : SlR (RowE (FE (I1 .i64)) 1) 1 m (.slice a_p0 q_p0 c_p0) p0) (h_p1 : SlR (FE (I1 .i64)) 1 m (.slice a_p1 q_p1 c_p1) p1) {r : Int} (hm : fiduciallaw50_Total p0 p1 = some r) :
    Go.E.Spec Try.prog 27 [.slice a_p0 q_p0 c_p0, .slice a_p1 q_p1 c_p1] m (fun v _ _ => v = .int .i64 r) := by
  refine Spec_enter Try.func27 rfl rfl rfl (fun w0 => ?_)
  refine WK.sub (e' := [(0, .slice a_p0 q_p0 c_p0), (1, .slice a_p1 q_p1 c_p1)]) ⟨rfl, rfl, trivial⟩ ?_
  obtain rfl := SlR.qlen h_p0
  obtain rfl := SlR.qlen h_p1
  refine WK.sub (e' := [(0, .slice a_p0 p0.length c_p0), (1, .slice a_p1 p1.length c_p1)]) ⟨rfl, rfl, trivial⟩ ?_
  unfold fiduciallaw50_Total at hm
  refine WK_seq ?_
  refine WK_region ?_
  refine WO_pure tbok 1 [(0, .slice a_p0 p0.length c_p0), (1, .slice a_p1 p1.length c_p1), (4, .int .i64 0)] rfl ⟨rfl, rfl, rfl, trivial⟩ ?_
  refine WO_end ?_
  refine WK_seq ?_
  refine WK_region ?_
  refine WO_pure tbok 1 [(0, .slice a_p0 p0.length c_p0), (1, .slice a_p1 p1.length c_p1), (4, .int .i64 0), (5, .int .i64 0)] rfl ⟨rfl, rfl, rfl, rfl, trivial⟩ ?_
  refine WO_end ?_
  refine WK_seq ?_
  refine WK_seq ?_
  refine WK_region ?_
  refine WO_pure tbok 3 [(0, .slice a_p0 p0.length c_p0), (4, .int .i64 0), (5, .int .i64 0), (8, .slice a_p1 p1.length c_p1), (9, .int .i64 (p1.length : Int)), (10, .int .i64 0)] rfl ⟨rfl, rfl, rfl, rfl, rfl, rfl, trivial⟩ ?_
  refine WO_end ?_
  obtain ⟨x3, hx4, hm⟩ := bind_some hm
  refine WK_join (β := Int × Unit) (fun p => p.1 = x3) (fun p => [(4, .int .i64 0), (5, .int .i64 p.1)]) (fun p => St w0 m m []) ?_ (fun hk5 => ?_)
  · rintro ⟨s_3, ⟨⟩⟩ hq11
    subst hq11
    refine WK.sub (e' := [(4, .int .i64 0), (5, .int .i64 s_3)]) ⟨rfl, rfl, trivial⟩ (WK.cls (C' := St w0 m m []) (fun _ h => h) ?_)
    refine WK_seq ?_
    refine WK_region ?_
    refine WO_pure tbok 2 [(4, .int .i64 s_3)] rfl ⟨rfl, trivial⟩ ?_
    refine WO_end ?_
    cases hm
    exact WK_ret (ret_out (L := []) (RLc_tmp rfl RLc_nil) (List.nil_sublist _) rfl)
  · refine WK_block ?_
    refine WK_loop (S := Int × Int) (G := Unit) (fun s => fiduciallaw50_Total_s1 p0 p1 s.1 s.2) (fun s g => [(0, .slice a_p0 p0.length c_p0), (4, .int .i64 0), (5, .int .i64 s.1), (8, .slice a_p1 p1.length c_p1), (9, .int .i64 (p1.length : Int)), (10, .int .i64 s.2)]) (fun s g => St w0 m m []) (fun s g => True) FUEL (0, 0) () x3 hx4 trivial ⟨rfl, rfl, rfl, rfl, rfl, rfl, trivial⟩ (fun _ h => h) ?_
    rintro ⟨s_1, s_2⟩ ⟨⟩ o7 fl8 hm6 - hn9 hd10
    have hm6 : fiduciallaw50_Total_s1 p0 p1 s_1 s_2 = some o7 := hm6
    unfold fiduciallaw50_Total_s1 at hm6
    refine WK.sub (e' := [(0, .slice a_p0 p0.length c_p0), (4, .int .i64 0), (5, .int .i64 s_1), (8, .slice a_p1 p1.length c_p1), (9, .int .i64 (p1.length : Int)), (10, .int .i64 s_2)]) ⟨rfl, rfl, rfl, rfl, rfl, rfl, trivial⟩ (WK.cls (C' := St w0 m m []) (fun _ h => h) ?_)
    refine WK_seq ?_
    refine WK_region ?_
    refine WO_pure tbok 1 [(0, .slice a_p0 p0.length c_p0), (4, .int .i64 0), (5, .int .i64 s_1), (8, .slice a_p1 p1.length c_p1), (9, .int .i64 (p1.length : Int)), (10, .int .i64 s_2), (11, .bool (decide (s_2 < (p1.length : Int))))] rfl ⟨rfl, rfl, rfl, rfl, rfl, rfl, rfl, trivial⟩ ?_
    refine WO_end ?_
    refine WK_seq ?_
    refine WK_cond (b := decide (s_2 < (p1.length : Int))) rfl (fun hb12 => ?_) (fun hb12 => ?_)
    · have hm6 := ifT hb12 hm6
      refine WK_skip ?_
      refine WK_seq ?_
      refine WK_block ?_
      refine WK_seq ?_
      refine WK_region ?_
      refine WO_pure tbok 1 [(0, .slice a_p0 p0.length c_p0), (4, .int .i64 0), (5, .int .i64 s_1), (8, .slice a_p1 p1.length c_p1), (9, .int .i64 (p1.length : Int)), (10, .int .i64 s_2), (12, .int .i64 s_2)] rfl ⟨rfl, rfl, rfl, rfl, rfl, rfl, rfl, trivial⟩ ?_
      obtain ⟨v_4, hy13, hm6⟩ := bind_some hm6
      obtain ⟨hc14, hy13⟩ := ix_some hy13
      refine WO_index tbok rfl rfl rfl rfl rfl rfl rfl rfl (SlR.addr h_p1) hc14 ?_
      refine WO_loadE tbok rfl rfl rfl rfl (fun _ h => St.sat h) h_p1 hy13 rfl ?_
      refine WO_pure tbok 2 [(0, .slice a_p0 p0.length c_p0), (4, .int .i64 0), (5, .int .i64 s_1), (6, .int .i64 s_2), (7, .int .i64 v_4), (8, .slice a_p1 p1.length c_p1), (9, .int .i64 (p1.length : Int)), (10, .int .i64 s_2)] rfl ⟨rfl, rfl, rfl, rfl, rfl, rfl, rfl, rfl, trivial⟩ ?_
      refine WO_end ?_
      refine WK_region ?_
      refine WO_pure tbok 3 [(0, .slice a_p0 p0.length c_p0), (4, .int .i64 0), (5, .int .i64 s_1), (7, .int .i64 v_4), (8, .slice a_p1 p1.length c_p1), (9, .int .i64 (p1.length : Int)), (10, .int .i64 s_2), (15, .int .i64 s_1), (16, .slice a_p0 p0.length c_p0), (17, .int .i64 s_2)] rfl ⟨rfl, rfl, rfl, rfl, rfl, rfl, rfl, rfl, rfl, rfl, trivial⟩ ?_
      obtain ⟨v_5, hy15, hm6⟩ := bind_some hm6
      obtain ⟨hc16, hy15⟩ := ix_some hy15
      refine WO_index tbok rfl rfl rfl rfl rfl rfl rfl rfl (SlR.addr h_p0) hc16 ?_
      refine WO_loadR tbok rfl rfl rfl rfl (fun _ h => St.sat h) h_p0 hy15 rfl rfl (fun a17 c18 h19 => ?_)
      refine WO_pure tbok 1 [(0, .slice a_p0 p0.length c_p0), (4, .int .i64 0), (5, .int .i64 s_1), (8, .slice a_p1 p1.length c_p1), (9, .int .i64 (p1.length : Int)), (10, .int .i64 s_2), (15, .int .i64 s_1), (19, .slice a17 ((v_5).length) c18), (20, .int .i64 v_4)] rfl ⟨rfl, rfl, rfl, rfl, rfl, rfl, rfl, rfl, rfl, trivial⟩ ?_
      obtain ⟨v_6, hy21, hm6⟩ := bind_some hm6
      obtain ⟨hc22, hy21⟩ := ix_some hy21
      refine WO_index tbok rfl rfl rfl rfl rfl rfl rfl rfl (SlR.addr h19) hc22 ?_
      refine WO_loadE tbok rfl rfl rfl rfl (fun _ h => St.sat h) h19 hy21 rfl ?_
      refine WO_pure tbok 2 [(0, .slice a_p0 p0.length c_p0), (4, .int .i64 0), (5, .int .i64 (w64 (s_1 + v_6))), (8, .slice a_p1 p1.length c_p1), (9, .int .i64 (p1.length : Int)), (10, .int .i64 s_2)] rfl ⟨rfl, rfl, rfl, rfl, rfl, rfl, trivial⟩ ?_
      refine WO_end ?_
      refine WK_blk ?_
      refine WK_region ?_
      refine WO_pure tbok 2 [(0, .slice a_p0 p0.length c_p0), (4, .int .i64 0), (5, .int .i64 (w64 (s_1 + v_6))), (8, .slice a_p1 p1.length c_p1), (9, .int .i64 (p1.length : Int)), (10, .int .i64 (w64 (s_2 + 1)))] rfl ⟨rfl, rfl, rfl, rfl, rfl, rfl, trivial⟩ ?_
      refine WO_end ?_
      cases hm6
      refine WK.sub ?_ (WK.cls (fun _ h => h) (hn9 _ () rfl trivial))
      exact ⟨rfl, rfl, rfl, rfl, rfl, rfl, trivial⟩
    · have hm6 := ifF hb12 hm6
      refine WK_exit rfl ?_
      cases hm6
      refine WK.sub ?_ (WK.cls (fun _ h => h) (hk5 (s_1, ()) (hd10 _ rfl)))
      exact ⟨rfl, rfl, trivial⟩
theorem fiduciallaw50_above_walk {m : Mu} {p0 : Int} {p1 : Int} {p2 : Int}   {r : Bool} (hm : fiduciallaw50_above p0 p1 p2 = some r) :
    Go.E.Spec Try.prog 42 [.int .i64 p0, .int .i64 p1, .int .i64 p2] m (fun v _ _ => v = .bool r) := by
  refine Spec_enter Try.func42 rfl rfl rfl (fun w0 => ?_)
  refine WK.sub (e' := [(0, .int .i64 p0), (1, .int .i64 p1), (2, .int .i64 p2)]) ⟨rfl, rfl, rfl, trivial⟩ ?_
  refine WK.sub (e' := [(0, .int .i64 p0), (1, .int .i64 p1), (2, .int .i64 p2)]) ⟨rfl, rfl, rfl, trivial⟩ ?_
  unfold fiduciallaw50_above at hm
  refine WK_seq ?_
  refine WK_region ?_
  refine WO_pure tbok 1 [(0, .int .i64 p0), (1, .int .i64 p1), (2, .int .i64 p2), (6, .bool false)] rfl ⟨rfl, rfl, rfl, rfl, trivial⟩ ?_
  refine WO_end ?_
  refine WK_seq ?_
  refine WK_region ?_
  refine WO_pure tbok 6 [(6, .bool (decide ((w64 (p1 + p2)) < p0)))] rfl ⟨rfl, trivial⟩ ?_
  refine WO_end ?_
  cases hm
  exact WK_ret (ret_out (L := []) (RLc_tmp rfl RLc_nil) (List.nil_sublist _) rfl)
end Go.Proofs.Ytomlpofoaokmdaa
