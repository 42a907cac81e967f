import Derived.Test.YtgakaghdiodakaaDoorTab
import Derived.Test.YtgakaghdiodakaaDoorM
set_option linter.unusedVariables false
set_option maxRecDepth 100000
set_option maxHeartbeats 4000000
namespace Go.Proofs.YtgakaghdiodakaaDoor
open Go.E Go.RowKit
attribute [local irreducible] Go.E.WO Go.E.WK
theorem slices_Min_sint_walk {m : Mu} {p0 : List Int} {a_p0 : Option Addr} {q_p0 c_p0 : Nat} (h_p0 : SlR (FE (I1 .i64)) 1 m (.slice a_p0 q_p0 c_p0) p0) {r : Int} (hm : slices_Min_sint p0 = some r) :
    Go.E.Spec Tryd.prog 26 [.slice a_p0 q_p0 c_p0] m (fun v _ _ => v = .int .i64 r) := by
  refine Spec_enter Tryd.func26 rfl rfl rfl (fun w0 => ?_)
  refine WK.sub (e' := [(0, .slice a_p0 q_p0 c_p0)]) ⟨rfl, trivial⟩ ?_
  obtain rfl := SlR.qlen h_p0
  refine WK.sub (e' := [(0, .slice a_p0 p0.length c_p0)]) ⟨rfl, trivial⟩ ?_
  unfold slices_Min_sint at hm
  refine WK_seq ?_
  refine WK_region ?_
  refine WO_pure tbok 1 [(0, .slice a_p0 p0.length c_p0), (2, .int .i64 0)] rfl ⟨rfl, rfl, trivial⟩ ?_
  refine WO_end ?_
  refine WK_seq ?_
  refine WK_seq ?_
  refine WK_region ?_
  refine WO_pure tbok 3 [(0, .slice a_p0 p0.length c_p0), (2, .int .i64 0), (7, .bool (decide ((p0.length : Int) < 1)))] rfl ⟨rfl, rfl, rfl, trivial⟩ ?_
  refine WO_end ?_
  refine WK_cond (b := decide ((p0.length : Int) < 1)) rfl (fun hb1 => ?_) (fun hb1 => ?_)
  · have hm := ifT hb1 hm
    refine WK_region ?_
    cases hm
  · have hm := ifF hb1 hm
    refine WK_skip ?_
    refine WK_seq ?_
    refine WK_region ?_
    refine WO_pure tbok 1 [(0, .slice a_p0 p0.length c_p0), (2, .int .i64 0), (9, .slice a_p0 p0.length c_p0)] rfl ⟨rfl, rfl, rfl, trivial⟩ ?_
    obtain ⟨v_1, hy2, hm⟩ := bind_some hm
    obtain ⟨hc3, hy2⟩ := ix_some hy2
    refine WO_index tbok rfl rfl rfl rfl rfl rfl rfl rfl (SlR.addr h_p0) hc3 ?_
    refine WO_loadE tbok rfl rfl rfl rfl (fun _ h => St.sat h) h_p0 hy2 rfl ?_
    refine WO_pure tbok 1 [(0, .slice a_p0 p0.length c_p0), (2, .int .i64 0), (3, .int .i64 v_1)] rfl ⟨rfl, rfl, rfl, trivial⟩ ?_
    refine WO_end ?_
    refine WK_seq ?_
    refine WK_seq ?_
    refine WK_region ?_
    refine WO_pure tbok 1 [(0, .slice a_p0 p0.length c_p0), (2, .int .i64 0), (3, .int .i64 v_1), (4, .int .i64 1)] rfl ⟨rfl, rfl, rfl, rfl, trivial⟩ ?_
    refine WO_end ?_
    obtain ⟨x4, hx5, hm⟩ := bind_some hm
    refine WK_join (β := Int × Unit) (fun p => p.1 = x4) (fun p => [(2, .int .i64 0), (3, .int .i64 p.1)]) (fun p => St w0 m m []) ?_ (fun hk6 => ?_)
    · rintro ⟨s_4, ⟨⟩⟩ hq12
      subst hq12
      refine WK.sub (e' := [(2, .int .i64 0), (3, .int .i64 s_4)]) ⟨rfl, rfl, trivial⟩ (WK.cls (C' := St w0 m m []) (fun _ h => h) ?_)
      refine WK_seq ?_
      refine WK_region ?_
      refine WO_pure tbok 2 [(2, .int .i64 s_4)] rfl ⟨rfl, trivial⟩ ?_
      refine WO_end ?_
      cases hm
      exact WK_ret (ret_out (L := []) (RLc_tmp rfl RLc_nil) (List.nil_sublist _) rfl)
    · refine WK_block ?_
      refine WK_loop (S := Int × Int) (G := Unit) (fun s => slices_Min_sint_s1 p0 s.1 s.2) (fun s g => [(0, .slice a_p0 p0.length c_p0), (2, .int .i64 0), (3, .int .i64 s.1), (4, .int .i64 s.2)]) (fun s g => St w0 m m []) (fun s g => True) FUEL (v_1, 1) () x4 hx5 trivial ⟨rfl, rfl, rfl, rfl, trivial⟩ (fun _ h => h) ?_
      rintro ⟨s_2, s_3⟩ ⟨⟩ o8 fl9 hm7 - hn10 hd11
      have hm7 : slices_Min_sint_s1 p0 s_2 s_3 = some o8 := hm7
      unfold slices_Min_sint_s1 at hm7
      refine WK.sub (e' := [(0, .slice a_p0 p0.length c_p0), (2, .int .i64 0), (3, .int .i64 s_2), (4, .int .i64 s_3)]) ⟨rfl, rfl, rfl, rfl, trivial⟩ (WK.cls (C' := St w0 m m []) (fun _ h => h) ?_)
      refine WK_seq ?_
      refine WK_seq ?_
      refine WK_region ?_
      refine WO_pure tbok 4 [(0, .slice a_p0 p0.length c_p0), (2, .int .i64 0), (3, .int .i64 s_2), (4, .int .i64 s_3), (15, .bool (decide (s_3 < (p0.length : Int))))] rfl ⟨rfl, rfl, rfl, rfl, rfl, trivial⟩ ?_
      refine WO_end ?_
      refine WK_cond (b := decide (s_3 < (p0.length : Int))) rfl (fun hb13 => ?_) (fun hb13 => ?_)
      · have hm7 := ifT hb13 hm7
        refine WK_skip ?_
        refine WK_seq ?_
        refine WK_block ?_
        refine WK_region ?_
        refine WO_pure tbok 3 [(0, .slice a_p0 p0.length c_p0), (2, .int .i64 0), (3, .int .i64 s_2), (4, .int .i64 s_3), (18, .int .i64 s_2), (19, .slice a_p0 p0.length c_p0), (20, .int .i64 s_3)] rfl ⟨rfl, rfl, rfl, rfl, rfl, rfl, rfl, trivial⟩ ?_
        obtain ⟨v_5, hy14, hm7⟩ := bind_some hm7
        obtain ⟨hc15, hy14⟩ := ix_some hy14
        refine WO_index tbok rfl rfl rfl rfl rfl rfl rfl rfl (SlR.addr h_p0) hc15 ?_
        refine WO_loadE tbok rfl rfl rfl rfl (fun _ h => St.sat h) h_p0 hy14 rfl ?_
        refine WO_pure tbok 2 [(0, .slice a_p0 p0.length c_p0), (2, .int .i64 0), (3, .int .i64 (if v_5 < s_2 then v_5 else s_2)), (4, .int .i64 s_3)] rfl ⟨rfl, rfl, rfl, rfl, trivial⟩ ?_
        refine WO_end ?_
        refine WK_blk ?_
        refine WK_region ?_
        refine WO_pure tbok 3 [(0, .slice a_p0 p0.length c_p0), (2, .int .i64 0), (3, .int .i64 (if v_5 < s_2 then v_5 else s_2)), (4, .int .i64 (w64 (s_3 + 1)))] rfl ⟨rfl, rfl, rfl, rfl, trivial⟩ ?_
        refine WO_end ?_
        cases hm7
        refine WK.sub ?_ (WK.cls (fun _ h => h) (hn10 _ () rfl trivial))
        exact ⟨rfl, rfl, rfl, rfl, trivial⟩
      · have hm7 := ifF hb13 hm7
        refine WK_exit rfl ?_
        cases hm7
        refine WK.sub ?_ (WK.cls (fun _ h => h) (hk6 (s_2, ()) (hd11 _ rfl)))
        exact ⟨rfl, rfl, trivial⟩
theorem slices_Max_sint_walk {m : Mu} {p0 : List Int} {a_p0 : Option Addr} {q_p0 c_p0 : Nat} (h_p0 : SlR (FE (I1 .i64)) 1 m (.slice a_p0 q_p0 c_p0) p0) {r : Int} (hm : slices_Max_sint p0 = some r) :
    Go.E.Spec Tryd.prog 34 [.slice a_p0 q_p0 c_p0] m (fun v _ _ => v = .int .i64 r) := by
  refine Spec_enter Tryd.func34 rfl rfl rfl (fun w0 => ?_)
  refine WK.sub (e' := [(0, .slice a_p0 q_p0 c_p0)]) ⟨rfl, trivial⟩ ?_
  obtain rfl := SlR.qlen h_p0
  refine WK.sub (e' := [(0, .slice a_p0 p0.length c_p0)]) ⟨rfl, trivial⟩ ?_
  unfold slices_Max_sint at hm
  refine WK_seq ?_
  refine WK_region ?_
  refine WO_pure tbok 1 [(0, .slice a_p0 p0.length c_p0), (2, .int .i64 0)] rfl ⟨rfl, rfl, trivial⟩ ?_
  refine WO_end ?_
  refine WK_seq ?_
  refine WK_seq ?_
  refine WK_region ?_
  refine WO_pure tbok 3 [(0, .slice a_p0 p0.length c_p0), (2, .int .i64 0), (7, .bool (decide ((p0.length : Int) < 1)))] rfl ⟨rfl, rfl, rfl, trivial⟩ ?_
  refine WO_end ?_
  refine WK_cond (b := decide ((p0.length : Int) < 1)) rfl (fun hb1 => ?_) (fun hb1 => ?_)
  · have hm := ifT hb1 hm
    refine WK_region ?_
    cases hm
  · have hm := ifF hb1 hm
    refine WK_skip ?_
    refine WK_seq ?_
    refine WK_region ?_
    refine WO_pure tbok 1 [(0, .slice a_p0 p0.length c_p0), (2, .int .i64 0), (9, .slice a_p0 p0.length c_p0)] rfl ⟨rfl, rfl, rfl, trivial⟩ ?_
    obtain ⟨v_1, hy2, hm⟩ := bind_some hm
    obtain ⟨hc3, hy2⟩ := ix_some hy2
    refine WO_index tbok rfl rfl rfl rfl rfl rfl rfl rfl (SlR.addr h_p0) hc3 ?_
    refine WO_loadE tbok rfl rfl rfl rfl (fun _ h => St.sat h) h_p0 hy2 rfl ?_
    refine WO_pure tbok 1 [(0, .slice a_p0 p0.length c_p0), (2, .int .i64 0), (3, .int .i64 v_1)] rfl ⟨rfl, rfl, rfl, trivial⟩ ?_
    refine WO_end ?_
    refine WK_seq ?_
    refine WK_seq ?_
    refine WK_region ?_
    refine WO_pure tbok 1 [(0, .slice a_p0 p0.length c_p0), (2, .int .i64 0), (3, .int .i64 v_1), (4, .int .i64 1)] rfl ⟨rfl, rfl, rfl, rfl, trivial⟩ ?_
    refine WO_end ?_
    obtain ⟨x4, hx5, hm⟩ := bind_some hm
    refine WK_join (β := Int × Unit) (fun p => p.1 = x4) (fun p => [(2, .int .i64 0), (3, .int .i64 p.1)]) (fun p => St w0 m m []) ?_ (fun hk6 => ?_)
    · rintro ⟨s_4, ⟨⟩⟩ hq12
      subst hq12
      refine WK.sub (e' := [(2, .int .i64 0), (3, .int .i64 s_4)]) ⟨rfl, rfl, trivial⟩ (WK.cls (C' := St w0 m m []) (fun _ h => h) ?_)
      refine WK_seq ?_
      refine WK_region ?_
      refine WO_pure tbok 2 [(2, .int .i64 s_4)] rfl ⟨rfl, trivial⟩ ?_
      refine WO_end ?_
      cases hm
      exact WK_ret (ret_out (L := []) (RLc_tmp rfl RLc_nil) (List.nil_sublist _) rfl)
    · refine WK_block ?_
      refine WK_loop (S := Int × Int) (G := Unit) (fun s => slices_Max_sint_s1 p0 s.1 s.2) (fun s g => [(0, .slice a_p0 p0.length c_p0), (2, .int .i64 0), (3, .int .i64 s.1), (4, .int .i64 s.2)]) (fun s g => St w0 m m []) (fun s g => True) FUEL (v_1, 1) () x4 hx5 trivial ⟨rfl, rfl, rfl, rfl, trivial⟩ (fun _ h => h) ?_
      rintro ⟨s_2, s_3⟩ ⟨⟩ o8 fl9 hm7 - hn10 hd11
      have hm7 : slices_Max_sint_s1 p0 s_2 s_3 = some o8 := hm7
      unfold slices_Max_sint_s1 at hm7
      refine WK.sub (e' := [(0, .slice a_p0 p0.length c_p0), (2, .int .i64 0), (3, .int .i64 s_2), (4, .int .i64 s_3)]) ⟨rfl, rfl, rfl, rfl, trivial⟩ (WK.cls (C' := St w0 m m []) (fun _ h => h) ?_)
      refine WK_seq ?_
      refine WK_seq ?_
      refine WK_region ?_
      refine WO_pure tbok 4 [(0, .slice a_p0 p0.length c_p0), (2, .int .i64 0), (3, .int .i64 s_2), (4, .int .i64 s_3), (15, .bool (decide (s_3 < (p0.length : Int))))] rfl ⟨rfl, rfl, rfl, rfl, rfl, trivial⟩ ?_
      refine WO_end ?_
      refine WK_cond (b := decide (s_3 < (p0.length : Int))) rfl (fun hb13 => ?_) (fun hb13 => ?_)
      · have hm7 := ifT hb13 hm7
        refine WK_skip ?_
        refine WK_seq ?_
        refine WK_block ?_
        refine WK_region ?_
        refine WO_pure tbok 3 [(0, .slice a_p0 p0.length c_p0), (2, .int .i64 0), (3, .int .i64 s_2), (4, .int .i64 s_3), (18, .int .i64 s_2), (19, .slice a_p0 p0.length c_p0), (20, .int .i64 s_3)] rfl ⟨rfl, rfl, rfl, rfl, rfl, rfl, rfl, trivial⟩ ?_
        obtain ⟨v_5, hy14, hm7⟩ := bind_some hm7
        obtain ⟨hc15, hy14⟩ := ix_some hy14
        refine WO_index tbok rfl rfl rfl rfl rfl rfl rfl rfl (SlR.addr h_p0) hc15 ?_
        refine WO_loadE tbok rfl rfl rfl rfl (fun _ h => St.sat h) h_p0 hy14 rfl ?_
        refine WO_pure tbok 2 [(0, .slice a_p0 p0.length c_p0), (2, .int .i64 0), (3, .int .i64 (if s_2 < v_5 then v_5 else s_2)), (4, .int .i64 s_3)] rfl ⟨rfl, rfl, rfl, rfl, trivial⟩ ?_
        refine WO_end ?_
        refine WK_blk ?_
        refine WK_region ?_
        refine WO_pure tbok 3 [(0, .slice a_p0 p0.length c_p0), (2, .int .i64 0), (3, .int .i64 (if s_2 < v_5 then v_5 else s_2)), (4, .int .i64 (w64 (s_3 + 1)))] rfl ⟨rfl, rfl, rfl, rfl, trivial⟩ ?_
        refine WO_end ?_
        cases hm7
        refine WK.sub ?_ (WK.cls (fun _ h => h) (hn10 _ () rfl trivial))
        exact ⟨rfl, rfl, rfl, rfl, trivial⟩
      · have hm7 := ifF hb13 hm7
        refine WK_exit rfl ?_
        cases hm7
        refine WK.sub ?_ (WK.cls (fun _ h => h) (hk6 (s_2, ()) (hd11 _ rfl)))
        exact ⟨rfl, rfl, trivial⟩
theorem aggregate_Check_walk {m : Mu} {p0 : List (List Int)} {a_p0 : Option Addr} {q_p0 c_p0 : Nat} (h_p0 : SlR (RowE (FE (I1 .i64)) 1) 1 m (.slice a_p0 q_p0 c_p0) p0) {r : Int} (hm : aggregate_Check p0 = some r) :
    Go.E.Spec Tryd.prog 16 [.slice a_p0 q_p0 c_p0] m (fun v _ _ => v = .int .i64 r) := by
  refine Spec_enter Tryd.func16 rfl rfl rfl (fun w0 => ?_)
  refine WK.sub (e' := [(0, .slice a_p0 q_p0 c_p0)]) ⟨rfl, trivial⟩ ?_
  obtain rfl := SlR.qlen h_p0
  refine WK.sub (e' := [(0, .slice a_p0 p0.length c_p0)]) ⟨rfl, trivial⟩ ?_
  unfold aggregate_Check at hm
  refine WK_seq ?_
  refine WK_region ?_
  refine WO_pure tbok 1 [(0, .slice a_p0 p0.length c_p0), (2, .int .i64 0)] rfl ⟨rfl, rfl, trivial⟩ ?_
  refine WO_end ?_
  refine WK_seq ?_
  refine WK_seq ?_
  obtain ⟨s_1, hx1, hm⟩ := bind_some hm
  refine WK_meet [(0, .slice a_p0 p0.length c_p0), (2, .int .i64 0), (26, .bool s_1)] (St w0 m m []) ?_ (fun hk2 => ?_)
  · refine WK_cond (b := s_1) rfl (fun hb3 => ?_) (fun hb3 => ?_)
    · have hm := ifT hb3 hm
      refine WK_seq ?_
      refine WK_region ?_
      refine WO_pure tbok 1 [(0, .slice a_p0 p0.length c_p0), (2, .int .i64 1)] rfl ⟨rfl, rfl, trivial⟩ ?_
      refine WO_end ?_
      cases hm
      exact WK_ret (ret_out (L := []) (RLc_tmp rfl RLc_nil) (List.nil_sublist _) rfl)
    · have hm := ifF hb3 hm
      refine WK_skip ?_
      refine WK_seq ?_
      refine WK_seq ?_
      refine WK_region ?_
      refine WO_pure tbok 3 [(0, .slice a_p0 p0.length c_p0), (2, .int .i64 0), (27, .slice a_p0 p0.length c_p0), (28, .int .i64 (p0.length : Int)), (29, .int .i64 0)] rfl ⟨rfl, rfl, rfl, rfl, rfl, trivial⟩ ?_
      refine WO_end ?_
      obtain ⟨x4, hx5, hm⟩ := bind_some hm
      refine WK_join (β := Unit × Unit) (fun p => Sum.inr p.1 = x4) (fun p => [(2, .int .i64 0)]) (fun p => St w0 m m []) ?_ (fun hk6 => ?_)
      · rintro ⟨⟨⟩, ⟨⟩⟩ hq12
        subst hq12
        refine WK.sub (e' := [(2, .int .i64 0)]) ⟨rfl, trivial⟩ (WK.cls (C' := St w0 m m []) (fun _ h => h) ?_)
        refine WK_seq ?_
        refine WK_region ?_
        refine WO_pure tbok 1 [(2, .int .i64 0)] rfl ⟨rfl, trivial⟩ ?_
        refine WO_end ?_
        cases hm
        exact WK_ret (ret_out (L := []) (RLc_tmp rfl RLc_nil) (List.nil_sublist _) rfl)
      · refine WK_block ?_
        refine WK_loop (S := Int) (G := Unit) (fun s => aggregate_Check_s1 p0 s) (fun s g => [(0, .slice a_p0 p0.length c_p0), (2, .int .i64 0), (27, .slice a_p0 p0.length c_p0), (28, .int .i64 (p0.length : Int)), (29, .int .i64 s)]) (fun s g => St w0 m m []) (fun s g => True) FUEL 0 () x4 hx5 trivial ⟨rfl, rfl, rfl, rfl, rfl, trivial⟩ (fun _ h => h) ?_
        rintro s_2 ⟨⟩ o8 fl9 hm7 - hn10 hd11
        have hm7 : aggregate_Check_s1 p0 s_2 = some o8 := hm7
        unfold aggregate_Check_s1 at hm7
        refine WK.sub (e' := [(0, .slice a_p0 p0.length c_p0), (2, .int .i64 0), (27, .slice a_p0 p0.length c_p0), (28, .int .i64 (p0.length : Int)), (29, .int .i64 s_2)]) ⟨rfl, rfl, rfl, rfl, rfl, trivial⟩ (WK.cls (C' := St w0 m m []) (fun _ h => h) ?_)
        refine WK_seq ?_
        refine WK_region ?_
        refine WO_pure tbok 1 [(0, .slice a_p0 p0.length c_p0), (2, .int .i64 0), (27, .slice a_p0 p0.length c_p0), (28, .int .i64 (p0.length : Int)), (29, .int .i64 s_2), (30, .bool (decide (s_2 < (p0.length : Int))))] rfl ⟨rfl, rfl, rfl, rfl, rfl, rfl, trivial⟩ ?_
        refine WO_end ?_
        refine WK_seq ?_
        refine WK_cond (b := decide (s_2 < (p0.length : Int))) rfl (fun hb13 => ?_) (fun hb13 => ?_)
        · have hm7 := ifT hb13 hm7
          refine WK_skip ?_
          refine WK_seq ?_
          refine WK_block ?_
          refine WK_seq ?_
          refine WK_region ?_
          obtain ⟨v_3, hy14, hm7⟩ := bind_some hm7
          obtain ⟨hc15, hy14⟩ := ix_some hy14
          refine WO_index tbok rfl rfl rfl rfl rfl rfl rfl rfl (SlR.addr h_p0) hc15 ?_
          refine WO_loadR tbok rfl rfl rfl rfl (fun _ h => St.sat h) h_p0 hy14 rfl rfl (fun a16 c17 h18 => ?_)
          refine WO_pure tbok 1 [(0, .slice a_p0 p0.length c_p0), (2, .int .i64 0), (4, .slice a16 ((v_3).length) c17), (27, .slice a_p0 p0.length c_p0), (28, .int .i64 (p0.length : Int)), (29, .int .i64 s_2)] rfl ⟨rfl, rfl, rfl, rfl, rfl, rfl, trivial⟩ ?_
          refine WO_end ?_
          refine WK_seq ?_
          obtain ⟨s_4, hx19, hm7⟩ := bind_some hm7
          refine WK_meet [(0, .slice a_p0 p0.length c_p0), (2, .int .i64 0), (27, .slice a_p0 p0.length c_p0), (28, .int .i64 (p0.length : Int)), (29, .int .i64 s_2), (49, .bool s_4)] (St w0 m m []) ?_ (fun hk20 => ?_)
          · refine WK_cond (b := s_4) rfl (fun hb21 => ?_) (fun hb21 => ?_)
            · have hm7 := ifT hb21 hm7
              refine WK_seq ?_
              refine WK_region ?_
              refine WO_pure tbok 1 [(0, .slice a_p0 p0.length c_p0), (2, .int .i64 1), (27, .slice a_p0 p0.length c_p0), (28, .int .i64 (p0.length : Int)), (29, .int .i64 s_2)] rfl ⟨rfl, rfl, rfl, rfl, rfl, trivial⟩ ?_
              refine WO_end ?_
              cases hm7
              have hq := hd11 _ rfl
              subst hq
              have hm : some _ = some _ := hm
              cases hm
              exact WK_ret (ret_out (L := []) (RLc_tmp rfl RLc_nil) (List.nil_sublist _) rfl)
            · have hm7 := ifF hb21 hm7
              refine WK_skip ?_
              refine WK_blk ?_
              refine WK_region ?_
              refine WO_pure tbok 2 [(0, .slice a_p0 p0.length c_p0), (2, .int .i64 0), (27, .slice a_p0 p0.length c_p0), (28, .int .i64 (p0.length : Int)), (29, .int .i64 (w64 (s_2 + 1)))] rfl ⟨rfl, rfl, rfl, rfl, rfl, trivial⟩ ?_
              refine WO_end ?_
              cases hm7
              refine WK.sub ?_ (WK.cls (fun _ h => h) (hn10 _ () rfl trivial))
              exact ⟨rfl, rfl, rfl, rfl, rfl, trivial⟩
          · refine WK_region ?_
            refine WO_pure tbok 3 [(0, .slice a_p0 p0.length c_p0), (2, .int .i64 0), (4, .slice a16 ((v_3).length) c17), (27, .slice a_p0 p0.length c_p0), (28, .int .i64 (p0.length : Int)), (29, .int .i64 s_2), (34, .int .i64 ((v_3).length : Int)), (35, .slice a_p0 p0.length c_p0)] rfl ⟨rfl, rfl, rfl, rfl, rfl, rfl, rfl, rfl, trivial⟩ ?_
            obtain ⟨v_5, hy22, hx19⟩ := bind_some hx19
            obtain ⟨hc23, hy22⟩ := ix_some hy22
            refine WO_index tbok rfl rfl rfl rfl rfl rfl rfl rfl (SlR.addr h_p0) hc23 ?_
            refine WO_loadR tbok rfl rfl rfl rfl (fun _ h => St.sat h) h_p0 hy22 rfl rfl (fun a24 c25 h26 => ?_)
            refine WO_pure tbok 3 [(0, .slice a_p0 p0.length c_p0), (2, .int .i64 0), (4, .slice a16 ((v_3).length) c17), (27, .slice a_p0 p0.length c_p0), (28, .int .i64 (p0.length : Int)), (29, .int .i64 s_2), (40, .bool (((v_3).length : Int) != ((v_5).length : Int)))] rfl ⟨rfl, rfl, rfl, rfl, rfl, rfl, rfl, trivial⟩ ?_
            refine WO_split (d := 40) (b := ((v_3).length : Int) != ((v_5).length : Int)) rfl (fun hb27 => ?_) (fun hb27 => ?_)
            · have hx19 := ifT hb27 hx19
              refine WO_pure tbok 1 [(0, .slice a_p0 p0.length c_p0), (2, .int .i64 0), (4, .slice a16 ((v_3).length) c17), (27, .slice a_p0 p0.length c_p0), (28, .int .i64 (p0.length : Int)), (29, .int .i64 s_2), (40, .bool true)] rfl ⟨rfl, rfl, rfl, rfl, rfl, rfl, rfl, trivial⟩ ?_
              refine WO_skip rfl rfl ?_
              refine WO_pure tbok 4 [(0, .slice a_p0 p0.length c_p0), (2, .int .i64 0), (27, .slice a_p0 p0.length c_p0), (28, .int .i64 (p0.length : Int)), (29, .int .i64 s_2), (45, .bool true)] rfl ⟨rfl, rfl, rfl, rfl, rfl, rfl, trivial⟩ ?_
              refine WO_skip rfl rfl ?_
              refine WO_pure tbok 2 [(0, .slice a_p0 p0.length c_p0), (2, .int .i64 0), (27, .slice a_p0 p0.length c_p0), (28, .int .i64 (p0.length : Int)), (29, .int .i64 s_2), (49, .bool true)] rfl ⟨rfl, rfl, rfl, rfl, rfl, rfl, trivial⟩ ?_
              refine WO_end ?_
              cases hx19
              refine WK.sub ?_ (WK.cls (fun _ h => h) hk20)
              exact ⟨rfl, rfl, rfl, rfl, rfl, rfl, trivial⟩
            · have hx19 := ifF hb27 hx19
              refine WO_pure tbok 1 [(0, .slice a_p0 p0.length c_p0), (2, .int .i64 0), (4, .slice a16 ((v_3).length) c17), (27, .slice a_p0 p0.length c_p0), (28, .int .i64 (p0.length : Int)), (29, .int .i64 s_2), (40, .bool false), (41, .slice a16 ((v_3).length) c17)] rfl ⟨rfl, rfl, rfl, rfl, rfl, rfl, rfl, rfl, trivial⟩ ?_
              obtain ⟨y_6, hc28, hx19⟩ := bind_some hx19
              refine WO_call0 (.int .i64 y_6) rfl rfl trivial rfl rfl rfl rfl St_closed ⟨26, #[], #[], rfl, callable_26, fun w hw => ⟨_, hw.sat, slices_Min_sint_walk h18 hc28⟩⟩ ?_
              refine WO_pure tbok 3 [(0, .slice a_p0 p0.length c_p0), (2, .int .i64 0), (4, .slice a16 ((v_3).length) c17), (27, .slice a_p0 p0.length c_p0), (28, .int .i64 (p0.length : Int)), (29, .int .i64 s_2), (45, .bool (decide (y_6 < 0)))] rfl ⟨rfl, rfl, rfl, rfl, rfl, rfl, rfl, trivial⟩ ?_
              refine WO_split (d := 45) (b := decide (y_6 < 0)) rfl (fun hb29 => ?_) (fun hb29 => ?_)
              · have hx19 := ifT hb29 hx19
                refine WO_pure tbok 1 [(0, .slice a_p0 p0.length c_p0), (2, .int .i64 0), (27, .slice a_p0 p0.length c_p0), (28, .int .i64 (p0.length : Int)), (29, .int .i64 s_2), (45, .bool true)] rfl ⟨rfl, rfl, rfl, rfl, rfl, rfl, trivial⟩ ?_
                refine WO_skip rfl rfl ?_
                refine WO_pure tbok 2 [(0, .slice a_p0 p0.length c_p0), (2, .int .i64 0), (27, .slice a_p0 p0.length c_p0), (28, .int .i64 (p0.length : Int)), (29, .int .i64 s_2), (49, .bool true)] rfl ⟨rfl, rfl, rfl, rfl, rfl, rfl, trivial⟩ ?_
                refine WO_end ?_
                cases hx19
                refine WK.sub ?_ (WK.cls (fun _ h => h) hk20)
                exact ⟨rfl, rfl, rfl, rfl, rfl, rfl, trivial⟩
              · have hx19 := ifF hb29 hx19
                refine WO_pure tbok 1 [(0, .slice a_p0 p0.length c_p0), (2, .int .i64 0), (27, .slice a_p0 p0.length c_p0), (28, .int .i64 (p0.length : Int)), (29, .int .i64 s_2), (45, .bool false), (46, .slice a16 ((v_3).length) c17)] rfl ⟨rfl, rfl, rfl, rfl, rfl, rfl, rfl, trivial⟩ ?_
                obtain ⟨y_7, hc30, hx19⟩ := bind_some hx19
                refine WO_call0 (.int .i64 y_7) rfl rfl trivial rfl rfl rfl rfl St_closed ⟨34, #[], #[], rfl, callable_34, fun w hw => ⟨_, hw.sat, slices_Max_sint_walk h18 hc30⟩⟩ ?_
                refine WO_pure tbok 2 [(0, .slice a_p0 p0.length c_p0), (2, .int .i64 0), (27, .slice a_p0 p0.length c_p0), (28, .int .i64 (p0.length : Int)), (29, .int .i64 s_2), (49, .bool (decide (1048576 < y_7)))] rfl ⟨rfl, rfl, rfl, rfl, rfl, rfl, trivial⟩ ?_
                refine WO_end ?_
                cases hx19
                refine WK.sub ?_ (WK.cls (fun _ h => h) hk20)
                exact ⟨rfl, rfl, rfl, rfl, rfl, rfl, trivial⟩
        · have hm7 := ifF hb13 hm7
          refine WK_exit rfl ?_
          cases hm7
          refine WK.sub ?_ (WK.cls (fun _ h => h) (hk6 ((), ()) (hd11 _ rfl)))
          exact ⟨rfl, trivial⟩
  · refine WK_region ?_
    refine WO_pure tbok 4 [(0, .slice a_p0 p0.length c_p0), (2, .int .i64 0), (8, .bool (decide ((p0.length : Int) < 1)))] rfl ⟨rfl, rfl, rfl, trivial⟩ ?_
    refine WO_split (d := 8) (b := decide ((p0.length : Int) < 1)) rfl (fun hb31 => ?_) (fun hb31 => ?_)
    · have hx1 := ifT hb31 hx1
      refine WO_pure tbok 18 [(0, .slice a_p0 p0.length c_p0), (2, .int .i64 0), (26, .bool true)] rfl ⟨rfl, rfl, rfl, trivial⟩ ?_
      refine WO_end ?_
      cases hx1
      refine WK.sub ?_ (WK.cls (fun _ h => h) hk2)
      exact ⟨rfl, rfl, rfl, trivial⟩
    · have hx1 := ifF hb31 hx1
      refine WO_pure tbok 5 [(0, .slice a_p0 p0.length c_p0), (2, .int .i64 0), (13, .bool (decide (64 < (p0.length : Int))))] rfl ⟨rfl, rfl, rfl, trivial⟩ ?_
      refine WO_split (d := 13) (b := decide (64 < (p0.length : Int))) rfl (fun hb32 => ?_) (fun hb32 => ?_)
      · have hx1 := ifT hb32 hx1
        refine WO_pure tbok 13 [(0, .slice a_p0 p0.length c_p0), (2, .int .i64 0), (26, .bool true)] rfl ⟨rfl, rfl, rfl, trivial⟩ ?_
        refine WO_end ?_
        cases hx1
        refine WK.sub ?_ (WK.cls (fun _ h => h) hk2)
        exact ⟨rfl, rfl, rfl, trivial⟩
      · have hx1 := ifF hb32 hx1
        refine WO_pure tbok 1 [(0, .slice a_p0 p0.length c_p0), (2, .int .i64 0), (13, .bool false), (14, .slice a_p0 p0.length c_p0)] rfl ⟨rfl, rfl, rfl, rfl, trivial⟩ ?_
        obtain ⟨v_8, hy33, hx1⟩ := bind_some hx1
        obtain ⟨hc34, hy33⟩ := ix_some hy33
        refine WO_index tbok rfl rfl rfl rfl rfl rfl rfl rfl (SlR.addr h_p0) hc34 ?_
        refine WO_loadR tbok rfl rfl rfl rfl (fun _ h => St.sat h) h_p0 hy33 rfl rfl (fun a35 c36 h37 => ?_)
        refine WO_pure tbok 4 [(0, .slice a_p0 p0.length c_p0), (2, .int .i64 0), (20, .bool (decide (((v_8).length : Int) < 1)))] rfl ⟨rfl, rfl, rfl, trivial⟩ ?_
        refine WO_split (d := 20) (b := decide (((v_8).length : Int) < 1)) rfl (fun hb38 => ?_) (fun hb38 => ?_)
        · have hx1 := ifT hb38 hx1
          refine WO_pure tbok 6 [(0, .slice a_p0 p0.length c_p0), (2, .int .i64 0), (26, .bool true)] rfl ⟨rfl, rfl, rfl, trivial⟩ ?_
          refine WO_end ?_
          cases hx1
          refine WK.sub ?_ (WK.cls (fun _ h => h) hk2)
          exact ⟨rfl, rfl, rfl, trivial⟩
        · have hx1 := ifF hb38 hx1
          refine WO_pure tbok 1 [(0, .slice a_p0 p0.length c_p0), (2, .int .i64 0), (20, .bool false), (21, .slice a_p0 p0.length c_p0)] rfl ⟨rfl, rfl, rfl, rfl, trivial⟩ ?_
          obtain ⟨v_9, hy39, hx1⟩ := bind_some hx1
          obtain ⟨hc40, hy39⟩ := ix_some hy39
          refine WO_index tbok rfl rfl rfl rfl rfl rfl rfl rfl (SlR.addr h_p0) hc40 ?_
          refine WO_loadR tbok rfl rfl rfl rfl (fun _ h => St.sat h) h_p0 hy39 rfl rfl (fun a41 c42 h43 => ?_)
          refine WO_pure tbok 3 [(0, .slice a_p0 p0.length c_p0), (2, .int .i64 0), (26, .bool (decide (64 < ((v_9).length : Int))))] rfl ⟨rfl, rfl, rfl, trivial⟩ ?_
          refine WO_end ?_
          cases hx1
          refine WK.sub ?_ (WK.cls (fun _ h => h) hk2)
          exact ⟨rfl, rfl, rfl, trivial⟩
theorem aggregate_penalties_walk {m : Mu} {p0 : Int} {p1 : Int}   {r : Int} (hm : aggregate_penalties p0 p1 = some r) :
    Go.E.Spec Tryd.prog 37 [.int .i64 p0, .int .i64 p1] m (fun v _ _ => v = .int .i64 r) := by
  refine Spec_enter Tryd.func37 rfl rfl rfl (fun w0 => ?_)
  refine WK.sub (e' := [(0, .int .i64 p0), (1, .int .i64 p1)]) ⟨rfl, rfl, trivial⟩ ?_
  refine WK.sub (e' := [(0, .int .i64 p0), (1, .int .i64 p1)]) ⟨rfl, rfl, trivial⟩ ?_
  unfold aggregate_penalties at hm
  refine WK_seq ?_
  refine WK_region ?_
  refine WO_pure tbok 1 [(0, .int .i64 p0), (1, .int .i64 p1), (4, .int .i64 0)] rfl ⟨rfl, rfl, rfl, trivial⟩ ?_
  refine WO_end ?_
  refine WK_seq ?_
  refine WK_seq ?_
  obtain ⟨s_1, hx1, hm⟩ := bind_some hm
  refine WK_meet [(4, .int .i64 0), (15, .bool s_1)] (St w0 m m []) ?_ (fun hk2 => ?_)
  · refine WK_cond (b := s_1) rfl (fun hb3 => ?_) (fun hb3 => ?_)
    · have hm := ifT hb3 hm
      refine WK_seq ?_
      refine WK_region ?_
      refine WO_pure tbok 1 [(4, .int .i64 2)] rfl ⟨rfl, trivial⟩ ?_
      refine WO_end ?_
      cases hm
      exact WK_ret (ret_out (L := []) (RLc_tmp rfl RLc_nil) (List.nil_sublist _) rfl)
    · have hm := ifF hb3 hm
      refine WK_skip ?_
      refine WK_seq ?_
      refine WK_region ?_
      refine WO_pure tbok 1 [(4, .int .i64 0)] rfl ⟨rfl, trivial⟩ ?_
      refine WO_end ?_
      cases hm
      exact WK_ret (ret_out (L := []) (RLc_tmp rfl RLc_nil) (List.nil_sublist _) rfl)
  · refine WK_region ?_
    refine WO_pure tbok 3 [(0, .int .i64 p0), (1, .int .i64 p1), (4, .int .i64 0), (7, .bool (decide (p0 < 0)))] rfl ⟨rfl, rfl, rfl, rfl, trivial⟩ ?_
    refine WO_split (d := 7) (b := decide (p0 < 0)) rfl (fun hb4 => ?_) (fun hb4 => ?_)
    · have hx1 := ifT hb4 hx1
      refine WO_pure tbok 8 [(4, .int .i64 0), (15, .bool true)] rfl ⟨rfl, rfl, trivial⟩ ?_
      refine WO_end ?_
      cases hx1
      refine WK.sub ?_ (WK.cls (fun _ h => h) hk2)
      exact ⟨rfl, rfl, trivial⟩
    · have hx1 := ifF hb4 hx1
      refine WO_pure tbok 5 [(1, .int .i64 p1), (4, .int .i64 0), (12, .bool (decide (p1 < p0)))] rfl ⟨rfl, rfl, rfl, trivial⟩ ?_
      refine WO_split (d := 12) (b := decide (p1 < p0)) rfl (fun hb5 => ?_) (fun hb5 => ?_)
      · have hx1 := ifT hb5 hx1
        refine WO_pure tbok 3 [(4, .int .i64 0), (15, .bool true)] rfl ⟨rfl, rfl, trivial⟩ ?_
        refine WO_end ?_
        cases hx1
        refine WK.sub ?_ (WK.cls (fun _ h => h) hk2)
        exact ⟨rfl, rfl, trivial⟩
      · have hx1 := ifF hb5 hx1
        refine WO_pure tbok 3 [(4, .int .i64 0), (15, .bool (decide (1048576 < p1)))] rfl ⟨rfl, rfl, trivial⟩ ?_
        refine WO_end ?_
        cases hx1
        refine WK.sub ?_ (WK.cls (fun _ h => h) hk2)
        exact ⟨rfl, rfl, trivial⟩
theorem aggregate_checked_walk {m : Mu} {p0 : List (List Int)} {p1 : Int} {p2 : Int} {a_p0 : Option Addr} {q_p0 c_p0 : Nat} (h_p0 : SlR (RowE (FE (I1 .i64)) 1) 1 m (.slice a_p0 q_p0 c_p0) p0) {r : Int} (hm : aggregate_checked p0 p1 p2 = some r) :
    Go.E.Spec Tryd.prog 27 [.slice a_p0 q_p0 c_p0, .int .i64 p1, .int .i64 p2] m (fun v _ _ => v = .int .i64 r) := by
  refine Spec_enter Tryd.func27 rfl rfl rfl (fun w0 => ?_)
  refine WK.sub (e' := [(0, .slice a_p0 q_p0 c_p0), (1, .int .i64 p1), (2, .int .i64 p2)]) ⟨rfl, rfl, rfl, trivial⟩ ?_
  obtain rfl := SlR.qlen h_p0
  refine WK.sub (e' := [(0, .slice a_p0 p0.length c_p0), (1, .int .i64 p1), (2, .int .i64 p2)]) ⟨rfl, rfl, rfl, trivial⟩ ?_
  unfold aggregate_checked at hm
  refine WK_seq ?_
  refine WK_region ?_
  refine WO_pure tbok 1 [(0, .slice a_p0 p0.length c_p0), (1, .int .i64 p1), (2, .int .i64 p2), (6, .int .i64 0)] rfl ⟨rfl, rfl, rfl, rfl, trivial⟩ ?_
  refine WO_end ?_
  refine WK_seq ?_
  refine WK_seq ?_
  refine WK_region ?_
  refine WO_pure tbok 1 [(1, .int .i64 p1), (2, .int .i64 p2), (6, .int .i64 0), (8, .slice a_p0 p0.length c_p0)] rfl ⟨rfl, rfl, rfl, rfl, trivial⟩ ?_
  obtain ⟨y_1, hc1, hm⟩ := bind_some hm
  refine WO_call0 (.int .i64 y_1) rfl rfl trivial rfl rfl rfl rfl St_closed ⟨16, #[], #[], rfl, callable_16, fun w hw => ⟨_, hw.sat, aggregate_Check_walk h_p0 hc1⟩⟩ ?_
  refine WO_pure tbok 1 [(1, .int .i64 p1), (2, .int .i64 p2), (6, .int .i64 0), (7, .int .i64 y_1)] rfl ⟨rfl, rfl, rfl, rfl, trivial⟩ ?_
  refine WO_end ?_
  refine WK_seq ?_
  refine WK_region ?_
  refine WO_pure tbok 2 [(1, .int .i64 p1), (2, .int .i64 p2), (6, .int .i64 0), (7, .int .i64 y_1), (11, .bool (y_1 != 0))] rfl ⟨rfl, rfl, rfl, rfl, rfl, trivial⟩ ?_
  refine WO_end ?_
  refine WK_cond (b := y_1 != 0) rfl (fun hb2 => ?_) (fun hb2 => ?_)
  · have hm := ifT hb2 hm
    refine WK_seq ?_
    refine WK_region ?_
    refine WO_pure tbok 2 [(1, .int .i64 p1), (2, .int .i64 p2), (6, .int .i64 y_1)] rfl ⟨rfl, rfl, rfl, trivial⟩ ?_
    refine WO_end ?_
    cases hm
    exact WK_ret (ret_out (L := []) (RLc_tmp rfl RLc_nil) (List.nil_sublist _) rfl)
  · have hm := ifF hb2 hm
    refine WK_skip ?_
    refine WK_seq ?_
    refine WK_region ?_
    refine WO_pure tbok 2 [(6, .int .i64 0), (13, .int .i64 p1), (14, .int .i64 p2)] rfl ⟨rfl, rfl, rfl, trivial⟩ ?_
    obtain ⟨y_2, hc3, hm⟩ := bind_some hm
    refine WO_call0 (.int .i64 y_2) rfl rfl trivial rfl rfl rfl rfl St_closed ⟨37, #[], #[], rfl, callable_37, fun w hw => ⟨_, hw.sat, aggregate_penalties_walk hc3⟩⟩ ?_
    refine WO_pure tbok 1 [(6, .int .i64 y_2)] rfl ⟨rfl, trivial⟩ ?_
    refine WO_end ?_
    cases hm
    exact WK_ret (ret_out (L := []) (RLc_tmp rfl RLc_nil) (List.nil_sublist _) rfl)
def slices_Clone_ssint_Q (r : List (List Int)) : Value → Mu → List Ent → Prop := fun v m L => ∃ (a0 : Option Addr) (q0 c0 : Nat), v = .slice a0 q0 c0 ∧ OwnX 22 1 V1 (RowE (FE (I1 .i64)) 1) m (.slice a0 q0 c0) r L
theorem slices_Clone_ssint_walk {m : Mu} {p0 : List (List Int)} {a_p0 : Option Addr} {q_p0 c_p0 : Nat} (h_p0 : SlR (RowE (FE (I1 .i64)) 1) 1 m (.slice a_p0 q_p0 c_p0) p0) {r : List (List Int)} (hm : slices_Clone_ssint p0 = some r) :
    Go.E.Spec Tryd.prog 40 [.slice a_p0 q_p0 c_p0] m (slices_Clone_ssint_Q r) := by
  refine Spec_enter Tryd.func40 rfl rfl rfl (fun w0 => ?_)
  refine WK.sub (e' := [(0, .slice a_p0 q_p0 c_p0)]) ⟨rfl, trivial⟩ ?_
  obtain rfl := SlR.qlen h_p0
  refine WK.sub (e' := [(0, .slice a_p0 p0.length c_p0)]) ⟨rfl, trivial⟩ ?_
  cases a_p0 with
  | none =>
    obtain ⟨hx, _, hc⟩ := SlR.none_nil h_p0
    subst hx
    subst hc
    unfold slices_Clone_ssint at hm
    obtain ⟨_, hm⟩ := chk_some hm
    refine WK_seq ?_
    refine WK_region ?_
    refine WO_pure tbok 1 [(0, .slice none 0 0), (2, .slice none 0 0)] rfl ⟨rfl, rfl, trivial⟩ ?_
    refine WO_end ?_
    refine WK_seq ?_
    refine WK_seq ?_
    refine WK_region ?_
    refine WO_pure tbok 1 [(0, .slice none 0 0), (2, .slice none 0 0), (3, .slice none 0 0)] rfl ⟨rfl, rfl, rfl, trivial⟩ ?_
    refine WO_eqnil tbok rfl rfl rfl rfl rfl rfl rfl ?_
    refine WO_end ?_
    refine WK_condT rfl ?_
    refine WK_seq ?_
    refine WK_region ?_
    refine WO_pure tbok 1 [(0, .slice none 0 0), (2, .slice none 0 0)] rfl ⟨rfl, rfl, trivial⟩ ?_
    refine WO_end ?_
    cases hm
    exact WK_ret (ret_out (L := []) (RLc_tmp rfl RLc_nil) (List.nil_sublist _) ⟨none, 0, 0, rfl, (OwnX.nil (T := 22) (k := 1) (E := V1) (El := (RowE (FE (I1 .i64)) 1)) (m := m) none)⟩)
  | some ad =>
    unfold slices_Clone_ssint at hm
    refine WK_seq ?_
    refine WK_region ?_
    refine WO_pure tbok 1 [(0, .slice (some ad) p0.length c_p0), (2, .slice none 0 0)] rfl ⟨rfl, rfl, trivial⟩ ?_
    refine WO_end ?_
    refine WK_seq ?_
    refine WK_seq ?_
    refine WK_region ?_
    refine WO_pure tbok 1 [(0, .slice (some ad) p0.length c_p0), (2, .slice none 0 0), (3, .slice (some ad) p0.length c_p0)] rfl ⟨rfl, rfl, rfl, trivial⟩ ?_
    refine WO_eqnil tbok rfl rfl rfl rfl rfl rfl rfl ?_
    refine WO_end ?_
    refine WK_condF rfl ?_
    refine WK_skip ?_
    refine WK_seq ?_
    refine WK_region ?_
    refine WO_bsliceX (E := V1) (El := (RowE (FE (I1 .i64)) 1)) tbok (fun _ => rfl) (by decide) [] [] ([] : List (List Int)) rfl rfl trivial rfl rfl rfl rfl rfl rfl rfl rfl rfl rfl rfl rfl trivial (fun b1 hb1 => ?_)
    refine WO.cls (C' := St w0 m m [[⟨b1, 22, []⟩]]) (fun _ h => h) ?_
    refine WO_pure tbok 1 [(2, .slice none 0 0), (5, .slice (some ⟨b1, 0, none⟩) 0 0), (6, .slice (some ad) p0.length c_p0)] rfl ⟨rfl, rfl, rfl, trivial⟩ ?_
    obtain ⟨hc2, hm⟩ := chk_some hm
    refine WO_appendSX (El := (RowE (FE (I1 .i64)) 1)) tbok 0 p0 rfl rfl rfl rfl rfl rfl rfl rfl rfl rfl rfl rfl row_one hb1 rfl h_p0 (ap_ok (by decide) hc2) (ap_max hc2) (fun a3 c4 L5 hL5 => ?_)
    refine WO.cls (C' := St w0 m m [L5]) (fun _ h => h) ?_
    refine WO_pure tbok 1 [(2, .slice a3 ((([] : List (List Int)) ++ p0).length) c4)] rfl ⟨rfl, trivial⟩ ?_
    refine WO_end ?_
    cases hm
    exact WK_ret (ret_out (L := L5) (RLc_tmp rfl RLc_nil) (seg_sub 0 rfl) ⟨a3, ((([] : List (List Int)) ++ p0).length), c4, rfl, hL5⟩)
def aggregate_reversed_Q (r : List (List Int)) : Value → Mu → List Ent → Prop := fun v m L => ∃ (a0 : Option Addr) (q0 c0 : Nat), v = .slice a0 q0 c0 ∧ SlR (RowE (FE (I1 .i64)) 1) 1 m (.slice a0 q0 c0) r
theorem aggregate_reversed_walk {m : Mu} {p0 : List (List Int)} {a_p0 : Option Addr} {q_p0 c_p0 : Nat} (h_p0 : SlR (RowE (FE (I1 .i64)) 1) 1 m (.slice a_p0 q_p0 c_p0) p0) {r : List (List Int)} (hm : aggregate_reversed p0 = some r) :
    Go.E.Spec Tryd.prog 28 [.slice a_p0 q_p0 c_p0] m (aggregate_reversed_Q r) := by
  refine Spec_enter Tryd.func28 rfl rfl rfl (fun w0 => ?_)
  refine WK.sub (e' := [(0, .slice a_p0 q_p0 c_p0)]) ⟨rfl, trivial⟩ ?_
  obtain rfl := SlR.qlen h_p0
  refine WK.sub (e' := [(0, .slice a_p0 p0.length c_p0)]) ⟨rfl, trivial⟩ ?_
  unfold aggregate_reversed at hm
  refine WK_seq ?_
  refine WK_region ?_
  refine WO_pure tbok 1 [(0, .slice a_p0 p0.length c_p0), (2, .slice none 0 0)] rfl ⟨rfl, rfl, trivial⟩ ?_
  refine WO_end ?_
  refine WK_seq ?_
  refine WK_region ?_
  refine WO_pure tbok 1 [(2, .slice none 0 0), (4, .slice a_p0 p0.length c_p0)] rfl ⟨rfl, rfl, trivial⟩ ?_
  obtain ⟨y_1, hc1, hm⟩ := bind_some hm
  refine WO_call2 (slices_Clone_ssint_Q y_1) rfl rfl trivial rfl rfl rfl rfl ⟨40, #[], #[], rfl, callable_40, slices_Clone_ssint_walk h_p0 hc1⟩ (fun v5 m6 L4 hle7 hq => ?_)
  obtain ⟨a2, qa2, c3, rfl, h8⟩ := hq
  obtain rfl := OwnX.qlen h8
  refine WO.cls (C' := St w0 m m6 [L4]) (fun _ h => h) ?_
  refine WO_pure tbok 1 [(2, .slice none 0 0), (3, .slice a2 ((y_1).length) c3)] rfl ⟨rfl, rfl, trivial⟩ ?_
  refine WO_end ?_
  refine WK_seq ?_
  refine WK_region ?_
  refine WO_pure tbok 1 [(2, .slice none 0 0), (3, .slice a2 ((y_1).length) c3), (6, .slice a2 ((y_1).length) c3)] rfl ⟨rfl, rfl, rfl, trivial⟩ ?_
  refine WO_inline rfl rfl rfl rfl rfl rfl callable_41 Tryd.func41 rfl rfl rfl ?_
  refine WK.sub (e' := [(0, .slice a2 ((y_1).length) c3)]) ⟨rfl, trivial⟩ ?_
  refine WK_seq ?_
  refine WK_region ?_
  refine WO_pure tbok 5 [(0, .slice a2 ((y_1).length) c3), (2, .int .i64 0), (3, .int .i64 (w64 (((y_1).length : Int) - 1)))] rfl ⟨rfl, rfl, rfl, trivial⟩ ?_
  refine WO_end ?_
  obtain ⟨x11, hx12, hm⟩ := bind_some hm
  refine WK_join (β := (List (List Int)) × (List Ent)) (fun p => p.1 = x11 ∧ OwnX 22 1 V1 (RowE (FE (I1 .i64)) 1) m6 (.slice a2 ((y_1).length) c3) p.1 p.2) (fun p => []) (fun p => St w0 m m6 [p.2]) ?_ (fun hk13 => ?_)
  · rintro ⟨l_5, L10⟩ ⟨hq19, hL10⟩
    subst hq19
    refine WK.sub (e' := []) trivial (WK.cls (C' := St w0 m m6 [L10]) (fun _ h => h) ?_)
    refine WK_nilI RLc_nil (fun _ _ => trivial) ?_
    refine WO_end ?_
    refine WK_seq ?_
    refine WK_region ?_
    refine WO_pure tbok 2 [(2, .slice a2 ((y_1).length) c3)] rfl ⟨rfl, trivial⟩ ?_
    refine WO_end ?_
    cases hm
    refine WK_freeze 0 rfl (fun m20 hle21 hmm22 => ?_)
    refine WK.cls (C' := St w0 m m20 [[]]) (fun _ h => h) ?_
    exact WK_ret (ret_out (L := []) (RLc_tmp rfl RLc_nil) (List.nil_sublist _) ⟨a2, _, c3, rfl, (OwnX.rd (E := V1) (k := 1) (fun _ => rfl) hL10 (mono_RowE (mono_FE _) _) hle21 hmm22)⟩)
  · refine WK_block ?_
    refine WK_loop (S := List (List Int) × Int × Int) (G := List Ent) (fun s => aggregate_reversed_s1 s.1 s.2.1 s.2.2) (fun s g => [(0, .slice a2 ((y_1).length) c3), (2, .int .i64 s.2.1), (3, .int .i64 s.2.2)]) (fun s g => St w0 m m6 [g]) (fun s g => OwnX 22 1 V1 (RowE (FE (I1 .i64)) 1) m6 (.slice a2 ((y_1).length) c3) s.1 g) FUEL (y_1, 0, w64 (((y_1).length : Int) - 1)) L4 x11 hx12 h8 ⟨rfl, rfl, rfl, trivial⟩ (fun _ h => h) ?_
    rintro ⟨l_2, s_3, s_4⟩ L9 o15 fl16 hm14 hL9 hn17 hd18
    have hm14 : aggregate_reversed_s1 l_2 s_3 s_4 = some o15 := hm14
    unfold aggregate_reversed_s1 at hm14
    refine WK.sub (e' := [(0, .slice a2 ((y_1).length) c3), (2, .int .i64 s_3), (3, .int .i64 s_4)]) ⟨rfl, rfl, rfl, trivial⟩ (WK.cls (C' := St w0 m m6 [L9]) (fun _ h => h) ?_)
    refine WK_seq ?_
    refine WK_seq ?_
    refine WK_region ?_
    refine WO_pure tbok 3 [(0, .slice a2 ((y_1).length) c3), (2, .int .i64 s_3), (3, .int .i64 s_4), (9, .bool (decide (s_3 < s_4)))] rfl ⟨rfl, rfl, rfl, rfl, trivial⟩ ?_
    refine WO_end ?_
    refine WK_cond (b := decide (s_3 < s_4)) rfl (fun hb23 => ?_) (fun hb23 => ?_)
    · have hm14 := ifT hb23 hm14
      refine WK_skip ?_
      refine WK_seq ?_
      refine WK_block ?_
      refine WK_plan 13 [0, 1, 2, 3, 4, 5, 6, 8, 9, 10] (.run [7, 11, 12] .fin) follows_ok (by kernel_rfl) St_closed ?_
      refine WO_pure tbok 6 [(0, .slice a2 ((y_1).length) c3), (2, .int .i64 s_3), (3, .int .i64 s_4), (14, .slice a2 ((y_1).length) c3), (15, .int .i64 s_3), (16, .slice a2 ((y_1).length) c3), (17, .int .i64 s_4), (18, .slice a2 ((y_1).length) c3), (19, .int .i64 s_4)] rfl ⟨rfl, rfl, rfl, rfl, rfl, rfl, rfl, rfl, rfl, trivial⟩ ?_
      obtain ⟨v_6, hy24, hm14⟩ := bind_some hm14
      obtain ⟨hc25, hy24⟩ := ix_some hy24
      refine WO_index tbok rfl rfl rfl rfl rfl rfl rfl rfl (OwnX.addr hL9) (by simpa using hc25) ?_
      refine WO_pure tbok 2 [(0, .slice a2 ((y_1).length) c3), (2, .int .i64 s_3), (3, .int .i64 s_4), (14, .slice a2 ((y_1).length) c3), (15, .int .i64 s_3), (16, .slice a2 ((y_1).length) c3), (17, .int .i64 s_4), (20, .pointer (some (eAddr (.slice a2 ((y_1).length) c3) 1 s_4.toNat))), (22, .slice a2 ((y_1).length) c3), (23, .int .i64 s_3)] rfl ⟨rfl, rfl, rfl, rfl, rfl, rfl, rfl, rfl, rfl, rfl, trivial⟩ ?_
      obtain ⟨v_7, hy26, hm14⟩ := bind_some hm14
      obtain ⟨hc27, hy26⟩ := ix_some hy26
      refine WO_index tbok rfl rfl rfl rfl rfl rfl rfl rfl (OwnX.addr hL9) (by simpa using hc27) ?_
      refine WO_plan ?_
      refine WT_run ?_
      refine WO_loadOX (E := V1) tbok (fun _ => rfl) 0 rfl rfl rfl rfl (fun _ h => h) hL9 rfl hy24 (fun cs hcs => ?_)
      obtain ⟨v0, rfl, h30⟩ := hcs
      obtain ⟨a28, c29, rfl, _⟩ := SlR.len h30
      refine ⟨_, rfl, ?_⟩
      refine WO_loadOX (E := V1) tbok (fun _ => rfl) 0 rfl rfl rfl rfl (fun _ h => h) hL9 rfl hy26 (fun cs hcs => ?_)
      obtain ⟨v0, rfl, h33⟩ := hcs
      obtain ⟨a31, c32, rfl, _⟩ := SlR.len h33
      refine ⟨_, rfl, ?_⟩
      obtain ⟨hc34, hm14⟩ := chk_some hm14
      refine WO_index tbok rfl rfl rfl rfl rfl rfl rfl rfl (OwnX.addr hL9) (by simpa using hc34) ?_
      refine WO_tree rfl ?_
      refine WT_fin ?_
      refine WO_storeOX (E := V1) (El := (RowE (FE (I1 .i64)) 1)) tbok (fun _ => rfl) 0 (.slice a28 ((v_6).length) c29) v_6 rfl rfl rfl rfl rfl hL9 rfl (by simpa using idx_lt hc34) rfl rfl rfl rfl ⟨_, rfl, h30⟩ (fun L35 hL35 => ?_)
      refine WO.cls (C' := St w0 m m6 [L35]) (fun _ h => h) ?_
      obtain ⟨hc36, hm14⟩ := chk_some hm14
      refine WO_index tbok rfl rfl rfl rfl rfl rfl rfl rfl (OwnX.addr hL35) (by simpa using hc36) ?_
      refine WO_storeOX (E := V1) (El := (RowE (FE (I1 .i64)) 1)) tbok (fun _ => rfl) 0 (.slice a31 ((v_7).length) c32) v_7 rfl rfl rfl rfl rfl hL35 rfl (by simpa using idx_lt hc36) rfl rfl rfl rfl ⟨_, rfl, h33⟩ (fun L37 hL37 => ?_)
      refine WO.cls (C' := St w0 m m6 [L37]) (fun _ h => h) ?_
      refine WO_end ?_
      refine WK_blk ?_
      refine WK_region ?_
      refine WO_pure tbok 6 [(0, .slice a2 ((y_1).length) c3), (2, .int .i64 (w64 (s_3 + 1))), (3, .int .i64 (w64 (s_4 - 1)))] rfl ⟨rfl, rfl, rfl, trivial⟩ ?_
      refine WO_end ?_
      cases hm14
      refine WK.sub ?_ (WK.cls (fun _ h => h) (hn17 _ L37 rfl hL37))
      exact ⟨rfl, rfl, rfl, trivial⟩
    · have hm14 := ifF hb23 hm14
      refine WK_exit rfl ?_
      cases hm14
      refine WK.sub ?_ (WK.cls (fun _ h => h) (hk13 (l_2, L9) ⟨(hd18 _ rfl), hL9⟩))
      exact trivial
def slices_Clone_sint_Q (r : List Int) : Value → List Ent → Prop := fun v L => ∃ (a0 : Option Addr) (q0 c0 : Nat), v = .slice a0 q0 c0 ∧ OwnE 3 1 (I1 .i64) (.slice a0 q0 c0) r L
theorem slices_Clone_sint_walk {m : Mu} {p0 : List Int} {a_p0 : Option Addr} {q_p0 c_p0 : Nat} (h_p0 : SlR (FE (I1 .i64)) 1 m (.slice a_p0 q_p0 c_p0) p0) {r : List Int} (hm : slices_Clone_sint p0 = some r) :
    Go.E.Spec Tryd.prog 42 [.slice a_p0 q_p0 c_p0] m (fun v _ L => slices_Clone_sint_Q r v L) := by
  refine Spec_enter Tryd.func42 rfl rfl rfl (fun w0 => ?_)
  refine WK.sub (e' := [(0, .slice a_p0 q_p0 c_p0)]) ⟨rfl, trivial⟩ ?_
  obtain rfl := SlR.qlen h_p0
  refine WK.sub (e' := [(0, .slice a_p0 p0.length c_p0)]) ⟨rfl, trivial⟩ ?_
  cases a_p0 with
  | none =>
    obtain ⟨hx, _, hc⟩ := SlR.none_nil h_p0
    subst hx
    subst hc
    unfold slices_Clone_sint at hm
    obtain ⟨_, hm⟩ := chk_some hm
    refine WK_seq ?_
    refine WK_region ?_
    refine WO_pure tbok 1 [(0, .slice none 0 0), (2, .slice none 0 0)] rfl ⟨rfl, rfl, trivial⟩ ?_
    refine WO_end ?_
    refine WK_seq ?_
    refine WK_seq ?_
    refine WK_region ?_
    refine WO_pure tbok 1 [(0, .slice none 0 0), (2, .slice none 0 0), (3, .slice none 0 0)] rfl ⟨rfl, rfl, rfl, trivial⟩ ?_
    refine WO_eqnil tbok rfl rfl rfl rfl rfl rfl rfl ?_
    refine WO_end ?_
    refine WK_condT rfl ?_
    refine WK_seq ?_
    refine WK_region ?_
    refine WO_pure tbok 1 [(0, .slice none 0 0), (2, .slice none 0 0)] rfl ⟨rfl, rfl, trivial⟩ ?_
    refine WO_end ?_
    cases hm
    exact WK_ret (ret_out (L := []) (RLc_tmp rfl RLc_nil) (List.nil_sublist _) ⟨none, 0, 0, rfl, (OwnE.nil none)⟩)
  | some ad =>
    unfold slices_Clone_sint at hm
    refine WK_seq ?_
    refine WK_region ?_
    refine WO_pure tbok 1 [(0, .slice (some ad) p0.length c_p0), (2, .slice none 0 0)] rfl ⟨rfl, rfl, trivial⟩ ?_
    refine WO_end ?_
    refine WK_seq ?_
    refine WK_seq ?_
    refine WK_region ?_
    refine WO_pure tbok 1 [(0, .slice (some ad) p0.length c_p0), (2, .slice none 0 0), (3, .slice (some ad) p0.length c_p0)] rfl ⟨rfl, rfl, rfl, trivial⟩ ?_
    refine WO_eqnil tbok rfl rfl rfl rfl rfl rfl rfl ?_
    refine WO_end ?_
    refine WK_condF rfl ?_
    refine WK_skip ?_
    refine WK_seq ?_
    refine WK_region ?_
    refine WO_bslice (E := (I1 .i64)) tbok (fun _ => rfl) (by decide) [] ([] : List Int) rfl rfl trivial rfl rfl rfl rfl rfl rfl rfl rfl rfl rfl rfl rfl (fun b1 hb1 => ?_)
    refine WO.cls (C' := St w0 m m [[⟨b1, 3, ([] : List Int).flatMap (I1 .i64)⟩]]) (fun _ h => h) ?_
    refine WO_pure tbok 1 [(2, .slice none 0 0), (5, .slice (some ⟨b1, 0, none⟩) 0 0), (6, .slice (some ad) p0.length c_p0)] rfl ⟨rfl, rfl, rfl, trivial⟩ ?_
    obtain ⟨hc2, hm⟩ := chk_some hm
    refine WO_appendS (E := (I1 .i64)) tbok (fun _ => rfl) (by decide) (fun _ => rfl) 0 p0 rfl rfl rfl rfl rfl rfl rfl rfl rfl rfl rfl rfl hb1 rfl (fun w hw => ⟨_, hw.sat, h_p0⟩) (ap_ok (by decide) hc2) (ap_max hc2) (fun a3 c4 L5 hL5 => ?_)
    refine WO.cls (C' := St w0 m m [L5]) (fun _ h => h) ?_
    refine WO_pure tbok 1 [(2, .slice a3 ((([] : List Int) ++ p0).length) c4)] rfl ⟨rfl, trivial⟩ ?_
    refine WO_end ?_
    cases hm
    exact WK_ret (ret_out (L := L5) (RLc_tmp rfl RLc_nil) (seg_sub 0 rfl) ⟨a3, ((([] : List Int) ++ p0).length), c4, rfl, hL5⟩)
def aggregate_reached_Q (r : List Int) : Value → List Ent → Prop := fun v L => ∃ (a0 : Option Addr) (q0 c0 : Nat), v = .slice a0 q0 c0 ∧ OwnE 3 1 (I1 .i64) (.slice a0 q0 c0) r L
theorem aggregate_reached_walk {m : Mu} {p0 : List Int} {p1 : Int} {p2 : Int} {a_p0 : Option Addr} {q_p0 c_p0 : Nat} (h_p0 : SlR (FE (I1 .i64)) 1 m (.slice a_p0 q_p0 c_p0) p0) {r : List Int} (hm : aggregate_reached p0 p1 p2 = some r) :
    Go.E.Spec Tryd.prog 35 [.slice a_p0 q_p0 c_p0, .int .i64 p1, .int .i64 p2] m (fun v _ L => aggregate_reached_Q r v L) := by
  refine Spec_enter Tryd.func35 rfl rfl rfl (fun w0 => ?_)
  refine WK.sub (e' := [(0, .slice a_p0 q_p0 c_p0), (1, .int .i64 p1), (2, .int .i64 p2)]) ⟨rfl, rfl, rfl, trivial⟩ ?_
  obtain rfl := SlR.qlen h_p0
  refine WK.sub (e' := [(0, .slice a_p0 p0.length c_p0), (1, .int .i64 p1), (2, .int .i64 p2)]) ⟨rfl, rfl, rfl, trivial⟩ ?_
  unfold aggregate_reached at hm
  refine WK_seq ?_
  refine WK_region ?_
  refine WO_pure tbok 1 [(0, .slice a_p0 p0.length c_p0), (1, .int .i64 p1), (2, .int .i64 p2), (6, .slice none 0 0)] rfl ⟨rfl, rfl, rfl, rfl, trivial⟩ ?_
  refine WO_end ?_
  refine WK_seq ?_
  refine WK_region ?_
  refine WO_pure tbok 1 [(0, .slice a_p0 p0.length c_p0), (1, .int .i64 p1), (2, .int .i64 p2), (6, .slice none 0 0), (11, .slice a_p0 p0.length c_p0)] rfl ⟨rfl, rfl, rfl, rfl, rfl, trivial⟩ ?_
  obtain ⟨y_1, hc1, hm⟩ := bind_some hm
  refine WO_call0 (.int .i64 y_1) rfl rfl trivial rfl rfl rfl rfl St_closed ⟨26, #[], #[], rfl, callable_26, fun w hw => ⟨_, hw.sat, slices_Min_sint_walk h_p0 hc1⟩⟩ ?_
  refine WO_pure tbok 1 [(0, .slice a_p0 p0.length c_p0), (1, .int .i64 p1), (2, .int .i64 p2), (6, .slice none 0 0), (7, .int .i64 y_1)] rfl ⟨rfl, rfl, rfl, rfl, rfl, trivial⟩ ?_
  refine WO_end ?_
  refine WK_seq ?_
  refine WK_region ?_
  refine WO_pure tbok 2 [(0, .slice a_p0 p0.length c_p0), (1, .int .i64 p1), (2, .int .i64 p2), (6, .slice none 0 0), (7, .int .i64 y_1), (14, .int .i64 (p0.length : Int))] rfl ⟨rfl, rfl, rfl, rfl, rfl, rfl, trivial⟩ ?_
  obtain ⟨hc2, hm⟩ := chk_some hm
  refine WO_make (E := (I1 .i64)) tbok (fun _ => rfl) (by decide) (0 : Int) rfl rfl trivial rfl rfl rfl rfl rfl rfl rfl rfl rfl (mk_ok (by decide) hc2) (fun b3 c4 L5 hL5 => ?_)
  refine WO.cls (C' := St w0 m m [L5]) (fun _ h => h) ?_
  refine WO_pure tbok 1 [(0, .slice a_p0 p0.length c_p0), (1, .int .i64 p1), (2, .int .i64 p2), (6, .slice none 0 0), (7, .int .i64 y_1), (8, .slice (some ⟨b3, 0, none⟩) ((List.replicate (p0.length : Int).toNat (0 : Int)).length) c4)] rfl ⟨rfl, rfl, rfl, rfl, rfl, rfl, trivial⟩ ?_
  refine WO_end ?_
  refine WK_seq ?_
  refine WK_seq ?_
  refine WK_region ?_
  refine WO_pure tbok 3 [(0, .slice a_p0 p0.length c_p0), (1, .int .i64 p1), (2, .int .i64 p2), (6, .slice none 0 0), (7, .int .i64 y_1), (8, .slice (some ⟨b3, 0, none⟩) ((List.replicate (p0.length : Int).toNat (0 : Int)).length) c4), (16, .slice a_p0 p0.length c_p0), (17, .int .i64 (p0.length : Int)), (18, .int .i64 0)] rfl ⟨rfl, rfl, rfl, rfl, rfl, rfl, rfl, rfl, rfl, trivial⟩ ?_
  refine WO_end ?_
  obtain ⟨x8, hx9, hm⟩ := bind_some hm
  refine WK_join (β := (List Int) × (List Ent)) (fun p => p.1 = x8 ∧ OwnE 3 1 (I1 .i64) (.slice (some ⟨b3, 0, none⟩) ((List.replicate (p0.length : Int).toNat (0 : Int)).length) c4) p.1 p.2) (fun p => [(6, .slice none 0 0), (8, .slice (some ⟨b3, 0, none⟩) ((List.replicate (p0.length : Int).toNat (0 : Int)).length) c4)]) (fun p => St w0 m m [p.2]) ?_ (fun hk10 => ?_)
  · rintro ⟨l_4, L7⟩ ⟨hq16, hL7⟩
    subst hq16
    refine WK.sub (e' := [(6, .slice none 0 0), (8, .slice (some ⟨b3, 0, none⟩) ((List.replicate (p0.length : Int).toNat (0 : Int)).length) c4)]) ⟨rfl, rfl, trivial⟩ (WK.cls (C' := St w0 m m [L7]) (fun _ h => h) ?_)
    refine WK_seq ?_
    refine WK_region ?_
    refine WO_pure tbok 2 [(6, .slice (some ⟨b3, 0, none⟩) ((List.replicate (p0.length : Int).toNat (0 : Int)).length) c4)] rfl ⟨rfl, trivial⟩ ?_
    refine WO_end ?_
    cases hm
    exact WK_ret (ret_out (L := L7) (RLc_tmp rfl RLc_nil) (seg_sub 0 rfl) ⟨(some ⟨b3, 0, none⟩), ((List.replicate (p0.length : Int).toNat (0 : Int)).length), c4, rfl, hL7⟩)
  · refine WK_block ?_
    refine WK_loop (S := List Int × Int) (G := List Ent) (fun s => aggregate_reached_s1 p0 p1 p2 y_1 s.1 s.2) (fun s g => [(0, .slice a_p0 p0.length c_p0), (1, .int .i64 p1), (2, .int .i64 p2), (6, .slice none 0 0), (7, .int .i64 y_1), (8, .slice (some ⟨b3, 0, none⟩) ((List.replicate (p0.length : Int).toNat (0 : Int)).length) c4), (16, .slice a_p0 p0.length c_p0), (17, .int .i64 (p0.length : Int)), (18, .int .i64 s.2)]) (fun s g => St w0 m m [g]) (fun s g => OwnE 3 1 (I1 .i64) (.slice (some ⟨b3, 0, none⟩) ((List.replicate (p0.length : Int).toNat (0 : Int)).length) c4) s.1 g) FUEL ((List.replicate (p0.length : Int).toNat (0 : Int)), 0) L5 x8 hx9 hL5 ⟨rfl, rfl, rfl, rfl, rfl, rfl, rfl, rfl, rfl, trivial⟩ (fun _ h => h) ?_
    rintro ⟨l_2, s_3⟩ L6 o12 fl13 hm11 hL6 hn14 hd15
    have hm11 : aggregate_reached_s1 p0 p1 p2 y_1 l_2 s_3 = some o12 := hm11
    unfold aggregate_reached_s1 at hm11
    refine WK.sub (e' := [(0, .slice a_p0 p0.length c_p0), (1, .int .i64 p1), (2, .int .i64 p2), (6, .slice none 0 0), (7, .int .i64 y_1), (8, .slice (some ⟨b3, 0, none⟩) ((List.replicate (p0.length : Int).toNat (0 : Int)).length) c4), (16, .slice a_p0 p0.length c_p0), (17, .int .i64 (p0.length : Int)), (18, .int .i64 s_3)]) ⟨rfl, rfl, rfl, rfl, rfl, rfl, rfl, rfl, rfl, trivial⟩ (WK.cls (C' := St w0 m m [L6]) (fun _ h => h) ?_)
    refine WK_seq ?_
    refine WK_region ?_
    refine WO_pure tbok 1 [(0, .slice a_p0 p0.length c_p0), (1, .int .i64 p1), (2, .int .i64 p2), (6, .slice none 0 0), (7, .int .i64 y_1), (8, .slice (some ⟨b3, 0, none⟩) ((List.replicate (p0.length : Int).toNat (0 : Int)).length) c4), (16, .slice a_p0 p0.length c_p0), (17, .int .i64 (p0.length : Int)), (18, .int .i64 s_3), (19, .bool (decide (s_3 < (p0.length : Int))))] rfl ⟨rfl, rfl, rfl, rfl, rfl, rfl, rfl, rfl, rfl, rfl, trivial⟩ ?_
    refine WO_end ?_
    refine WK_seq ?_
    refine WK_cond (b := decide (s_3 < (p0.length : Int))) rfl (fun hb17 => ?_) (fun hb17 => ?_)
    · have hm11 := ifT hb17 hm11
      refine WK_skip ?_
      refine WK_seq ?_
      refine WK_block ?_
      refine WK_seq ?_
      refine WK_region ?_
      refine WO_pure tbok 1 [(0, .slice a_p0 p0.length c_p0), (1, .int .i64 p1), (2, .int .i64 p2), (6, .slice none 0 0), (7, .int .i64 y_1), (8, .slice (some ⟨b3, 0, none⟩) ((List.replicate (p0.length : Int).toNat (0 : Int)).length) c4), (16, .slice a_p0 p0.length c_p0), (17, .int .i64 (p0.length : Int)), (18, .int .i64 s_3), (20, .int .i64 s_3)] rfl ⟨rfl, rfl, rfl, rfl, rfl, rfl, rfl, rfl, rfl, rfl, trivial⟩ ?_
      obtain ⟨v_5, hy18, hm11⟩ := bind_some hm11
      obtain ⟨hc19, hy18⟩ := ix_some hy18
      refine WO_index tbok rfl rfl rfl rfl rfl rfl rfl rfl (SlR.addr h_p0) hc19 ?_
      refine WO_loadE tbok rfl rfl rfl rfl (fun _ h => St.sat h) h_p0 hy18 rfl ?_
      refine WO_pure tbok 2 [(0, .slice a_p0 p0.length c_p0), (1, .int .i64 p1), (2, .int .i64 p2), (6, .slice none 0 0), (7, .int .i64 y_1), (8, .slice (some ⟨b3, 0, none⟩) ((List.replicate (p0.length : Int).toNat (0 : Int)).length) c4), (9, .int .i64 s_3), (10, .int .i64 v_5), (16, .slice a_p0 p0.length c_p0), (17, .int .i64 (p0.length : Int)), (18, .int .i64 s_3)] rfl ⟨rfl, rfl, rfl, rfl, rfl, rfl, rfl, rfl, rfl, rfl, rfl, trivial⟩ ?_
      refine WO_end ?_
      refine WK_seq ?_
      refine WK_region ?_
      refine WO_pure tbok 7 [(0, .slice a_p0 p0.length c_p0), (1, .int .i64 p1), (2, .int .i64 p2), (6, .slice none 0 0), (7, .int .i64 y_1), (8, .slice (some ⟨b3, 0, none⟩) ((List.replicate (p0.length : Int).toNat (0 : Int)).length) c4), (9, .int .i64 s_3), (16, .slice a_p0 p0.length c_p0), (17, .int .i64 (p0.length : Int)), (18, .int .i64 s_3), (23, .slice (some ⟨b3, 0, none⟩) ((List.replicate (p0.length : Int).toNat (0 : Int)).length) c4), (24, .int .i64 s_3), (29, .int .i64 (if (w64 (y_1 + p2)) < v_5 then (w64 (y_1 + p2)) else v_5))] rfl ⟨rfl, rfl, rfl, rfl, rfl, rfl, rfl, rfl, rfl, rfl, rfl, rfl, rfl, trivial⟩ ?_
      obtain ⟨hc20, hm11⟩ := chk_some hm11
      refine WO_index tbok rfl rfl rfl rfl rfl rfl rfl rfl (OwnE.addr hL6) (by simpa using hc20) ?_
      refine WO_storeO (E := (I1 .i64)) tbok (fun _ => rfl) 0 (if (w64 (y_1 + p2)) < v_5 then (w64 (y_1 + p2)) else v_5) rfl rfl rfl rfl rfl hL6 rfl (by simpa using idx_lt hc20) rfl rfl rfl rfl (fun L21 hL21 => ?_)
      refine WO.cls (C' := St w0 m m [L21]) (fun _ h => h) ?_
      refine WO_end ?_
      refine WK_seq ?_
      refine WK_seq ?_
      refine WK_region ?_
      refine WO_pure tbok 2 [(0, .slice a_p0 p0.length c_p0), (1, .int .i64 p1), (2, .int .i64 p2), (6, .slice none 0 0), (7, .int .i64 y_1), (8, .slice (some ⟨b3, 0, none⟩) ((List.replicate (p0.length : Int).toNat (0 : Int)).length) c4), (9, .int .i64 s_3), (16, .slice a_p0 p0.length c_p0), (17, .int .i64 (p0.length : Int)), (18, .int .i64 s_3), (32, .bool (decide (0 < s_3)))] rfl ⟨rfl, rfl, rfl, rfl, rfl, rfl, rfl, rfl, rfl, rfl, rfl, trivial⟩ ?_
      refine WO_end ?_
      obtain ⟨l_6, hx23, hm11⟩ := bind_some hm11
      refine WK_join (β := List Ent) (fun p => OwnE 3 1 (I1 .i64) (.slice (some ⟨b3, 0, none⟩) ((List.replicate (p0.length : Int).toNat (0 : Int)).length) c4) l_6 p) (fun p => [(0, .slice a_p0 p0.length c_p0), (1, .int .i64 p1), (2, .int .i64 p2), (6, .slice none 0 0), (7, .int .i64 y_1), (8, .slice (some ⟨b3, 0, none⟩) ((List.replicate (p0.length : Int).toNat (0 : Int)).length) c4), (9, .int .i64 s_3), (16, .slice a_p0 p0.length c_p0), (17, .int .i64 (p0.length : Int)), (18, .int .i64 s_3)]) (fun p => St w0 m m [p]) ?_ (fun hk24 => ?_)
      · rintro L22 hL22
        refine WK.sub (e' := [(0, .slice a_p0 p0.length c_p0), (1, .int .i64 p1), (2, .int .i64 p2), (6, .slice none 0 0), (7, .int .i64 y_1), (8, .slice (some ⟨b3, 0, none⟩) ((List.replicate (p0.length : Int).toNat (0 : Int)).length) c4), (9, .int .i64 s_3), (16, .slice a_p0 p0.length c_p0), (17, .int .i64 (p0.length : Int)), (18, .int .i64 s_3)]) ⟨rfl, rfl, rfl, rfl, rfl, rfl, rfl, rfl, rfl, rfl, trivial⟩ (WK.cls (C' := St w0 m m [L22]) (fun _ h => h) ?_)
        refine WK_seq ?_
        refine WK_region ?_
        refine WO_pure tbok 5 [(0, .slice a_p0 p0.length c_p0), (1, .int .i64 p1), (2, .int .i64 p2), (6, .slice none 0 0), (7, .int .i64 y_1), (8, .slice (some ⟨b3, 0, none⟩) ((List.replicate (p0.length : Int).toNat (0 : Int)).length) c4), (9, .int .i64 s_3), (16, .slice a_p0 p0.length c_p0), (17, .int .i64 (p0.length : Int)), (18, .int .i64 s_3), (52, .bool (decide ((w64 (s_3 + 1)) < (p0.length : Int))))] rfl ⟨rfl, rfl, rfl, rfl, rfl, rfl, rfl, rfl, rfl, rfl, rfl, trivial⟩ ?_
        refine WO_end ?_
        obtain ⟨l_7, hx26, hm11⟩ := bind_some hm11
        refine WK_join (β := List Ent) (fun p => OwnE 3 1 (I1 .i64) (.slice (some ⟨b3, 0, none⟩) ((List.replicate (p0.length : Int).toNat (0 : Int)).length) c4) l_7 p) (fun p => [(0, .slice a_p0 p0.length c_p0), (1, .int .i64 p1), (2, .int .i64 p2), (6, .slice none 0 0), (7, .int .i64 y_1), (8, .slice (some ⟨b3, 0, none⟩) ((List.replicate (p0.length : Int).toNat (0 : Int)).length) c4), (16, .slice a_p0 p0.length c_p0), (17, .int .i64 (p0.length : Int)), (18, .int .i64 s_3)]) (fun p => St w0 m m [p]) ?_ (fun hk27 => ?_)
        · rintro L25 hL25
          refine WK.sub (e' := [(0, .slice a_p0 p0.length c_p0), (1, .int .i64 p1), (2, .int .i64 p2), (6, .slice none 0 0), (7, .int .i64 y_1), (8, .slice (some ⟨b3, 0, none⟩) ((List.replicate (p0.length : Int).toNat (0 : Int)).length) c4), (16, .slice a_p0 p0.length c_p0), (17, .int .i64 (p0.length : Int)), (18, .int .i64 s_3)]) ⟨rfl, rfl, rfl, rfl, rfl, rfl, rfl, rfl, rfl, trivial⟩ (WK.cls (C' := St w0 m m [L25]) (fun _ h => h) ?_)
          refine WK_blk ?_
          refine WK_region ?_
          refine WO_pure tbok 2 [(0, .slice a_p0 p0.length c_p0), (1, .int .i64 p1), (2, .int .i64 p2), (6, .slice none 0 0), (7, .int .i64 y_1), (8, .slice (some ⟨b3, 0, none⟩) ((List.replicate (p0.length : Int).toNat (0 : Int)).length) c4), (16, .slice a_p0 p0.length c_p0), (17, .int .i64 (p0.length : Int)), (18, .int .i64 (w64 (s_3 + 1)))] rfl ⟨rfl, rfl, rfl, rfl, rfl, rfl, rfl, rfl, rfl, trivial⟩ ?_
          refine WO_end ?_
          cases hm11
          refine WK.sub ?_ (WK.cls (fun _ h => h) (hn14 _ L25 rfl hL25))
          exact ⟨rfl, rfl, rfl, rfl, rfl, rfl, rfl, rfl, rfl, trivial⟩
        · refine WK_cond (b := decide ((w64 (s_3 + 1)) < (p0.length : Int))) rfl (fun hb28 => ?_) (fun hb28 => ?_)
          · have hx26 := ifT hb28 hx26
            refine WK_draw 15 [0, 1, 2, 3, 4, 5, 6, 7, 8, 9, 10, 11, 12, 13, 14] follows_ok (by kernel_rfl) St_closed ?_
            refine WO_pure tbok 4 [(0, .slice a_p0 p0.length c_p0), (1, .int .i64 p1), (2, .int .i64 p2), (6, .slice none 0 0), (7, .int .i64 y_1), (8, .slice (some ⟨b3, 0, none⟩) ((List.replicate (p0.length : Int).toNat (0 : Int)).length) c4), (9, .int .i64 s_3), (16, .slice a_p0 p0.length c_p0), (17, .int .i64 (p0.length : Int)), (18, .int .i64 s_3), (53, .slice (some ⟨b3, 0, none⟩) ((List.replicate (p0.length : Int).toNat (0 : Int)).length) c4), (54, .int .i64 s_3), (55, .slice (some ⟨b3, 0, none⟩) ((List.replicate (p0.length : Int).toNat (0 : Int)).length) c4), (56, .int .i64 s_3)] rfl ⟨rfl, rfl, rfl, rfl, rfl, rfl, rfl, rfl, rfl, rfl, rfl, rfl, rfl, rfl, trivial⟩ ?_
            obtain ⟨v_8, hy29, hx26⟩ := bind_some hx26
            obtain ⟨hc30, hy29⟩ := ix_some hy29
            refine WO_index tbok rfl rfl rfl rfl rfl rfl rfl rfl (OwnE.addr hL22) (by simpa using hc30) ?_
            refine WO_loadO (E := (I1 .i64)) tbok (fun _ => rfl) 0 rfl rfl rfl rfl (fun _ h => h) hL22 rfl hy29 rfl ?_
            refine WO_pure tbok 3 [(0, .slice a_p0 p0.length c_p0), (1, .int .i64 p1), (2, .int .i64 p2), (6, .slice none 0 0), (7, .int .i64 y_1), (8, .slice (some ⟨b3, 0, none⟩) ((List.replicate (p0.length : Int).toNat (0 : Int)).length) c4), (16, .slice a_p0 p0.length c_p0), (17, .int .i64 (p0.length : Int)), (18, .int .i64 s_3), (53, .slice (some ⟨b3, 0, none⟩) ((List.replicate (p0.length : Int).toNat (0 : Int)).length) c4), (54, .int .i64 s_3), (58, .int .i64 v_8), (59, .slice a_p0 p0.length c_p0), (61, .int .i64 (w64 (s_3 + 1)))] rfl ⟨rfl, rfl, rfl, rfl, rfl, rfl, rfl, rfl, rfl, rfl, rfl, rfl, rfl, rfl, trivial⟩ ?_
            obtain ⟨v_9, hy31, hx26⟩ := bind_some hx26
            obtain ⟨hc32, hy31⟩ := ix_some hy31
            refine WO_index tbok rfl rfl rfl rfl rfl rfl rfl rfl (SlR.addr h_p0) hc32 ?_
            refine WO_loadE tbok rfl rfl rfl rfl (fun _ h => St.sat h) h_p0 hy31 rfl ?_
            refine WO_pure tbok 3 [(0, .slice a_p0 p0.length c_p0), (1, .int .i64 p1), (2, .int .i64 p2), (6, .slice none 0 0), (7, .int .i64 y_1), (8, .slice (some ⟨b3, 0, none⟩) ((List.replicate (p0.length : Int).toNat (0 : Int)).length) c4), (16, .slice a_p0 p0.length c_p0), (17, .int .i64 (p0.length : Int)), (18, .int .i64 s_3), (53, .slice (some ⟨b3, 0, none⟩) ((List.replicate (p0.length : Int).toNat (0 : Int)).length) c4), (54, .int .i64 s_3), (66, .int .i64 (if (w64 (v_9 + p1)) < v_8 then (w64 (v_9 + p1)) else v_8))] rfl ⟨rfl, rfl, rfl, rfl, rfl, rfl, rfl, rfl, rfl, rfl, rfl, rfl, trivial⟩ ?_
            obtain ⟨hc33, hx26⟩ := chk_some hx26
            refine WO_index tbok rfl rfl rfl rfl rfl rfl rfl rfl (OwnE.addr hL22) (by simpa using hc33) ?_
            refine WO_tail ?_
            refine WO_storeO (E := (I1 .i64)) tbok (fun _ => rfl) 0 (if (w64 (v_9 + p1)) < v_8 then (w64 (v_9 + p1)) else v_8) rfl rfl rfl rfl rfl hL22 rfl (by simpa using idx_lt hc33) rfl rfl rfl rfl (fun L34 hL34 => ?_)
            refine WO.cls (C' := St w0 m m [L34]) (fun _ h => h) ?_
            refine WO_end ?_
            cases hx26
            refine WK.sub ?_ (WK.cls (fun _ h => h) (hk27 L34 hL34))
            exact ⟨rfl, rfl, rfl, rfl, rfl, rfl, rfl, rfl, rfl, trivial⟩
          · have hx26 := ifF hb28 hx26
            refine WK_skip ?_
            cases hx26
            refine WK.sub ?_ (WK.cls (fun _ h => h) (hk27 L22 hL22))
            exact ⟨rfl, rfl, rfl, rfl, rfl, rfl, rfl, rfl, rfl, trivial⟩
      · refine WK_cond (b := decide (0 < s_3)) rfl (fun hb35 => ?_) (fun hb35 => ?_)
        · have hx23 := ifT hb35 hx23
          refine WK_draw 15 [0, 1, 2, 3, 4, 5, 6, 7, 8, 9, 10, 11, 12, 13, 14] follows_ok (by kernel_rfl) St_closed ?_
          refine WO_pure tbok 4 [(0, .slice a_p0 p0.length c_p0), (1, .int .i64 p1), (2, .int .i64 p2), (6, .slice none 0 0), (7, .int .i64 y_1), (8, .slice (some ⟨b3, 0, none⟩) ((List.replicate (p0.length : Int).toNat (0 : Int)).length) c4), (9, .int .i64 s_3), (16, .slice a_p0 p0.length c_p0), (17, .int .i64 (p0.length : Int)), (18, .int .i64 s_3), (33, .slice (some ⟨b3, 0, none⟩) ((List.replicate (p0.length : Int).toNat (0 : Int)).length) c4), (34, .int .i64 s_3), (35, .slice (some ⟨b3, 0, none⟩) ((List.replicate (p0.length : Int).toNat (0 : Int)).length) c4), (36, .int .i64 s_3)] rfl ⟨rfl, rfl, rfl, rfl, rfl, rfl, rfl, rfl, rfl, rfl, rfl, rfl, rfl, rfl, trivial⟩ ?_
          obtain ⟨v_10, hy36, hx23⟩ := bind_some hx23
          obtain ⟨hc37, hy36⟩ := ix_some hy36
          refine WO_index tbok rfl rfl rfl rfl rfl rfl rfl rfl (OwnE.addr hL21) (by simpa using hc37) ?_
          refine WO_loadO (E := (I1 .i64)) tbok (fun _ => rfl) 0 rfl rfl rfl rfl (fun _ h => h) hL21 rfl hy36 rfl ?_
          refine WO_pure tbok 3 [(0, .slice a_p0 p0.length c_p0), (1, .int .i64 p1), (2, .int .i64 p2), (6, .slice none 0 0), (7, .int .i64 y_1), (8, .slice (some ⟨b3, 0, none⟩) ((List.replicate (p0.length : Int).toNat (0 : Int)).length) c4), (9, .int .i64 s_3), (16, .slice a_p0 p0.length c_p0), (17, .int .i64 (p0.length : Int)), (18, .int .i64 s_3), (33, .slice (some ⟨b3, 0, none⟩) ((List.replicate (p0.length : Int).toNat (0 : Int)).length) c4), (34, .int .i64 s_3), (38, .int .i64 v_10), (39, .slice a_p0 p0.length c_p0), (41, .int .i64 (w64 (s_3 - 1)))] rfl ⟨rfl, rfl, rfl, rfl, rfl, rfl, rfl, rfl, rfl, rfl, rfl, rfl, rfl, rfl, rfl, trivial⟩ ?_
          obtain ⟨v_11, hy38, hx23⟩ := bind_some hx23
          obtain ⟨hc39, hy38⟩ := ix_some hy38
          refine WO_index tbok rfl rfl rfl rfl rfl rfl rfl rfl (SlR.addr h_p0) hc39 ?_
          refine WO_loadE tbok rfl rfl rfl rfl (fun _ h => St.sat h) h_p0 hy38 rfl ?_
          refine WO_pure tbok 3 [(0, .slice a_p0 p0.length c_p0), (1, .int .i64 p1), (2, .int .i64 p2), (6, .slice none 0 0), (7, .int .i64 y_1), (8, .slice (some ⟨b3, 0, none⟩) ((List.replicate (p0.length : Int).toNat (0 : Int)).length) c4), (9, .int .i64 s_3), (16, .slice a_p0 p0.length c_p0), (17, .int .i64 (p0.length : Int)), (18, .int .i64 s_3), (33, .slice (some ⟨b3, 0, none⟩) ((List.replicate (p0.length : Int).toNat (0 : Int)).length) c4), (34, .int .i64 s_3), (46, .int .i64 (if (w64 (v_11 + p1)) < v_10 then (w64 (v_11 + p1)) else v_10))] rfl ⟨rfl, rfl, rfl, rfl, rfl, rfl, rfl, rfl, rfl, rfl, rfl, rfl, rfl, trivial⟩ ?_
          obtain ⟨hc40, hx23⟩ := chk_some hx23
          refine WO_index tbok rfl rfl rfl rfl rfl rfl rfl rfl (OwnE.addr hL21) (by simpa using hc40) ?_
          refine WO_tail ?_
          refine WO_storeO (E := (I1 .i64)) tbok (fun _ => rfl) 0 (if (w64 (v_11 + p1)) < v_10 then (w64 (v_11 + p1)) else v_10) rfl rfl rfl rfl rfl hL21 rfl (by simpa using idx_lt hc40) rfl rfl rfl rfl (fun L41 hL41 => ?_)
          refine WO.cls (C' := St w0 m m [L41]) (fun _ h => h) ?_
          refine WO_end ?_
          cases hx23
          refine WK.sub ?_ (WK.cls (fun _ h => h) (hk24 L41 hL41))
          exact ⟨rfl, rfl, rfl, rfl, rfl, rfl, rfl, rfl, rfl, rfl, trivial⟩
        · have hx23 := ifF hb35 hx23
          refine WK_skip ?_
          cases hx23
          refine WK.sub ?_ (WK.cls (fun _ h => h) (hk24 L21 hL21))
          exact ⟨rfl, rfl, rfl, rfl, rfl, rfl, rfl, rfl, rfl, rfl, trivial⟩
    · have hm11 := ifF hb17 hm11
      refine WK_exit rfl ?_
      cases hm11
      refine WK.sub ?_ (WK.cls (fun _ h => h) (hk10 (l_2, L6) ⟨(hd15 _ rfl), hL6⟩))
      exact ⟨rfl, rfl, trivial⟩
def aggregate_table_Q (r : List (List Int)) : Value → Mu → List Ent → Prop := fun v m L => ∃ (a0 : Option Addr) (q0 c0 : Nat), v = .slice a0 q0 c0 ∧ SlR (RowE (FE (I1 .i64)) 1) 1 m (.slice a0 q0 c0) r
theorem aggregate_table_walk {m : Mu} {p0 : List (List Int)} {p1 : Int} {p2 : Int} {a_p0 : Option Addr} {q_p0 c_p0 : Nat} (h_p0 : SlR (RowE (FE (I1 .i64)) 1) 1 m (.slice a_p0 q_p0 c_p0) p0) {r : List (List Int)} (hm : aggregate_table p0 p1 p2 = some r) :
    Go.E.Spec Tryd.prog 29 [.slice a_p0 q_p0 c_p0, .int .i64 p1, .int .i64 p2] m (aggregate_table_Q r) := by
  refine Spec_enter Tryd.func29 rfl rfl rfl (fun w0 => ?_)
  refine WK.sub (e' := [(0, .slice a_p0 q_p0 c_p0), (1, .int .i64 p1), (2, .int .i64 p2)]) ⟨rfl, rfl, rfl, trivial⟩ ?_
  obtain rfl := SlR.qlen h_p0
  refine WK.sub (e' := [(0, .slice a_p0 p0.length c_p0), (1, .int .i64 p1), (2, .int .i64 p2)]) ⟨rfl, rfl, rfl, trivial⟩ ?_
  unfold aggregate_table at hm
  refine WK_seq ?_
  refine WK_region ?_
  refine WO_pure tbok 1 [(0, .slice a_p0 p0.length c_p0), (1, .int .i64 p1), (2, .int .i64 p2), (6, .slice none 0 0)] rfl ⟨rfl, rfl, rfl, rfl, trivial⟩ ?_
  refine WO_end ?_
  refine WK_seq ?_
  refine WK_region ?_
  refine WO_pure tbok 1 [(0, .slice a_p0 p0.length c_p0), (1, .int .i64 p1), (2, .int .i64 p2), (6, .slice none 0 0), (13, .slice a_p0 p0.length c_p0)] rfl ⟨rfl, rfl, rfl, rfl, rfl, trivial⟩ ?_
  obtain ⟨v_1, hy1, hm⟩ := bind_some hm
  obtain ⟨hc2, hy1⟩ := ix_some hy1
  refine WO_index tbok rfl rfl rfl rfl rfl rfl rfl rfl (SlR.addr h_p0) hc2 ?_
  refine WO_loadR tbok rfl rfl rfl rfl (fun _ h => St.sat h) h_p0 hy1 rfl rfl (fun a3 c4 h5 => ?_)
  obtain ⟨y_2, hc6, hm⟩ := bind_some hm
  refine WO_call1 (slices_Clone_sint_Q y_2) rfl rfl trivial rfl rfl rfl rfl ⟨42, #[], #[], rfl, callable_42, fun w hw => ⟨_, hw.sat, slices_Clone_sint_walk h5 hc6⟩⟩ (fun v10 L9 hq => ?_)
  obtain ⟨a7, qa7, c8, rfl, hL9⟩ := hq
  obtain rfl := OwnE.qlen hL9
  refine WO.cls (C' := St w0 m m [L9]) (fun _ h => h) ?_
  refine WO_freeze 0 rfl (fun m12 hle13 hmm14 => ?_)
  refine WO.cls (C' := St w0 m m12 [[]]) (fun _ h => h) ?_
  refine WO_bsliceX (E := V1) (El := (RowE (FE (I1 .i64)) 1)) tbok (fun _ => rfl) (by decide) [.slice a7 ((y_2).length) c8] [.slice a7 ((y_2).length) c8] ([y_2] : List (List Int)) rfl rfl trivial rfl rfl rfl rfl rfl rfl rfl rfl rfl rfl rfl rfl ⟨⟨_, rfl, (OwnE.rd (E := (I1 .i64)) (k := 1) (fun _ => rfl) hL9 hmm14)⟩, trivial⟩ (fun b11 hb11 => ?_)
  refine WO.cls (C' := St w0 m m12 [[], [⟨b11, 22, [.slice a7 ((y_2).length) c8]⟩]]) (fun _ h => h) ?_
  refine WO_pure tbok 1 [(0, .slice a_p0 p0.length c_p0), (1, .int .i64 p1), (2, .int .i64 p2), (6, .slice none 0 0), (7, .slice (some ⟨b11, 0, none⟩) 1 1)] rfl ⟨rfl, rfl, rfl, rfl, rfl, trivial⟩ ?_
  refine WO_end ?_
  refine WK_seq ?_
  refine WK_seq ?_
  refine WK_region ?_
  refine WO_pure tbok 1 [(1, .int .i64 p1), (2, .int .i64 p2), (6, .slice none 0 0), (7, .slice (some ⟨b11, 0, none⟩) 1 1), (18, .slice a_p0 p0.length c_p0)] rfl ⟨rfl, rfl, rfl, rfl, rfl, trivial⟩ ?_
  obtain ⟨hc15, hm⟩ := chk_some hm
  have hc15 : 0 ≤ (1 : Int) ∧ (1 : Int) ≤ (p0.length : Int) ∧ (p0.length : Int) ≤ (p0.length : Int) := hc15
  have hz19 : SlR (RowE (FE (I1 .i64)) 1) 1 m12 (.slice a_p0 p0.length c_p0) p0 := (h_p0.mono (mono_RowE (mono_FE _) _) hle13)
  refine WO_slice tbok (some (1 : Int)) none none (1 : Int).toNat p0.length rfl rfl rfl rfl rfl rfl rfl rfl rfl rfl rfl hz19 (by simp only [Option.getD_some] <;> omega) (by have := SlR.qlen hz19; simp only [Option.getD_none] <;> omega) (fun q hq => by cases hq) (by omega) (by omega) (fun hh => by cases hh) (fun a16 c17 h18 => ?_)
  refine WO_pure tbok 2 [(1, .int .i64 p1), (2, .int .i64 p2), (6, .slice none 0 0), (7, .slice (some ⟨b11, 0, none⟩) 1 1), (19, .slice a16 (((p0.take p0.length).drop (1 : Int).toNat).length) c17), (20, .int .i64 (((p0.take p0.length).drop (1 : Int).toNat).length : Int)), (21, .int .i64 0)] rfl ⟨rfl, rfl, rfl, rfl, rfl, rfl, rfl, trivial⟩ ?_
  refine WO_end ?_
  obtain ⟨x32, hx33, hm⟩ := bind_some hm
  refine WK_join (β := (List (List Int)) × (Mu × Option Addr × Nat × Nat × List Ent)) (fun p => p.1 = x32 ∧ Le m12 p.2.1 ∧ OwnX 22 1 V1 (RowE (FE (I1 .i64)) 1) p.2.1 (.slice p.2.2.1 p.2.2.2.1 p.2.2.2.2.1) p.1 p.2.2.2.2.2) (fun p => [(6, .slice none 0 0), (7, .slice p.2.2.1 p.2.2.2.1 p.2.2.2.2.1)]) (fun p => St w0 m p.2.1 [[], p.2.2.2.2.2]) ?_ (fun hk34 => ?_)
  · rintro ⟨l_5, ⟨m26, a29, q30, c31, L28⟩⟩ ⟨hq40, hle27, hL28⟩
    subst hq40
    have hqq : q30 = l_5.length := OwnX.qlen hL28
    subst hqq
    refine WK.sub (e' := [(6, .slice none 0 0), (7, .slice a29 ((l_5).length) c31)]) ⟨rfl, rfl, trivial⟩ (WK.cls (C' := St w0 m m26 [[], L28]) (fun _ h => h) ?_)
    refine WK_seq ?_
    refine WK_region ?_
    refine WO_pure tbok 2 [(6, .slice a29 ((l_5).length) c31)] rfl ⟨rfl, trivial⟩ ?_
    refine WO_end ?_
    cases hm
    refine WK_freeze 1 rfl (fun m41 hle42 hmm43 => ?_)
    refine WK.cls (C' := St w0 m m41 [[], []]) (fun _ h => h) ?_
    exact WK_ret (ret_out (L := []) (RLc_tmp rfl RLc_nil) (List.nil_sublist _) ⟨a29, _, c31, rfl, (OwnX.rd (E := V1) (k := 1) (fun _ => rfl) hL28 (mono_RowE (mono_FE _) _) hle42 hmm43)⟩)
  · refine WK_block ?_
    refine WK_loop (S := List (List Int) × Int) (G := Mu × Option Addr × Nat × Nat × List Ent) (fun s => aggregate_table_s1 p0 p1 p2 s.1 s.2) (fun s g => [(1, .int .i64 p1), (2, .int .i64 p2), (6, .slice none 0 0), (7, .slice g.2.1 g.2.2.1 g.2.2.2.1), (19, .slice a16 (((p0.take p0.length).drop (1 : Int).toNat).length) c17), (20, .int .i64 (((p0.take p0.length).drop (1 : Int).toNat).length : Int)), (21, .int .i64 s.2)]) (fun s g => St w0 m g.1 [[], g.2.2.2.2]) (fun s g => Le m12 g.1 ∧ OwnX 22 1 V1 (RowE (FE (I1 .i64)) 1) g.1 (.slice g.2.1 g.2.2.1 g.2.2.2.1) s.1 g.2.2.2.2) FUEL (([y_2] : List (List Int)), 0) (m12, some ⟨b11, 0, none⟩, 1, 1, [⟨b11, 22, [.slice a7 ((y_2).length) c8]⟩]) x32 hx33 ⟨(Le.refl _), hb11⟩ ⟨rfl, rfl, rfl, rfl, rfl, rfl, rfl, trivial⟩ (fun _ h => h) ?_
    rintro ⟨l_3, s_4⟩ ⟨m20, a23, q24, c25, L22⟩ o36 fl37 hm35 ⟨hle21, hL22⟩ hn38 hd39
    have hm35 : aggregate_table_s1 p0 p1 p2 l_3 s_4 = some o36 := hm35
    unfold aggregate_table_s1 at hm35
    have hqq : q24 = l_3.length := OwnX.qlen hL22
    subst hqq
    refine WK.sub (e' := [(1, .int .i64 p1), (2, .int .i64 p2), (6, .slice none 0 0), (7, .slice a23 ((l_3).length) c25), (19, .slice a16 (((p0.take p0.length).drop (1 : Int).toNat).length) c17), (20, .int .i64 (((p0.take p0.length).drop (1 : Int).toNat).length : Int)), (21, .int .i64 s_4)]) ⟨rfl, rfl, rfl, rfl, rfl, rfl, rfl, trivial⟩ (WK.cls (C' := St w0 m m20 [[], L22]) (fun _ h => h) ?_)
    refine WK_seq ?_
    refine WK_region ?_
    refine WO_pure tbok 1 [(1, .int .i64 p1), (2, .int .i64 p2), (6, .slice none 0 0), (7, .slice a23 ((l_3).length) c25), (19, .slice a16 (((p0.take p0.length).drop (1 : Int).toNat).length) c17), (20, .int .i64 (((p0.take p0.length).drop (1 : Int).toNat).length : Int)), (21, .int .i64 s_4), (22, .bool (decide (s_4 < (((p0.take p0.length).drop (1 : Int).toNat).length : Int))))] rfl ⟨rfl, rfl, rfl, rfl, rfl, rfl, rfl, rfl, trivial⟩ ?_
    refine WO_end ?_
    refine WK_seq ?_
    refine WK_cond (b := decide (s_4 < (((p0.take p0.length).drop (1 : Int).toNat).length : Int))) rfl (fun hb44 => ?_) (fun hb44 => ?_)
    · have hm35 := ifT hb44 hm35
      refine WK_skip ?_
      refine WK_seq ?_
      refine WK_block ?_
      refine WK_seq ?_
      refine WK_region ?_
      obtain ⟨v_6, hy45, hm35⟩ := bind_some hm35
      obtain ⟨hc46, hy45⟩ := ix_some hy45
      refine WO_index tbok rfl rfl rfl rfl rfl rfl rfl rfl (SlR.addr (h18.mono (mono_RowE (mono_FE _) _) hle21)) hc46 ?_
      refine WO_loadR tbok rfl rfl rfl rfl (fun _ h => St.sat h) (h18.mono (mono_RowE (mono_FE _) _) hle21) hy45 rfl rfl (fun a47 c48 h49 => ?_)
      refine WO_pure tbok 1 [(1, .int .i64 p1), (2, .int .i64 p2), (6, .slice none 0 0), (7, .slice a23 ((l_3).length) c25), (9, .slice a47 ((v_6).length) c48), (19, .slice a16 (((p0.take p0.length).drop (1 : Int).toNat).length) c17), (20, .int .i64 (((p0.take p0.length).drop (1 : Int).toNat).length : Int)), (21, .int .i64 s_4)] rfl ⟨rfl, rfl, rfl, rfl, rfl, rfl, rfl, rfl, trivial⟩ ?_
      refine WO_end ?_
      refine WK_seq ?_
      refine WK_region ?_
      refine WO_pure tbok 4 [(1, .int .i64 p1), (2, .int .i64 p2), (6, .slice none 0 0), (7, .slice a23 ((l_3).length) c25), (9, .slice a47 ((v_6).length) c48), (19, .slice a16 (((p0.take p0.length).drop (1 : Int).toNat).length) c17), (20, .int .i64 (((p0.take p0.length).drop (1 : Int).toNat).length : Int)), (21, .int .i64 s_4), (25, .slice a23 ((l_3).length) c25), (28, .int .i64 (w64 (((l_3).length : Int) - 1)))] rfl ⟨rfl, rfl, rfl, rfl, rfl, rfl, rfl, rfl, rfl, rfl, trivial⟩ ?_
      obtain ⟨v_7, hy50, hm35⟩ := bind_some hm35
      obtain ⟨hc51, hy50⟩ := ix_some hy50
      refine WO_index tbok rfl rfl rfl rfl rfl rfl rfl rfl (OwnX.addr hL22) (by simpa using hc51) ?_
      refine WO_loadOX (E := V1) tbok (fun _ => rfl) 1 rfl rfl rfl rfl (fun _ h => h) hL22 rfl hy50 (fun cs hcs => ?_)
      obtain ⟨v0, rfl, h54⟩ := hcs
      obtain ⟨a52, c53, rfl, _⟩ := SlR.len h54
      refine ⟨_, rfl, ?_⟩
      refine WO_pure tbok 2 [(1, .int .i64 p1), (2, .int .i64 p2), (6, .slice none 0 0), (7, .slice a23 ((l_3).length) c25), (9, .slice a47 ((v_6).length) c48), (19, .slice a16 (((p0.take p0.length).drop (1 : Int).toNat).length) c17), (20, .int .i64 (((p0.take p0.length).drop (1 : Int).toNat).length : Int)), (21, .int .i64 s_4), (30, .slice a52 ((v_7).length) c53), (31, .int .i64 p1), (32, .int .i64 p2)] rfl ⟨rfl, rfl, rfl, rfl, rfl, rfl, rfl, rfl, rfl, rfl, rfl, trivial⟩ ?_
      obtain ⟨y_8, hc55, hm35⟩ := bind_some hm35
      refine WO_call1 (aggregate_reached_Q y_8) rfl rfl trivial rfl rfl rfl rfl ⟨35, #[], #[], rfl, callable_35, fun w hw => ⟨_, hw.sat, aggregate_reached_walk h54 hc55⟩⟩ (fun v59 L58 hq => ?_)
      obtain ⟨a56, qa56, c57, rfl, hL58⟩ := hq
      obtain rfl := OwnE.qlen hL58
      refine WO.cls (C' := St w0 m m20 [[], L22, L58]) (fun _ h => h) ?_
      refine WO_pure tbok 1 [(1, .int .i64 p1), (2, .int .i64 p2), (6, .slice none 0 0), (7, .slice a23 ((l_3).length) c25), (9, .slice a47 ((v_6).length) c48), (10, .slice a56 ((y_8).length) c57), (19, .slice a16 (((p0.take p0.length).drop (1 : Int).toNat).length) c17), (20, .int .i64 (((p0.take p0.length).drop (1 : Int).toNat).length : Int)), (21, .int .i64 s_4)] rfl ⟨rfl, rfl, rfl, rfl, rfl, rfl, rfl, rfl, rfl, trivial⟩ ?_
      refine WO_end ?_
      refine WK_seq ?_
      refine WK_seq ?_
      refine WK_region ?_
      refine WO_pure tbok 3 [(1, .int .i64 p1), (2, .int .i64 p2), (6, .slice none 0 0), (7, .slice a23 ((l_3).length) c25), (10, .slice a56 ((y_8).length) c57), (19, .slice a16 (((p0.take p0.length).drop (1 : Int).toNat).length) c17), (20, .int .i64 (((p0.take p0.length).drop (1 : Int).toNat).length : Int)), (21, .int .i64 s_4), (34, .slice a47 ((v_6).length) c48), (35, .int .i64 ((v_6).length : Int)), (36, .int .i64 0)] rfl ⟨rfl, rfl, rfl, rfl, rfl, rfl, rfl, rfl, rfl, rfl, rfl, trivial⟩ ?_
      refine WO_end ?_
      obtain ⟨x62, hx63, hm35⟩ := bind_some hm35
      refine WK_join (β := (List Int) × (List Ent)) (fun p => p.1 = x62 ∧ OwnE 3 1 (I1 .i64) (.slice a56 ((y_8).length) c57) p.1 p.2) (fun p => [(1, .int .i64 p1), (2, .int .i64 p2), (6, .slice none 0 0), (7, .slice a23 ((l_3).length) c25), (10, .slice a56 ((y_8).length) c57), (19, .slice a16 (((p0.take p0.length).drop (1 : Int).toNat).length) c17), (20, .int .i64 (((p0.take p0.length).drop (1 : Int).toNat).length : Int)), (21, .int .i64 s_4)]) (fun p => St w0 m m20 [[], L22, p.2]) ?_ (fun hk64 => ?_)
      · rintro ⟨l_11, L61⟩ ⟨hq70, hL61⟩
        subst hq70
        refine WK.sub (e' := [(1, .int .i64 p1), (2, .int .i64 p2), (6, .slice none 0 0), (7, .slice a23 ((l_3).length) c25), (10, .slice a56 ((y_8).length) c57), (19, .slice a16 (((p0.take p0.length).drop (1 : Int).toNat).length) c17), (20, .int .i64 (((p0.take p0.length).drop (1 : Int).toNat).length : Int)), (21, .int .i64 s_4)]) ⟨rfl, rfl, rfl, rfl, rfl, rfl, rfl, rfl, trivial⟩ (WK.cls (C' := St w0 m m20 [[], L22, L61]) (fun _ h => h) ?_)
        refine WK_region ?_
        refine WO_pure tbok 2 [(1, .int .i64 p1), (2, .int .i64 p2), (6, .slice none 0 0), (7, .slice a23 ((l_3).length) c25), (19, .slice a16 (((p0.take p0.length).drop (1 : Int).toNat).length) c17), (20, .int .i64 (((p0.take p0.length).drop (1 : Int).toNat).length : Int)), (21, .int .i64 s_4), (49, .slice a23 ((l_3).length) c25), (50, .slice a56 ((y_8).length) c57)] rfl ⟨rfl, rfl, rfl, rfl, rfl, rfl, rfl, rfl, rfl, trivial⟩ ?_
        refine WO_freeze 2 rfl (fun m72 hle73 hmm74 => ?_)
        refine WO.cls (C' := St w0 m m72 [[], L22, []]) (fun _ h => h) ?_
        refine WO_bsliceX (E := V1) (El := (RowE (FE (I1 .i64)) 1)) tbok (fun _ => rfl) (by decide) [.slice a56 ((y_8).length) c57] [.slice a56 ((y_8).length) c57] ([l_11] : List (List Int)) rfl rfl trivial rfl rfl rfl rfl rfl rfl rfl rfl rfl rfl rfl rfl ⟨⟨_, rfl, (OwnE.rd (E := (I1 .i64)) (k := 1) (fun _ => rfl) hL61 hmm74)⟩, trivial⟩ (fun b71 hb71 => ?_)
        refine WO.cls (C' := St w0 m m72 [[], L22, [], [⟨b71, 22, [.slice a56 ((y_8).length) c57]⟩]]) (fun _ h => h) ?_
        obtain ⟨hc75, hm35⟩ := chk_some hm35
        refine WO_appendX (E := V1) (El := (RowE (FE (I1 .i64)) 1)) tbok (fun _ => rfl) 1 [.slice a56 ((y_8).length) c57] ([l_11] : List (List Int)) (one_lit rfl) rfl rfl rfl rfl rfl rfl rfl rfl rfl rfl rfl rfl (hL22.mono (mono_RowE (mono_FE _) _) hle73) rfl (src_seg (j := 3) rfl) ⟨⟨_, rfl, (OwnE.rd (E := (I1 .i64)) (k := 1) (fun _ => rfl) hL61 hmm74)⟩, trivial⟩ (ap_ok (by decide) hc75) (ap_max hc75) (fun a76 c77 L78 hL78 => ?_)
        refine WO.cls (C' := St w0 m m72 [[], L78, [], [⟨b71, 22, [.slice a56 ((y_8).length) c57]⟩]]) (fun _ h => h) ?_
        refine WO_pure tbok 1 [(1, .int .i64 p1), (2, .int .i64 p2), (6, .slice none 0 0), (7, .slice a76 ((l_3 ++ ([l_11] : List (List Int))).length) c77), (19, .slice a16 (((p0.take p0.length).drop (1 : Int).toNat).length) c17), (20, .int .i64 (((p0.take p0.length).drop (1 : Int).toNat).length : Int)), (21, .int .i64 s_4)] rfl ⟨rfl, rfl, rfl, rfl, rfl, rfl, rfl, trivial⟩ ?_
        refine WO_end ?_
        refine WK_blk ?_
        refine WK_region ?_
        refine WO_pure tbok 2 [(1, .int .i64 p1), (2, .int .i64 p2), (6, .slice none 0 0), (7, .slice a76 ((l_3 ++ ([l_11] : List (List Int))).length) c77), (19, .slice a16 (((p0.take p0.length).drop (1 : Int).toNat).length) c17), (20, .int .i64 (((p0.take p0.length).drop (1 : Int).toNat).length : Int)), (21, .int .i64 (w64 (s_4 + 1)))] rfl ⟨rfl, rfl, rfl, rfl, rfl, rfl, rfl, trivial⟩ ?_
        refine WO_end ?_
        cases hm35
        refine WK.sub ?_ (WK.cls (fun _ h => St.take 2 h) (hn38 _ (m72, a76, (l_3 ++ ([l_11] : List (List Int))).length, c77, L78) rfl ⟨(hle21.trans hle73), hL78⟩))
        exact ⟨rfl, rfl, rfl, rfl, rfl, rfl, rfl, trivial⟩
      · refine WK_block ?_
        refine WK_loop (S := List Int × Int) (G := List Ent) (fun s => aggregate_table_s2 v_6 s.1 s.2) (fun s g => [(1, .int .i64 p1), (2, .int .i64 p2), (6, .slice none 0 0), (7, .slice a23 ((l_3).length) c25), (10, .slice a56 ((y_8).length) c57), (19, .slice a16 (((p0.take p0.length).drop (1 : Int).toNat).length) c17), (20, .int .i64 (((p0.take p0.length).drop (1 : Int).toNat).length : Int)), (21, .int .i64 s_4), (34, .slice a47 ((v_6).length) c48), (35, .int .i64 ((v_6).length : Int)), (36, .int .i64 s.2)]) (fun s g => St w0 m m20 [[], L22, g]) (fun s g => OwnE 3 1 (I1 .i64) (.slice a56 ((y_8).length) c57) s.1 g) FUEL (y_8, 0) L58 x62 hx63 hL58 ⟨rfl, rfl, rfl, rfl, rfl, rfl, rfl, rfl, rfl, rfl, rfl, trivial⟩ (fun _ h => h) ?_
        rintro ⟨l_9, s_10⟩ L60 o66 fl67 hm65 hL60 hn68 hd69
        have hm65 : aggregate_table_s2 v_6 l_9 s_10 = some o66 := hm65
        unfold aggregate_table_s2 at hm65
        refine WK.sub (e' := [(1, .int .i64 p1), (2, .int .i64 p2), (6, .slice none 0 0), (7, .slice a23 ((l_3).length) c25), (10, .slice a56 ((y_8).length) c57), (19, .slice a16 (((p0.take p0.length).drop (1 : Int).toNat).length) c17), (20, .int .i64 (((p0.take p0.length).drop (1 : Int).toNat).length : Int)), (21, .int .i64 s_4), (34, .slice a47 ((v_6).length) c48), (35, .int .i64 ((v_6).length : Int)), (36, .int .i64 s_10)]) ⟨rfl, rfl, rfl, rfl, rfl, rfl, rfl, rfl, rfl, rfl, rfl, trivial⟩ (WK.cls (C' := St w0 m m20 [[], L22, L60]) (fun _ h => h) ?_)
        refine WK_seq ?_
        refine WK_region ?_
        refine WO_pure tbok 1 [(1, .int .i64 p1), (2, .int .i64 p2), (6, .slice none 0 0), (7, .slice a23 ((l_3).length) c25), (10, .slice a56 ((y_8).length) c57), (19, .slice a16 (((p0.take p0.length).drop (1 : Int).toNat).length) c17), (20, .int .i64 (((p0.take p0.length).drop (1 : Int).toNat).length : Int)), (21, .int .i64 s_4), (34, .slice a47 ((v_6).length) c48), (35, .int .i64 ((v_6).length : Int)), (36, .int .i64 s_10), (37, .bool (decide (s_10 < ((v_6).length : Int))))] rfl ⟨rfl, rfl, rfl, rfl, rfl, rfl, rfl, rfl, rfl, rfl, rfl, rfl, trivial⟩ ?_
        refine WO_end ?_
        refine WK_seq ?_
        refine WK_cond (b := decide (s_10 < ((v_6).length : Int))) rfl (fun hb79 => ?_) (fun hb79 => ?_)
        · have hm65 := ifT hb79 hm65
          refine WK_skip ?_
          refine WK_seq ?_
          refine WK_block ?_
          refine WK_seq ?_
          refine WK_region ?_
          refine WO_pure tbok 1 [(1, .int .i64 p1), (2, .int .i64 p2), (6, .slice none 0 0), (7, .slice a23 ((l_3).length) c25), (10, .slice a56 ((y_8).length) c57), (19, .slice a16 (((p0.take p0.length).drop (1 : Int).toNat).length) c17), (20, .int .i64 (((p0.take p0.length).drop (1 : Int).toNat).length : Int)), (21, .int .i64 s_4), (34, .slice a47 ((v_6).length) c48), (35, .int .i64 ((v_6).length : Int)), (36, .int .i64 s_10), (38, .int .i64 s_10)] rfl ⟨rfl, rfl, rfl, rfl, rfl, rfl, rfl, rfl, rfl, rfl, rfl, rfl, trivial⟩ ?_
          obtain ⟨v_12, hy80, hm65⟩ := bind_some hm65
          obtain ⟨hc81, hy80⟩ := ix_some hy80
          refine WO_index tbok rfl rfl rfl rfl rfl rfl rfl rfl (SlR.addr h49) hc81 ?_
          refine WO_loadE tbok rfl rfl rfl rfl (fun _ h => St.sat h) h49 hy80 rfl ?_
          refine WO_pure tbok 2 [(1, .int .i64 p1), (2, .int .i64 p2), (6, .slice none 0 0), (7, .slice a23 ((l_3).length) c25), (10, .slice a56 ((y_8).length) c57), (11, .int .i64 s_10), (12, .int .i64 v_12), (19, .slice a16 (((p0.take p0.length).drop (1 : Int).toNat).length) c17), (20, .int .i64 (((p0.take p0.length).drop (1 : Int).toNat).length : Int)), (21, .int .i64 s_4), (34, .slice a47 ((v_6).length) c48), (35, .int .i64 ((v_6).length : Int)), (36, .int .i64 s_10)] rfl ⟨rfl, rfl, rfl, rfl, rfl, rfl, rfl, rfl, rfl, rfl, rfl, rfl, rfl, trivial⟩ ?_
          refine WO_end ?_
          refine WK_region ?_
          refine WO_pure tbok 2 [(1, .int .i64 p1), (2, .int .i64 p2), (6, .slice none 0 0), (7, .slice a23 ((l_3).length) c25), (10, .slice a56 ((y_8).length) c57), (12, .int .i64 v_12), (19, .slice a16 (((p0.take p0.length).drop (1 : Int).toNat).length) c17), (20, .int .i64 (((p0.take p0.length).drop (1 : Int).toNat).length : Int)), (21, .int .i64 s_4), (34, .slice a47 ((v_6).length) c48), (35, .int .i64 ((v_6).length : Int)), (36, .int .i64 s_10), (41, .slice a56 ((y_8).length) c57), (42, .int .i64 s_10)] rfl ⟨rfl, rfl, rfl, rfl, rfl, rfl, rfl, rfl, rfl, rfl, rfl, rfl, rfl, rfl, trivial⟩ ?_
          obtain ⟨v_13, hy82, hm65⟩ := bind_some hm65
          obtain ⟨hc83, hy82⟩ := ix_some hy82
          refine WO_index tbok rfl rfl rfl rfl rfl rfl rfl rfl (OwnE.addr hL60) (by simpa using hc83) ?_
          refine WO_loadO (E := (I1 .i64)) tbok (fun _ => rfl) 2 rfl rfl rfl rfl (fun _ h => h) hL60 rfl hy82 rfl ?_
          refine WO_pure tbok 2 [(1, .int .i64 p1), (2, .int .i64 p2), (6, .slice none 0 0), (7, .slice a23 ((l_3).length) c25), (10, .slice a56 ((y_8).length) c57), (19, .slice a16 (((p0.take p0.length).drop (1 : Int).toNat).length) c17), (20, .int .i64 (((p0.take p0.length).drop (1 : Int).toNat).length : Int)), (21, .int .i64 s_4), (34, .slice a47 ((v_6).length) c48), (35, .int .i64 ((v_6).length : Int)), (36, .int .i64 s_10), (41, .slice a56 ((y_8).length) c57), (42, .int .i64 s_10), (46, .int .i64 (w64 (v_13 + v_12)))] rfl ⟨rfl, rfl, rfl, rfl, rfl, rfl, rfl, rfl, rfl, rfl, rfl, rfl, rfl, rfl, trivial⟩ ?_
          obtain ⟨hc84, hm65⟩ := chk_some hm65
          refine WO_index tbok rfl rfl rfl rfl rfl rfl rfl rfl (OwnE.addr hL60) (by simpa using hc84) ?_
          refine WO_storeO (E := (I1 .i64)) tbok (fun _ => rfl) 2 (w64 (v_13 + v_12)) rfl rfl rfl rfl rfl hL60 rfl (by simpa using idx_lt hc84) rfl rfl rfl rfl (fun L85 hL85 => ?_)
          refine WO.cls (C' := St w0 m m20 [[], L22, L85]) (fun _ h => h) ?_
          refine WO_end ?_
          refine WK_blk ?_
          refine WK_region ?_
          refine WO_pure tbok 2 [(1, .int .i64 p1), (2, .int .i64 p2), (6, .slice none 0 0), (7, .slice a23 ((l_3).length) c25), (10, .slice a56 ((y_8).length) c57), (19, .slice a16 (((p0.take p0.length).drop (1 : Int).toNat).length) c17), (20, .int .i64 (((p0.take p0.length).drop (1 : Int).toNat).length : Int)), (21, .int .i64 s_4), (34, .slice a47 ((v_6).length) c48), (35, .int .i64 ((v_6).length : Int)), (36, .int .i64 (w64 (s_10 + 1)))] rfl ⟨rfl, rfl, rfl, rfl, rfl, rfl, rfl, rfl, rfl, rfl, rfl, trivial⟩ ?_
          refine WO_end ?_
          cases hm65
          refine WK.sub ?_ (WK.cls (fun _ h => h) (hn68 _ L85 rfl hL85))
          exact ⟨rfl, rfl, rfl, rfl, rfl, rfl, rfl, rfl, rfl, rfl, rfl, trivial⟩
        · have hm65 := ifF hb79 hm65
          refine WK_exit rfl ?_
          cases hm65
          refine WK.sub ?_ (WK.cls (fun _ h => h) (hk64 (l_9, L60) ⟨(hd69 _ rfl), hL60⟩))
          exact ⟨rfl, rfl, rfl, rfl, rfl, rfl, rfl, rfl, trivial⟩
    · have hm35 := ifF hb44 hm35
      refine WK_exit rfl ?_
      cases hm35
      refine WK.sub ?_ (WK.cls (fun _ h => h) (hk34 (l_3, (m20, a23, _, c25, L22)) ⟨(hd39 _ rfl), hle21, hL22⟩))
      exact ⟨rfl, rfl, trivial⟩
theorem slices_Index_sint_walk {m : Mu} {p0 : List Int} {p1 : Int} {a_p0 : Option Addr} {q_p0 c_p0 : Nat} (h_p0 : SlR (FE (I1 .i64)) 1 m (.slice a_p0 q_p0 c_p0) p0) {r : Int} (hm : slices_Index_sint p0 p1 = some r) :
    Go.E.Spec Tryd.prog 30 [.slice a_p0 q_p0 c_p0, .int .i64 p1] m (fun v _ _ => v = .int .i64 r) := by
  refine Spec_enter Tryd.func30 rfl rfl rfl (fun w0 => ?_)
  refine WK.sub (e' := [(0, .slice a_p0 q_p0 c_p0), (1, .int .i64 p1)]) ⟨rfl, rfl, trivial⟩ ?_
  obtain rfl := SlR.qlen h_p0
  refine WK.sub (e' := [(0, .slice a_p0 p0.length c_p0), (1, .int .i64 p1)]) ⟨rfl, rfl, trivial⟩ ?_
  unfold slices_Index_sint at hm
  refine WK_seq ?_
  refine WK_region ?_
  refine WO_pure tbok 1 [(0, .slice a_p0 p0.length c_p0), (1, .int .i64 p1), (4, .int .i64 0)] rfl ⟨rfl, rfl, rfl, trivial⟩ ?_
  refine WO_end ?_
  refine WK_seq ?_
  refine WK_seq ?_
  refine WK_region ?_
  refine WO_pure tbok 3 [(0, .slice a_p0 p0.length c_p0), (1, .int .i64 p1), (4, .int .i64 0), (7, .int .i64 (p0.length : Int)), (8, .int .i64 0)] rfl ⟨rfl, rfl, rfl, rfl, rfl, trivial⟩ ?_
  refine WO_end ?_
  obtain ⟨x1, hx2, hm⟩ := bind_some hm
  refine WK_join (β := Unit × Unit) (fun p => Sum.inr p.1 = x1) (fun p => [(4, .int .i64 0)]) (fun p => St w0 m m []) ?_ (fun hk3 => ?_)
  · rintro ⟨⟨⟩, ⟨⟩⟩ hq9
    subst hq9
    refine WK.sub (e' := [(4, .int .i64 0)]) ⟨rfl, trivial⟩ (WK.cls (C' := St w0 m m []) (fun _ h => h) ?_)
    refine WK_seq ?_
    refine WK_region ?_
    refine WO_pure tbok 1 [(4, .int .i64 (-1))] rfl ⟨rfl, trivial⟩ ?_
    refine WO_end ?_
    cases hm
    exact WK_ret (ret_out (L := []) (RLc_tmp rfl RLc_nil) (List.nil_sublist _) rfl)
  · refine WK_block ?_
    refine WK_loop (S := Int) (G := Unit) (fun s => slices_Index_sint_s1 p0 p1 s) (fun s g => [(0, .slice a_p0 p0.length c_p0), (1, .int .i64 p1), (4, .int .i64 0), (7, .int .i64 (p0.length : Int)), (8, .int .i64 s)]) (fun s g => St w0 m m []) (fun s g => True) FUEL 0 () x1 hx2 trivial ⟨rfl, rfl, rfl, rfl, rfl, trivial⟩ (fun _ h => h) ?_
    rintro s_1 ⟨⟩ o5 fl6 hm4 - hn7 hd8
    have hm4 : slices_Index_sint_s1 p0 p1 s_1 = some o5 := hm4
    unfold slices_Index_sint_s1 at hm4
    refine WK.sub (e' := [(0, .slice a_p0 p0.length c_p0), (1, .int .i64 p1), (4, .int .i64 0), (7, .int .i64 (p0.length : Int)), (8, .int .i64 s_1)]) ⟨rfl, rfl, rfl, rfl, rfl, trivial⟩ (WK.cls (C' := St w0 m m []) (fun _ h => h) ?_)
    refine WK_seq ?_
    refine WK_region ?_
    refine WO_pure tbok 1 [(0, .slice a_p0 p0.length c_p0), (1, .int .i64 p1), (4, .int .i64 0), (7, .int .i64 (p0.length : Int)), (8, .int .i64 s_1), (9, .bool (decide (s_1 < (p0.length : Int))))] rfl ⟨rfl, rfl, rfl, rfl, rfl, rfl, trivial⟩ ?_
    refine WO_end ?_
    refine WK_seq ?_
    refine WK_cond (b := decide (s_1 < (p0.length : Int))) rfl (fun hb10 => ?_) (fun hb10 => ?_)
    · have hm4 := ifT hb10 hm4
      refine WK_skip ?_
      refine WK_seq ?_
      refine WK_block ?_
      refine WK_seq ?_
      refine WK_region ?_
      refine WO_pure tbok 2 [(0, .slice a_p0 p0.length c_p0), (1, .int .i64 p1), (4, .int .i64 0), (5, .int .i64 s_1), (7, .int .i64 (p0.length : Int)), (8, .int .i64 s_1)] rfl ⟨rfl, rfl, rfl, rfl, rfl, rfl, trivial⟩ ?_
      refine WO_end ?_
      refine WK_seq ?_
      refine WK_region ?_
      refine WO_pure tbok 3 [(0, .slice a_p0 p0.length c_p0), (1, .int .i64 p1), (4, .int .i64 0), (5, .int .i64 s_1), (7, .int .i64 (p0.length : Int)), (8, .int .i64 s_1), (11, .int .i64 p1), (12, .slice a_p0 p0.length c_p0), (13, .int .i64 s_1)] rfl ⟨rfl, rfl, rfl, rfl, rfl, rfl, rfl, rfl, rfl, trivial⟩ ?_
      obtain ⟨v_2, hy11, hm4⟩ := bind_some hm4
      obtain ⟨hc12, hy11⟩ := ix_some hy11
      refine WO_index tbok rfl rfl rfl rfl rfl rfl rfl rfl (SlR.addr h_p0) hc12 ?_
      refine WO_loadE tbok rfl rfl rfl rfl (fun _ h => St.sat h) h_p0 hy11 rfl ?_
      refine WO_pure tbok 1 [(0, .slice a_p0 p0.length c_p0), (1, .int .i64 p1), (4, .int .i64 0), (5, .int .i64 s_1), (7, .int .i64 (p0.length : Int)), (8, .int .i64 s_1), (16, .bool (p1 == v_2))] rfl ⟨rfl, rfl, rfl, rfl, rfl, rfl, rfl, trivial⟩ ?_
      refine WO_end ?_
      refine WK_cond (b := p1 == v_2) rfl (fun hb13 => ?_) (fun hb13 => ?_)
      · have hm4 := ifT hb13 hm4
        refine WK_seq ?_
        refine WK_region ?_
        refine WO_pure tbok 2 [(0, .slice a_p0 p0.length c_p0), (1, .int .i64 p1), (4, .int .i64 s_1), (7, .int .i64 (p0.length : Int)), (8, .int .i64 s_1)] rfl ⟨rfl, rfl, rfl, rfl, rfl, trivial⟩ ?_
        refine WO_end ?_
        cases hm4
        have hq := hd8 _ rfl
        subst hq
        have hm : some _ = some _ := hm
        cases hm
        exact WK_ret (ret_out (L := []) (RLc_tmp rfl RLc_nil) (List.nil_sublist _) rfl)
      · have hm4 := ifF hb13 hm4
        refine WK_skip ?_
        refine WK_blk ?_
        refine WK_region ?_
        refine WO_pure tbok 2 [(0, .slice a_p0 p0.length c_p0), (1, .int .i64 p1), (4, .int .i64 0), (7, .int .i64 (p0.length : Int)), (8, .int .i64 (w64 (s_1 + 1)))] rfl ⟨rfl, rfl, rfl, rfl, rfl, trivial⟩ ?_
        refine WO_end ?_
        cases hm4
        refine WK.sub ?_ (WK.cls (fun _ h => h) (hn7 _ () rfl trivial))
        exact ⟨rfl, rfl, rfl, rfl, rfl, trivial⟩
    · have hm4 := ifF hb10 hm4
      refine WK_exit rfl ?_
      cases hm4
      refine WK.sub ?_ (WK.cls (fun _ h => h) (hk3 ((), ()) (hd8 _ rfl)))
      exact ⟨rfl, trivial⟩
theorem aggregate_between_walk {m : Mu} {p0 : Int} {p1 : Int} {p2 : Int}   {r : Int} (hm : aggregate_between p0 p1 p2 = some r) :
    Go.E.Spec Tryd.prog 31 [.int .i64 p0, .int .i64 p1, .int .i64 p2] m (fun v _ _ => v = .int .i64 r) := by
  refine Spec_enter Tryd.func31 rfl rfl rfl (fun w0 => ?_)
  refine WK.sub (e' := [(0, .int .i64 p0), (1, .int .i64 p1), (2, .int .i64 p2)]) ⟨rfl, rfl, rfl, trivial⟩ ?_
  refine WK.sub (e' := [(0, .int .i64 p0), (1, .int .i64 p1), (2, .int .i64 p2)]) ⟨rfl, rfl, rfl, trivial⟩ ?_
  unfold aggregate_between at hm
  refine WK_seq ?_
  refine WK_region ?_
  refine WO_pure tbok 1 [(0, .int .i64 p0), (1, .int .i64 p1), (2, .int .i64 p2), (6, .int .i64 0)] rfl ⟨rfl, rfl, rfl, rfl, trivial⟩ ?_
  refine WO_end ?_
  refine WK_seq ?_
  refine WK_seq ?_
  refine WK_region ?_
  refine WO_pure tbok 1 [(1, .int .i64 p1), (2, .int .i64 p2), (6, .int .i64 0), (7, .int .i64 p0)] rfl ⟨rfl, rfl, rfl, rfl, trivial⟩ ?_
  refine WO_end ?_
  refine WK_block ?_
  refine WK_seq ?_
  refine WK_region ?_
  refine WO_pure tbok 2 [(1, .int .i64 p1), (2, .int .i64 p2), (6, .int .i64 0), (7, .int .i64 p0), (8, .bool (p0 == 0))] rfl ⟨rfl, rfl, rfl, rfl, rfl, trivial⟩ ?_
  refine WO_end ?_
  refine WK_cond (b := p0 == 0) rfl (fun hb1 => ?_) (fun hb1 => ?_)
  · have hm := ifT hb1 hm
    refine WK_seq ?_
    refine WK_region ?_
    refine WO_pure tbok 1 [(2, .int .i64 p2), (6, .int .i64 0)] rfl ⟨rfl, rfl, trivial⟩ ?_
    refine WO_end ?_
    cases hm
    exact WK_ret (ret_out (L := []) (RLc_tmp rfl RLc_nil) (List.nil_sublist _) rfl)
  · have hm := ifF hb1 hm
    refine WK_seq ?_
    refine WK_seq ?_
    refine WK_region ?_
    refine WO_pure tbok 2 [(1, .int .i64 p1), (2, .int .i64 p2), (6, .int .i64 0), (7, .int .i64 p0), (10, .bool (p0 == 1))] rfl ⟨rfl, rfl, rfl, rfl, rfl, trivial⟩ ?_
    refine WO_end ?_
    obtain ⟨s_1, hx2, hm⟩ := bind_some hm
    refine WK_meet [(1, .int .i64 p1), (2, .int .i64 p2), (6, .int .i64 0), (10, .bool s_1)] (St w0 m m []) ?_ (fun hk3 => ?_)
    · refine WK_cond (b := s_1) rfl (fun hb4 => ?_) (fun hb4 => ?_)
      · have hm := ifT hb4 hm
        refine WK_seq ?_
        refine WK_region ?_
        refine WO_pure tbok 2 [(2, .int .i64 p2), (6, .int .i64 p1)] rfl ⟨rfl, rfl, trivial⟩ ?_
        refine WO_end ?_
        cases hm
        exact WK_ret (ret_out (L := []) (RLc_tmp rfl RLc_nil) (List.nil_sublist _) rfl)
      · have hm := ifF hb4 hm
        refine WK_skip ?_
        refine WK_blk ?_
        refine WK_seq ?_
        refine WK_region ?_
        refine WO_pure tbok 2 [(6, .int .i64 p2)] rfl ⟨rfl, trivial⟩ ?_
        refine WO_end ?_
        cases hm
        exact WK_ret (ret_out (L := []) (RLc_tmp rfl RLc_nil) (List.nil_sublist _) rfl)
    · refine WK_cond (b := p0 == 1) rfl (fun hb5 => ?_) (fun hb5 => ?_)
      · have hx2 := ifT hb5 hx2
        refine WK_skip ?_
        cases hx2
        refine WK.sub ?_ (WK.cls (fun _ h => h) hk3)
        exact ⟨rfl, rfl, rfl, rfl, trivial⟩
      · have hx2 := ifF hb5 hx2
        refine WK_region ?_
        refine WO_pure tbok 2 [(1, .int .i64 p1), (2, .int .i64 p2), (6, .int .i64 0), (10, .bool (p0 == (-1)))] rfl ⟨rfl, rfl, rfl, rfl, trivial⟩ ?_
        refine WO_end ?_
        cases hx2
        refine WK.sub ?_ (WK.cls (fun _ h => h) hk3)
        exact ⟨rfl, rfl, rfl, rfl, trivial⟩
def aggregate_Line_Q (r : List Int × Int × List (List Int) × Int) : Value → Mu → List Ent → Prop := fun v m L => ∃ (a0 : Option Addr) (q0 c0 : Nat) (a1 : Option Addr) (q1 c1 : Nat), v = .tuple #[.slice a0 q0 c0, .int .i64 r.2.1, .slice a1 q1 c1, .int .i64 r.2.2.2] ∧ SlR (FE (I1 .i64)) 1 m (.slice a0 q0 c0) r.1 ∧ SlR (RowE (FE (I1 .i64)) 1) 1 m (.slice a1 q1 c1) r.2.2.1
theorem aggregate_Line_walk {m : Mu} {p0 : List (List Int)} {p1 : Int} {p2 : Int} {a_p0 : Option Addr} {q_p0 c_p0 : Nat} (h_p0 : SlR (RowE (FE (I1 .i64)) 1) 1 m (.slice a_p0 q_p0 c_p0) p0) {r : List Int × Int × List (List Int) × Int} (hm : aggregate_Line p0 p1 p2 = some r) :
    Go.E.Spec Tryd.prog 13 [.slice a_p0 q_p0 c_p0, .int .i64 p1, .int .i64 p2] m (aggregate_Line_Q r) := by
  refine Spec_enter Tryd.func13 rfl rfl rfl (fun w0 => ?_)
  refine WK.sub (e' := [(0, .slice a_p0 q_p0 c_p0), (1, .int .i64 p1), (2, .int .i64 p2)]) ⟨rfl, rfl, rfl, trivial⟩ ?_
  obtain rfl := SlR.qlen h_p0
  refine WK.sub (e' := [(0, .slice a_p0 p0.length c_p0), (1, .int .i64 p1), (2, .int .i64 p2)]) ⟨rfl, rfl, rfl, trivial⟩ ?_
  unfold aggregate_Line at hm
  refine WK_seq ?_
  refine WK_region ?_
  refine WO_pure tbok 4 [(0, .slice a_p0 p0.length c_p0), (1, .int .i64 p1), (2, .int .i64 p2), (6, .slice none 0 0), (7, .int .i64 0), (8, .slice none 0 0), (9, .int .i64 0)] rfl ⟨rfl, rfl, rfl, rfl, rfl, rfl, rfl, trivial⟩ ?_
  refine WO_end ?_
  refine WK_seq ?_
  refine WK_seq ?_
  refine WK_region ?_
  refine WO_pure tbok 3 [(0, .slice a_p0 p0.length c_p0), (1, .int .i64 p1), (2, .int .i64 p2), (6, .slice none 0 0), (7, .int .i64 0), (8, .slice none 0 0), (9, .int .i64 0), (19, .slice a_p0 p0.length c_p0), (20, .int .i64 p1), (21, .int .i64 p2)] rfl ⟨rfl, rfl, rfl, rfl, rfl, rfl, rfl, rfl, rfl, rfl, trivial⟩ ?_
  obtain ⟨y_1, hc1, hm⟩ := bind_some hm
  refine WO_call0 (.int .i64 y_1) rfl rfl trivial rfl rfl rfl rfl St_closed ⟨27, #[], #[], rfl, callable_27, fun w hw => ⟨_, hw.sat, aggregate_checked_walk h_p0 hc1⟩⟩ ?_
  refine WO_pure tbok 1 [(0, .slice a_p0 p0.length c_p0), (1, .int .i64 p1), (2, .int .i64 p2), (6, .slice none 0 0), (7, .int .i64 0), (8, .slice none 0 0), (9, .int .i64 0), (10, .int .i64 y_1)] rfl ⟨rfl, rfl, rfl, rfl, rfl, rfl, rfl, rfl, trivial⟩ ?_
  refine WO_end ?_
  refine WK_seq ?_
  refine WK_region ?_
  refine WO_pure tbok 2 [(0, .slice a_p0 p0.length c_p0), (1, .int .i64 p1), (2, .int .i64 p2), (6, .slice none 0 0), (7, .int .i64 0), (8, .slice none 0 0), (9, .int .i64 0), (10, .int .i64 y_1), (24, .bool (y_1 != 0))] rfl ⟨rfl, rfl, rfl, rfl, rfl, rfl, rfl, rfl, rfl, trivial⟩ ?_
  refine WO_end ?_
  refine WK_cond (b := y_1 != 0) rfl (fun hb2 => ?_) (fun hb2 => ?_)
  · have hm := ifT hb2 hm
    refine WK_seq ?_
    refine WK_region ?_
    refine WO_pure tbok 5 [(0, .slice a_p0 p0.length c_p0), (1, .int .i64 p1), (2, .int .i64 p2), (6, .slice none 0 0), (7, .int .i64 0), (8, .slice none 0 0), (9, .int .i64 y_1)] rfl ⟨rfl, rfl, rfl, rfl, rfl, rfl, rfl, trivial⟩ ?_
    refine WO_end ?_
    cases hm
    exact WK_ret (ret_out (L := []) (RLc_tmp rfl (RLc_tmp rfl (RLc_tmp rfl (RLc_tmp rfl RLc_nil)))) (List.nil_sublist _) ⟨none, 0, 0, none, 0, 0, rfl, SlR_nil, SlR_nil⟩)
  · have hm := ifF hb2 hm
    refine WK_skip ?_
    refine WK_seq ?_
    refine WK_region ?_
    refine WO_pure tbok 1 [(0, .slice a_p0 p0.length c_p0), (1, .int .i64 p1), (2, .int .i64 p2), (6, .slice none 0 0), (7, .int .i64 0), (8, .slice none 0 0), (9, .int .i64 0), (26, .slice a_p0 p0.length c_p0)] rfl ⟨rfl, rfl, rfl, rfl, rfl, rfl, rfl, rfl, trivial⟩ ?_
    obtain ⟨y_2, hc3, hm⟩ := bind_some hm
    refine WO_call2 (aggregate_reversed_Q y_2) rfl rfl trivial rfl rfl rfl rfl ⟨28, #[], #[], rfl, callable_28, aggregate_reversed_walk h_p0 hc3⟩ (fun v7 m8 L6 hle9 hq => ?_)
    obtain ⟨a4, qa4, c5, rfl, h10⟩ := hq
    obtain rfl := SlR.qlen h10
    refine WO.cls (C' := St w0 m m8 [L6]) (fun _ h => h.sub (by simp)) ?_
    refine WO_pure tbok 2 [(0, .slice a_p0 p0.length c_p0), (1, .int .i64 p1), (2, .int .i64 p2), (6, .slice none 0 0), (7, .int .i64 0), (8, .slice none 0 0), (9, .int .i64 0), (27, .slice a4 ((y_2).length) c5), (28, .int .i64 p1), (29, .int .i64 p2)] rfl ⟨rfl, rfl, rfl, rfl, rfl, rfl, rfl, rfl, rfl, rfl, trivial⟩ ?_
    obtain ⟨y_3, hc11, hm⟩ := bind_some hm
    refine WO_call2 (aggregate_table_Q y_3) rfl rfl trivial rfl rfl rfl rfl ⟨29, #[], #[], rfl, callable_29, aggregate_table_walk h10 hc11⟩ (fun v15 m16 L14 hle17 hq => ?_)
    obtain ⟨a12, qa12, c13, rfl, h18⟩ := hq
    obtain rfl := SlR.qlen h18
    refine WO.cls (C' := St w0 m m16 [L6, L14]) (fun _ h => h.sub (by simp)) ?_
    obtain ⟨y_4, hc19, hm⟩ := bind_some hm
    refine WO_call2 (aggregate_reversed_Q y_4) rfl rfl trivial rfl rfl rfl rfl ⟨28, #[], #[], rfl, callable_28, aggregate_reversed_walk h18 hc19⟩ (fun v23 m24 L22 hle25 hq => ?_)
    obtain ⟨a20, qa20, c21, rfl, h26⟩ := hq
    obtain rfl := SlR.qlen h26
    refine WO.cls (C' := St w0 m m24 [L6, L14, L22]) (fun _ h => h.sub (by simp)) ?_
    refine WO_pure tbok 1 [(0, .slice a_p0 p0.length c_p0), (1, .int .i64 p1), (2, .int .i64 p2), (6, .slice none 0 0), (7, .int .i64 0), (8, .slice none 0 0), (9, .int .i64 0), (11, .slice a20 ((y_4).length) c21)] rfl ⟨rfl, rfl, rfl, rfl, rfl, rfl, rfl, rfl, trivial⟩ ?_
    refine WO_end ?_
    refine WK_seq ?_
    refine WK_region ?_
    refine WO_pure tbok 1 [(0, .slice a_p0 p0.length c_p0), (1, .int .i64 p1), (2, .int .i64 p2), (6, .slice none 0 0), (7, .int .i64 0), (8, .slice none 0 0), (9, .int .i64 0), (11, .slice a20 ((y_4).length) c21), (32, .slice a20 ((y_4).length) c21)] rfl ⟨rfl, rfl, rfl, rfl, rfl, rfl, rfl, rfl, rfl, trivial⟩ ?_
    obtain ⟨v_5, hy27, hm⟩ := bind_some hm
    obtain ⟨hc28, hy27⟩ := ix_some hy27
    refine WO_index tbok rfl rfl rfl rfl rfl rfl rfl rfl (SlR.addr h26) hc28 ?_
    refine WO_loadR tbok rfl rfl rfl rfl (fun _ h => St.sat h) h26 hy27 rfl rfl (fun a29 c30 h31 => ?_)
    obtain ⟨y_6, hc32, hm⟩ := bind_some hm
    refine WO_call0 (.int .i64 y_6) rfl rfl trivial rfl rfl rfl rfl St_closed ⟨26, #[], #[], rfl, callable_26, fun w hw => ⟨_, hw.sat, slices_Min_sint_walk h31 hc32⟩⟩ ?_
    refine WO_pure tbok 1 [(0, .slice a_p0 p0.length c_p0), (1, .int .i64 p1), (2, .int .i64 p2), (6, .slice none 0 0), (7, .int .i64 0), (8, .slice none 0 0), (9, .int .i64 0), (11, .slice a20 ((y_4).length) c21), (12, .int .i64 y_6)] rfl ⟨rfl, rfl, rfl, rfl, rfl, rfl, rfl, rfl, rfl, trivial⟩ ?_
    refine WO_end ?_
    refine WK_seq ?_
    refine WK_region ?_
    refine WO_pure tbok 1 [(0, .slice a_p0 p0.length c_p0), (1, .int .i64 p1), (2, .int .i64 p2), (6, .slice none 0 0), (7, .int .i64 0), (8, .slice none 0 0), (9, .int .i64 0), (11, .slice a20 ((y_4).length) c21), (12, .int .i64 y_6), (36, .slice a20 ((y_4).length) c21)] rfl ⟨rfl, rfl, rfl, rfl, rfl, rfl, rfl, rfl, rfl, rfl, trivial⟩ ?_
    obtain ⟨v_7, hy33, hm⟩ := bind_some hm
    obtain ⟨hc34, hy33⟩ := ix_some hy33
    refine WO_index tbok rfl rfl rfl rfl rfl rfl rfl rfl (SlR.addr h26) hc34 ?_
    refine WO_loadR tbok rfl rfl rfl rfl (fun _ h => St.sat h) h26 hy33 rfl rfl (fun a35 c36 h37 => ?_)
    refine WO_pure tbok 1 [(0, .slice a_p0 p0.length c_p0), (1, .int .i64 p1), (2, .int .i64 p2), (6, .slice none 0 0), (7, .int .i64 0), (8, .slice none 0 0), (9, .int .i64 0), (11, .slice a20 ((y_4).length) c21), (12, .int .i64 y_6), (38, .slice a35 ((v_7).length) c36), (39, .int .i64 y_6)] rfl ⟨rfl, rfl, rfl, rfl, rfl, rfl, rfl, rfl, rfl, rfl, rfl, trivial⟩ ?_
    obtain ⟨y_8, hc38, hm⟩ := bind_some hm
    refine WO_call0 (.int .i64 y_8) rfl rfl trivial rfl rfl rfl rfl St_closed ⟨30, #[], #[], rfl, callable_30, fun w hw => ⟨_, hw.sat, slices_Index_sint_walk h37 hc38⟩⟩ ?_
    refine WO_bslice (E := (I1 .i64)) tbok (fun _ => rfl) (by decide) [.int .i64 y_8] ([y_8] : List Int) rfl rfl trivial rfl rfl rfl rfl rfl rfl rfl rfl rfl rfl rfl rfl (fun b39 hb39 => ?_)
    refine WO.cls (C' := St w0 m m24 [L6, L14, L22, [⟨b39, 3, ([y_8] : List Int).flatMap (I1 .i64)⟩]]) (fun _ h => h) ?_
    refine WO_pure tbok 1 [(0, .slice a_p0 p0.length c_p0), (1, .int .i64 p1), (2, .int .i64 p2), (6, .slice none 0 0), (7, .int .i64 0), (8, .slice none 0 0), (9, .int .i64 0), (11, .slice a20 ((y_4).length) c21), (12, .int .i64 y_6), (13, .slice (some ⟨b39, 0, none⟩) 1 1)] rfl ⟨rfl, rfl, rfl, rfl, rfl, rfl, rfl, rfl, rfl, rfl, trivial⟩ ?_
    refine WO_end ?_
    refine WK_seq ?_
    refine WK_seq ?_
    refine WK_region ?_
    refine WO_pure tbok 1 [(0, .slice a_p0 p0.length c_p0), (1, .int .i64 p1), (2, .int .i64 p2), (6, .slice none 0 0), (7, .int .i64 0), (8, .slice none 0 0), (9, .int .i64 0), (12, .int .i64 y_6), (13, .slice (some ⟨b39, 0, none⟩) 1 1), (42, .slice a20 ((y_4).length) c21)] rfl ⟨rfl, rfl, rfl, rfl, rfl, rfl, rfl, rfl, rfl, rfl, trivial⟩ ?_
    obtain ⟨hc40, hm⟩ := chk_some hm
    have hc40 : 0 ≤ (1 : Int) ∧ (1 : Int) ≤ (y_4.length : Int) ∧ (y_4.length : Int) ≤ (y_4.length : Int) := hc40
    have hz44 : SlR (RowE (FE (I1 .i64)) 1) 1 m24 (.slice a20 ((y_4).length) c21) y_4 := h26
    refine WO_slice tbok (some (1 : Int)) none none (1 : Int).toNat y_4.length rfl rfl rfl rfl rfl rfl rfl rfl rfl rfl rfl hz44 (by simp only [Option.getD_some] <;> omega) (by have := SlR.qlen hz44; simp only [Option.getD_none] <;> omega) (fun q hq => by cases hq) (by omega) (by omega) (fun hh => by cases hh) (fun a41 c42 h43 => ?_)
    refine WO_pure tbok 2 [(0, .slice a_p0 p0.length c_p0), (1, .int .i64 p1), (2, .int .i64 p2), (6, .slice none 0 0), (7, .int .i64 0), (8, .slice none 0 0), (9, .int .i64 0), (12, .int .i64 y_6), (13, .slice (some ⟨b39, 0, none⟩) 1 1), (43, .slice a41 (((y_4.take y_4.length).drop (1 : Int).toNat).length) c42), (44, .int .i64 (((y_4.take y_4.length).drop (1 : Int).toNat).length : Int)), (45, .int .i64 0)] rfl ⟨rfl, rfl, rfl, rfl, rfl, rfl, rfl, rfl, rfl, rfl, rfl, rfl, trivial⟩ ?_
    refine WO_end ?_
    obtain ⟨x53, hx54, hm⟩ := bind_some hm
    refine WK_join (β := (List Int) × (Option Addr × Nat × Nat × List Ent)) (fun p => p.1 = x53 ∧ OwnE 3 1 (I1 .i64) (.slice p.2.1 p.2.2.1 p.2.2.2.1) p.1 p.2.2.2.2) (fun p => [(0, .slice a_p0 p0.length c_p0), (1, .int .i64 p1), (2, .int .i64 p2), (6, .slice none 0 0), (7, .int .i64 0), (8, .slice none 0 0), (9, .int .i64 0), (12, .int .i64 y_6), (13, .slice p.2.1 p.2.2.1 p.2.2.2.1)]) (fun p => St w0 m m24 [L6, L14, L22, p.2.2.2.2]) ?_ (fun hk55 => ?_)
    · rintro ⟨l_11, ⟨a50, q51, c52, L49⟩⟩ ⟨hq61, hL49⟩
      subst hq61
      have hqq : q51 = l_11.length := OwnE.qlen hL49
      subst hqq
      refine WK.sub (e' := [(0, .slice a_p0 p0.length c_p0), (1, .int .i64 p1), (2, .int .i64 p2), (6, .slice none 0 0), (7, .int .i64 0), (8, .slice none 0 0), (9, .int .i64 0), (12, .int .i64 y_6), (13, .slice a50 ((l_11).length) c52)]) ⟨rfl, rfl, rfl, rfl, rfl, rfl, rfl, rfl, rfl, trivial⟩ (WK.cls (C' := St w0 m m24 [L6, L14, L22, L49]) (fun _ h => h) ?_)
      refine WK_seq ?_
      refine WK_region ?_
      refine WO_pure tbok 5 [(6, .slice none 0 0), (7, .int .i64 0), (8, .slice none 0 0), (9, .int .i64 0), (90, .slice a50 ((l_11).length) c52), (91, .int .i64 y_6), (92, .slice a_p0 p0.length c_p0), (93, .int .i64 p1), (94, .int .i64 p2)] rfl ⟨rfl, rfl, rfl, rfl, rfl, rfl, rfl, rfl, rfl, trivial⟩ ?_
      obtain ⟨y_12, hc62, hm⟩ := bind_some hm
      refine WO_call2 (aggregate_table_Q y_12) rfl rfl trivial rfl rfl rfl rfl ⟨29, #[], #[], rfl, callable_29, aggregate_table_walk (((h_p0.mono (mono_RowE (mono_FE _) _) hle9).mono (mono_RowE (mono_FE _) _) hle17).mono (mono_RowE (mono_FE _) _) hle25) hc62⟩ (fun v66 m67 L65 hle68 hq => ?_)
      obtain ⟨a63, qa63, c64, rfl, h69⟩ := hq
      obtain rfl := SlR.qlen h69
      refine WO.cls (C' := St w0 m m67 [L6, L14, L22, L49, L65]) (fun _ h => h.sub (by simp)) ?_
      refine WO_pure tbok 4 [(6, .slice a50 ((l_11).length) c52), (7, .int .i64 y_6), (8, .slice a63 ((y_12).length) c64), (9, .int .i64 0)] rfl ⟨rfl, rfl, rfl, rfl, trivial⟩ ?_
      refine WO_end ?_
      cases hm
      refine WK_freeze 3 rfl (fun m70 hle71 hmm72 => ?_)
      refine WK.cls (C' := St w0 m m70 [L6, L14, L22, [], L65]) (fun _ h => h) ?_
      exact WK_ret (ret_out (L := []) (RLc_tmp rfl (RLc_tmp rfl (RLc_tmp rfl (RLc_tmp rfl RLc_nil)))) (List.nil_sublist _) ⟨a50, _, c52, a63, _, c64, rfl, (OwnE.rd (E := (I1 .i64)) (k := 1) (fun _ => rfl) hL49 hmm72), (h69.mono (mono_RowE (mono_FE _) _) hle71)⟩)
    · refine WK_block ?_
      refine WK_loop (S := List Int × Int) (G := Option Addr × Nat × Nat × List Ent) (fun s => aggregate_Line_s1 p1 p2 y_4 s.1 s.2) (fun s g => [(0, .slice a_p0 p0.length c_p0), (1, .int .i64 p1), (2, .int .i64 p2), (6, .slice none 0 0), (7, .int .i64 0), (8, .slice none 0 0), (9, .int .i64 0), (12, .int .i64 y_6), (13, .slice g.1 g.2.1 g.2.2.1), (43, .slice a41 (((y_4.take y_4.length).drop (1 : Int).toNat).length) c42), (44, .int .i64 (((y_4.take y_4.length).drop (1 : Int).toNat).length : Int)), (45, .int .i64 s.2)]) (fun s g => St w0 m m24 [L6, L14, L22, g.2.2.2]) (fun s g => OwnE 3 1 (I1 .i64) (.slice g.1 g.2.1 g.2.2.1) s.1 g.2.2.2) FUEL (([y_8] : List Int), 0) (some ⟨b39, 0, none⟩, 1, 1, [⟨b39, 3, ([y_8] : List Int).flatMap (I1 .i64)⟩]) x53 hx54 hb39 ⟨rfl, rfl, rfl, rfl, rfl, rfl, rfl, rfl, rfl, rfl, rfl, rfl, trivial⟩ (fun _ h => h) ?_
      rintro ⟨l_9, s_10⟩ ⟨a46, q47, c48, L45⟩ o57 fl58 hm56 hL45 hn59 hd60
      have hm56 : aggregate_Line_s1 p1 p2 y_4 l_9 s_10 = some o57 := hm56
      unfold aggregate_Line_s1 at hm56
      have hqq : q47 = l_9.length := OwnE.qlen hL45
      subst hqq
      refine WK.sub (e' := [(0, .slice a_p0 p0.length c_p0), (1, .int .i64 p1), (2, .int .i64 p2), (6, .slice none 0 0), (7, .int .i64 0), (8, .slice none 0 0), (9, .int .i64 0), (12, .int .i64 y_6), (13, .slice a46 ((l_9).length) c48), (43, .slice a41 (((y_4.take y_4.length).drop (1 : Int).toNat).length) c42), (44, .int .i64 (((y_4.take y_4.length).drop (1 : Int).toNat).length : Int)), (45, .int .i64 s_10)]) ⟨rfl, rfl, rfl, rfl, rfl, rfl, rfl, rfl, rfl, rfl, rfl, rfl, trivial⟩ (WK.cls (C' := St w0 m m24 [L6, L14, L22, L45]) (fun _ h => h) ?_)
      refine WK_seq ?_
      refine WK_region ?_
      refine WO_pure tbok 1 [(0, .slice a_p0 p0.length c_p0), (1, .int .i64 p1), (2, .int .i64 p2), (6, .slice none 0 0), (7, .int .i64 0), (8, .slice none 0 0), (9, .int .i64 0), (12, .int .i64 y_6), (13, .slice a46 ((l_9).length) c48), (43, .slice a41 (((y_4.take y_4.length).drop (1 : Int).toNat).length) c42), (44, .int .i64 (((y_4.take y_4.length).drop (1 : Int).toNat).length : Int)), (45, .int .i64 s_10), (46, .bool (decide (s_10 < (((y_4.take y_4.length).drop (1 : Int).toNat).length : Int))))] rfl ⟨rfl, rfl, rfl, rfl, rfl, rfl, rfl, rfl, rfl, rfl, rfl, rfl, rfl, trivial⟩ ?_
      refine WO_end ?_
      refine WK_seq ?_
      refine WK_cond (b := decide (s_10 < (((y_4.take y_4.length).drop (1 : Int).toNat).length : Int))) rfl (fun hb73 => ?_) (fun hb73 => ?_)
      · have hm56 := ifT hb73 hm56
        refine WK_skip ?_
        refine WK_seq ?_
        refine WK_block ?_
        refine WK_seq ?_
        refine WK_region ?_
        obtain ⟨v_13, hy74, hm56⟩ := bind_some hm56
        obtain ⟨hc75, hy74⟩ := ix_some hy74
        refine WO_index tbok rfl rfl rfl rfl rfl rfl rfl rfl (SlR.addr h43) hc75 ?_
        refine WO_loadR tbok rfl rfl rfl rfl (fun _ h => St.sat h) h43 hy74 rfl rfl (fun a76 c77 h78 => ?_)
        refine WO_pure tbok 1 [(0, .slice a_p0 p0.length c_p0), (1, .int .i64 p1), (2, .int .i64 p2), (6, .slice none 0 0), (7, .int .i64 0), (8, .slice none 0 0), (9, .int .i64 0), (12, .int .i64 y_6), (13, .slice a46 ((l_9).length) c48), (15, .slice a76 ((v_13).length) c77), (43, .slice a41 (((y_4.take y_4.length).drop (1 : Int).toNat).length) c42), (44, .int .i64 (((y_4.take y_4.length).drop (1 : Int).toNat).length : Int)), (45, .int .i64 s_10)] rfl ⟨rfl, rfl, rfl, rfl, rfl, rfl, rfl, rfl, rfl, rfl, rfl, rfl, rfl, trivial⟩ ?_
        refine WO_end ?_
        refine WK_seq ?_
        refine WK_region ?_
        refine WO_pure tbok 4 [(0, .slice a_p0 p0.length c_p0), (1, .int .i64 p1), (2, .int .i64 p2), (6, .slice none 0 0), (7, .int .i64 0), (8, .slice none 0 0), (9, .int .i64 0), (12, .int .i64 y_6), (13, .slice a46 ((l_9).length) c48), (15, .slice a76 ((v_13).length) c77), (43, .slice a41 (((y_4.take y_4.length).drop (1 : Int).toNat).length) c42), (44, .int .i64 (((y_4.take y_4.length).drop (1 : Int).toNat).length : Int)), (45, .int .i64 s_10), (49, .slice a46 ((l_9).length) c48), (52, .int .i64 (w64 (((l_9).length : Int) - 1)))] rfl ⟨rfl, rfl, rfl, rfl, rfl, rfl, rfl, rfl, rfl, rfl, rfl, rfl, rfl, rfl, rfl, trivial⟩ ?_
        obtain ⟨v_14, hy79, hm56⟩ := bind_some hm56
        obtain ⟨hc80, hy79⟩ := ix_some hy79
        refine WO_index tbok rfl rfl rfl rfl rfl rfl rfl rfl (OwnE.addr hL45) (by simpa using hc80) ?_
        refine WO_loadO (E := (I1 .i64)) tbok (fun _ => rfl) 3 rfl rfl rfl rfl (fun _ h => h) hL45 rfl hy79 rfl ?_
        refine WO_pure tbok 2 [(0, .slice a_p0 p0.length c_p0), (1, .int .i64 p1), (2, .int .i64 p2), (6, .slice none 0 0), (7, .int .i64 0), (8, .slice none 0 0), (9, .int .i64 0), (12, .int .i64 y_6), (13, .slice a46 ((l_9).length) c48), (15, .slice a76 ((v_13).length) c77), (16, .int .i64 v_14), (17, .int .i64 0), (43, .slice a41 (((y_4.take y_4.length).drop (1 : Int).toNat).length) c42), (44, .int .i64 (((y_4.take y_4.length).drop (1 : Int).toNat).length : Int)), (45, .int .i64 s_10)] rfl ⟨rfl, rfl, rfl, rfl, rfl, rfl, rfl, rfl, rfl, rfl, rfl, rfl, rfl, rfl, rfl, trivial⟩ ?_
        refine WO_end ?_
        refine WK_seq ?_
        refine WK_seq ?_
        refine WK_region ?_
        refine WO_pure tbok 3 [(0, .slice a_p0 p0.length c_p0), (1, .int .i64 p1), (2, .int .i64 p2), (6, .slice none 0 0), (7, .int .i64 0), (8, .slice none 0 0), (9, .int .i64 0), (12, .int .i64 y_6), (13, .slice a46 ((l_9).length) c48), (15, .slice a76 ((v_13).length) c77), (16, .int .i64 v_14), (17, .int .i64 0), (43, .slice a41 (((y_4.take y_4.length).drop (1 : Int).toNat).length) c42), (44, .int .i64 (((y_4.take y_4.length).drop (1 : Int).toNat).length : Int)), (45, .int .i64 s_10), (56, .int .i64 ((v_13).length : Int)), (57, .int .i64 0)] rfl ⟨rfl, rfl, rfl, rfl, rfl, rfl, rfl, rfl, rfl, rfl, rfl, rfl, rfl, rfl, rfl, rfl, rfl, trivial⟩ ?_
        refine WO_end ?_
        obtain ⟨x81, hx82, hm56⟩ := bind_some hm56
        refine WK_join (β := Int × Unit) (fun p => p.1 = x81) (fun p => [(0, .slice a_p0 p0.length c_p0), (1, .int .i64 p1), (2, .int .i64 p2), (6, .slice none 0 0), (7, .int .i64 0), (8, .slice none 0 0), (9, .int .i64 0), (12, .int .i64 y_6), (13, .slice a46 ((l_9).length) c48), (17, .int .i64 p.1), (43, .slice a41 (((y_4.take y_4.length).drop (1 : Int).toNat).length) c42), (44, .int .i64 (((y_4.take y_4.length).drop (1 : Int).toNat).length : Int)), (45, .int .i64 s_10)]) (fun p => St w0 m m24 [L6, L14, L22, L45]) ?_ (fun hk83 => ?_)
        · rintro ⟨s_17, ⟨⟩⟩ hq89
          subst hq89
          refine WK.sub (e' := [(0, .slice a_p0 p0.length c_p0), (1, .int .i64 p1), (2, .int .i64 p2), (6, .slice none 0 0), (7, .int .i64 0), (8, .slice none 0 0), (9, .int .i64 0), (12, .int .i64 y_6), (13, .slice a46 ((l_9).length) c48), (17, .int .i64 s_17), (43, .slice a41 (((y_4.take y_4.length).drop (1 : Int).toNat).length) c42), (44, .int .i64 (((y_4.take y_4.length).drop (1 : Int).toNat).length : Int)), (45, .int .i64 s_10)]) ⟨rfl, rfl, rfl, rfl, rfl, rfl, rfl, rfl, rfl, rfl, rfl, rfl, rfl, trivial⟩ (WK.cls (C' := St w0 m m24 [L6, L14, L22, L45]) (fun _ h => h) ?_)
          refine WK_region ?_
          refine WO_pure tbok 2 [(0, .slice a_p0 p0.length c_p0), (1, .int .i64 p1), (2, .int .i64 p2), (6, .slice none 0 0), (7, .int .i64 0), (8, .slice none 0 0), (9, .int .i64 0), (12, .int .i64 y_6), (13, .slice a46 ((l_9).length) c48), (43, .slice a41 (((y_4.take y_4.length).drop (1 : Int).toNat).length) c42), (44, .int .i64 (((y_4.take y_4.length).drop (1 : Int).toNat).length : Int)), (45, .int .i64 s_10), (85, .slice a46 ((l_9).length) c48), (86, .int .i64 s_17)] rfl ⟨rfl, rfl, rfl, rfl, rfl, rfl, rfl, rfl, rfl, rfl, rfl, rfl, rfl, rfl, trivial⟩ ?_
          refine WO_bslice (E := (I1 .i64)) tbok (fun _ => rfl) (by decide) [.int .i64 s_17] ([s_17] : List Int) rfl rfl trivial rfl rfl rfl rfl rfl rfl rfl rfl rfl rfl rfl rfl (fun b90 hb90 => ?_)
          refine WO.cls (C' := St w0 m m24 [L6, L14, L22, L45, [⟨b90, 3, ([s_17] : List Int).flatMap (I1 .i64)⟩]]) (fun _ h => h) ?_
          obtain ⟨hc91, hm56⟩ := chk_some hm56
          refine WO_append (E := (I1 .i64)) tbok (fun _ => rfl) 3 ([s_17] : List Int) (fun _ _ => rfl) rfl rfl rfl rfl rfl rfl rfl rfl rfl rfl rfl rfl hL45 rfl (src_seg (j := 4) rfl) (ap_ok (by decide) hc91) (ap_max hc91) (fun a92 c93 L94 hL94 => ?_)
          refine WO.cls (C' := St w0 m m24 [L6, L14, L22, L94, [⟨b90, 3, ([s_17] : List Int).flatMap (I1 .i64)⟩]]) (fun _ h => h) ?_
          refine WO_pure tbok 1 [(0, .slice a_p0 p0.length c_p0), (1, .int .i64 p1), (2, .int .i64 p2), (6, .slice none 0 0), (7, .int .i64 0), (8, .slice none 0 0), (9, .int .i64 0), (12, .int .i64 y_6), (13, .slice a92 ((l_9 ++ ([s_17] : List Int)).length) c93), (43, .slice a41 (((y_4.take y_4.length).drop (1 : Int).toNat).length) c42), (44, .int .i64 (((y_4.take y_4.length).drop (1 : Int).toNat).length : Int)), (45, .int .i64 s_10)] rfl ⟨rfl, rfl, rfl, rfl, rfl, rfl, rfl, rfl, rfl, rfl, rfl, rfl, trivial⟩ ?_
          refine WO_end ?_
          refine WK_blk ?_
          refine WK_region ?_
          refine WO_pure tbok 2 [(0, .slice a_p0 p0.length c_p0), (1, .int .i64 p1), (2, .int .i64 p2), (6, .slice none 0 0), (7, .int .i64 0), (8, .slice none 0 0), (9, .int .i64 0), (12, .int .i64 y_6), (13, .slice a92 ((l_9 ++ ([s_17] : List Int)).length) c93), (43, .slice a41 (((y_4.take y_4.length).drop (1 : Int).toNat).length) c42), (44, .int .i64 (((y_4.take y_4.length).drop (1 : Int).toNat).length : Int)), (45, .int .i64 (w64 (s_10 + 1)))] rfl ⟨rfl, rfl, rfl, rfl, rfl, rfl, rfl, rfl, rfl, rfl, rfl, rfl, trivial⟩ ?_
          refine WO_end ?_
          cases hm56
          refine WK.sub ?_ (WK.cls (fun _ h => St.take 4 h) (hn59 _ (a92, (l_9 ++ ([s_17] : List Int)).length, c93, L94) rfl hL94))
          exact ⟨rfl, rfl, rfl, rfl, rfl, rfl, rfl, rfl, rfl, rfl, rfl, rfl, trivial⟩
        · refine WK_block ?_
          refine WK_loop (S := Int × Int) (G := Unit) (fun s => aggregate_Line_s2 p1 p2 v_13 v_14 s.1 s.2) (fun s g => [(0, .slice a_p0 p0.length c_p0), (1, .int .i64 p1), (2, .int .i64 p2), (6, .slice none 0 0), (7, .int .i64 0), (8, .slice none 0 0), (9, .int .i64 0), (12, .int .i64 y_6), (13, .slice a46 ((l_9).length) c48), (15, .slice a76 ((v_13).length) c77), (16, .int .i64 v_14), (17, .int .i64 s.2), (43, .slice a41 (((y_4.take y_4.length).drop (1 : Int).toNat).length) c42), (44, .int .i64 (((y_4.take y_4.length).drop (1 : Int).toNat).length : Int)), (45, .int .i64 s_10), (56, .int .i64 ((v_13).length : Int)), (57, .int .i64 s.1)]) (fun s g => St w0 m m24 [L6, L14, L22, L45]) (fun s g => True) FUEL (0, 0) () x81 hx82 trivial ⟨rfl, rfl, rfl, rfl, rfl, rfl, rfl, rfl, rfl, rfl, rfl, rfl, rfl, rfl, rfl, rfl, rfl, trivial⟩ (fun _ h => h) ?_
          rintro ⟨s_15, s_16⟩ ⟨⟩ o85 fl86 hm84 - hn87 hd88
          have hm84 : aggregate_Line_s2 p1 p2 v_13 v_14 s_15 s_16 = some o85 := hm84
          unfold aggregate_Line_s2 at hm84
          refine WK.sub (e' := [(0, .slice a_p0 p0.length c_p0), (1, .int .i64 p1), (2, .int .i64 p2), (6, .slice none 0 0), (7, .int .i64 0), (8, .slice none 0 0), (9, .int .i64 0), (12, .int .i64 y_6), (13, .slice a46 ((l_9).length) c48), (15, .slice a76 ((v_13).length) c77), (16, .int .i64 v_14), (17, .int .i64 s_16), (43, .slice a41 (((y_4.take y_4.length).drop (1 : Int).toNat).length) c42), (44, .int .i64 (((y_4.take y_4.length).drop (1 : Int).toNat).length : Int)), (45, .int .i64 s_10), (56, .int .i64 ((v_13).length : Int)), (57, .int .i64 s_15)]) ⟨rfl, rfl, rfl, rfl, rfl, rfl, rfl, rfl, rfl, rfl, rfl, rfl, rfl, rfl, rfl, rfl, rfl, trivial⟩ (WK.cls (C' := St w0 m m24 [L6, L14, L22, L45]) (fun _ h => h) ?_)
          refine WK_seq ?_
          refine WK_region ?_
          refine WO_pure tbok 1 [(0, .slice a_p0 p0.length c_p0), (1, .int .i64 p1), (2, .int .i64 p2), (6, .slice none 0 0), (7, .int .i64 0), (8, .slice none 0 0), (9, .int .i64 0), (12, .int .i64 y_6), (13, .slice a46 ((l_9).length) c48), (15, .slice a76 ((v_13).length) c77), (16, .int .i64 v_14), (17, .int .i64 s_16), (43, .slice a41 (((y_4.take y_4.length).drop (1 : Int).toNat).length) c42), (44, .int .i64 (((y_4.take y_4.length).drop (1 : Int).toNat).length : Int)), (45, .int .i64 s_10), (56, .int .i64 ((v_13).length : Int)), (57, .int .i64 s_15), (58, .bool (decide (s_15 < ((v_13).length : Int))))] rfl ⟨rfl, rfl, rfl, rfl, rfl, rfl, rfl, rfl, rfl, rfl, rfl, rfl, rfl, rfl, rfl, rfl, rfl, rfl, trivial⟩ ?_
          refine WO_end ?_
          refine WK_seq ?_
          refine WK_cond (b := decide (s_15 < ((v_13).length : Int))) rfl (fun hb95 => ?_) (fun hb95 => ?_)
          · have hm84 := ifT hb95 hm84
            refine WK_skip ?_
            refine WK_seq ?_
            refine WK_block ?_
            refine WK_seq ?_
            refine WK_region ?_
            refine WO_pure tbok 2 [(0, .slice a_p0 p0.length c_p0), (1, .int .i64 p1), (2, .int .i64 p2), (6, .slice none 0 0), (7, .int .i64 0), (8, .slice none 0 0), (9, .int .i64 0), (12, .int .i64 y_6), (13, .slice a46 ((l_9).length) c48), (15, .slice a76 ((v_13).length) c77), (16, .int .i64 v_14), (17, .int .i64 s_16), (18, .int .i64 s_15), (43, .slice a41 (((y_4.take y_4.length).drop (1 : Int).toNat).length) c42), (44, .int .i64 (((y_4.take y_4.length).drop (1 : Int).toNat).length : Int)), (45, .int .i64 s_10), (56, .int .i64 ((v_13).length : Int)), (57, .int .i64 s_15)] rfl ⟨rfl, rfl, rfl, rfl, rfl, rfl, rfl, rfl, rfl, rfl, rfl, rfl, rfl, rfl, rfl, rfl, rfl, rfl, trivial⟩ ?_
            refine WO_end ?_
            refine WK_seq ?_
            refine WK_draw 23 [0, 1, 2, 3, 4, 5, 6, 7, 8, 11, 12, 13, 14, 15, 16, 17, 18, 19, 9, 10, 20, 21, 22] follows_ok (by kernel_rfl) St_closed ?_
            refine WO_pure tbok 2 [(0, .slice a_p0 p0.length c_p0), (1, .int .i64 p1), (2, .int .i64 p2), (6, .slice none 0 0), (7, .int .i64 0), (8, .slice none 0 0), (9, .int .i64 0), (12, .int .i64 y_6), (13, .slice a46 ((l_9).length) c48), (15, .slice a76 ((v_13).length) c77), (16, .int .i64 v_14), (17, .int .i64 s_16), (18, .int .i64 s_15), (43, .slice a41 (((y_4.take y_4.length).drop (1 : Int).toNat).length) c42), (44, .int .i64 (((y_4.take y_4.length).drop (1 : Int).toNat).length : Int)), (45, .int .i64 s_10), (56, .int .i64 ((v_13).length : Int)), (57, .int .i64 s_15), (60, .slice a76 ((v_13).length) c77), (61, .int .i64 s_15)] rfl ⟨rfl, rfl, rfl, rfl, rfl, rfl, rfl, rfl, rfl, rfl, rfl, rfl, rfl, rfl, rfl, rfl, rfl, rfl, rfl, rfl, trivial⟩ ?_
            obtain ⟨v_18, hy96, hm84⟩ := bind_some hm84
            obtain ⟨hc97, hy96⟩ := ix_some hy96
            refine WO_index tbok rfl rfl rfl rfl rfl rfl rfl rfl (SlR.addr h78) hc97 ?_
            refine WO_loadE tbok rfl rfl rfl rfl (fun _ h => St.sat h) h78 hy96 rfl ?_
            refine WO_pure tbok 7 [(0, .slice a_p0 p0.length c_p0), (1, .int .i64 p1), (2, .int .i64 p2), (6, .slice none 0 0), (7, .int .i64 0), (8, .slice none 0 0), (9, .int .i64 0), (12, .int .i64 y_6), (13, .slice a46 ((l_9).length) c48), (15, .slice a76 ((v_13).length) c77), (16, .int .i64 v_14), (17, .int .i64 s_16), (18, .int .i64 s_15), (43, .slice a41 (((y_4.take y_4.length).drop (1 : Int).toNat).length) c42), (44, .int .i64 (((y_4.take y_4.length).drop (1 : Int).toNat).length : Int)), (45, .int .i64 s_10), (56, .int .i64 ((v_13).length : Int)), (57, .int .i64 s_15), (63, .int .i64 v_18), (66, .int .i64 (w64 (s_15 - v_14))), (67, .int .i64 p1), (68, .int .i64 p2), (71, .slice a76 ((v_13).length) c77), (72, .int .i64 s_16)] rfl ⟨rfl, rfl, rfl, rfl, rfl, rfl, rfl, rfl, rfl, rfl, rfl, rfl, rfl, rfl, rfl, rfl, rfl, rfl, rfl, rfl, rfl, rfl, rfl, rfl, trivial⟩ ?_
            obtain ⟨v_19, hy98, hm84⟩ := bind_some hm84
            obtain ⟨hc99, hy98⟩ := ix_some hy98
            refine WO_index tbok rfl rfl rfl rfl rfl rfl rfl rfl (SlR.addr h78) hc99 ?_
            refine WO_loadE tbok rfl rfl rfl rfl (fun _ h => St.sat h) h78 hy98 rfl ?_
            refine WO_pure tbok 5 [(0, .slice a_p0 p0.length c_p0), (1, .int .i64 p1), (2, .int .i64 p2), (6, .slice none 0 0), (7, .int .i64 0), (8, .slice none 0 0), (9, .int .i64 0), (12, .int .i64 y_6), (13, .slice a46 ((l_9).length) c48), (15, .slice a76 ((v_13).length) c77), (16, .int .i64 v_14), (17, .int .i64 s_16), (18, .int .i64 s_15), (43, .slice a41 (((y_4.take y_4.length).drop (1 : Int).toNat).length) c42), (44, .int .i64 (((y_4.take y_4.length).drop (1 : Int).toNat).length : Int)), (45, .int .i64 s_10), (56, .int .i64 ((v_13).length : Int)), (57, .int .i64 s_15), (63, .int .i64 v_18), (66, .int .i64 (w64 (s_15 - v_14))), (67, .int .i64 p1), (68, .int .i64 p2), (74, .int .i64 v_19), (77, .int .i64 (w64 (s_16 - v_14))), (78, .int .i64 p1), (79, .int .i64 p2)] rfl ⟨rfl, rfl, rfl, rfl, rfl, rfl, rfl, rfl, rfl, rfl, rfl, rfl, rfl, rfl, rfl, rfl, rfl, rfl, rfl, rfl, rfl, rfl, rfl, rfl, rfl, rfl, trivial⟩ ?_
            obtain ⟨y_20, hc100, hm84⟩ := bind_some hm84
            refine WO_call0 (.int .i64 y_20) rfl rfl St_closed rfl rfl rfl rfl St_closed ⟨31, #[], #[], rfl, callable_31, fun w hw => ⟨_, hw.sat, aggregate_between_walk hc100⟩⟩ ?_
            refine WO_pure tbok 1 [(0, .slice a_p0 p0.length c_p0), (1, .int .i64 p1), (2, .int .i64 p2), (6, .slice none 0 0), (7, .int .i64 0), (8, .slice none 0 0), (9, .int .i64 0), (12, .int .i64 y_6), (13, .slice a46 ((l_9).length) c48), (15, .slice a76 ((v_13).length) c77), (16, .int .i64 v_14), (17, .int .i64 s_16), (18, .int .i64 s_15), (43, .slice a41 (((y_4.take y_4.length).drop (1 : Int).toNat).length) c42), (44, .int .i64 (((y_4.take y_4.length).drop (1 : Int).toNat).length : Int)), (45, .int .i64 s_10), (56, .int .i64 ((v_13).length : Int)), (57, .int .i64 s_15), (70, .int .i64 (w64 (v_18 + y_20))), (74, .int .i64 v_19), (77, .int .i64 (w64 (s_16 - v_14))), (78, .int .i64 p1), (79, .int .i64 p2)] rfl ⟨rfl, rfl, rfl, rfl, rfl, rfl, rfl, rfl, rfl, rfl, rfl, rfl, rfl, rfl, rfl, rfl, rfl, rfl, rfl, rfl, rfl, rfl, rfl, trivial⟩ ?_
            obtain ⟨y_21, hc101, hm84⟩ := bind_some hm84
            refine WO_call0 (.int .i64 y_21) rfl rfl St_closed rfl rfl rfl rfl St_closed ⟨31, #[], #[], rfl, callable_31, fun w hw => ⟨_, hw.sat, aggregate_between_walk hc101⟩⟩ ?_
            refine WO_pure tbok 2 [(0, .slice a_p0 p0.length c_p0), (1, .int .i64 p1), (2, .int .i64 p2), (6, .slice none 0 0), (7, .int .i64 0), (8, .slice none 0 0), (9, .int .i64 0), (12, .int .i64 y_6), (13, .slice a46 ((l_9).length) c48), (15, .slice a76 ((v_13).length) c77), (16, .int .i64 v_14), (17, .int .i64 s_16), (18, .int .i64 s_15), (43, .slice a41 (((y_4.take y_4.length).drop (1 : Int).toNat).length) c42), (44, .int .i64 (((y_4.take y_4.length).drop (1 : Int).toNat).length : Int)), (45, .int .i64 s_10), (56, .int .i64 ((v_13).length : Int)), (57, .int .i64 s_15), (82, .bool (decide ((w64 (v_18 + y_20)) < (w64 (v_19 + y_21)))))] rfl ⟨rfl, rfl, rfl, rfl, rfl, rfl, rfl, rfl, rfl, rfl, rfl, rfl, rfl, rfl, rfl, rfl, rfl, rfl, rfl, trivial⟩ ?_
            refine WO_tail ?_
            refine WO_end ?_
            obtain ⟨s_22, hx102, hm84⟩ := bind_some hm84
            refine WK_meet [(0, .slice a_p0 p0.length c_p0), (1, .int .i64 p1), (2, .int .i64 p2), (6, .slice none 0 0), (7, .int .i64 0), (8, .slice none 0 0), (9, .int .i64 0), (12, .int .i64 y_6), (13, .slice a46 ((l_9).length) c48), (15, .slice a76 ((v_13).length) c77), (16, .int .i64 v_14), (17, .int .i64 s_22), (43, .slice a41 (((y_4.take y_4.length).drop (1 : Int).toNat).length) c42), (44, .int .i64 (((y_4.take y_4.length).drop (1 : Int).toNat).length : Int)), (45, .int .i64 s_10), (56, .int .i64 ((v_13).length : Int)), (57, .int .i64 s_15)] (St w0 m m24 [L6, L14, L22, L45]) ?_ (fun hk103 => ?_)
            · refine WK_blk ?_
              refine WK_region ?_
              refine WO_pure tbok 2 [(0, .slice a_p0 p0.length c_p0), (1, .int .i64 p1), (2, .int .i64 p2), (6, .slice none 0 0), (7, .int .i64 0), (8, .slice none 0 0), (9, .int .i64 0), (12, .int .i64 y_6), (13, .slice a46 ((l_9).length) c48), (15, .slice a76 ((v_13).length) c77), (16, .int .i64 v_14), (17, .int .i64 s_22), (43, .slice a41 (((y_4.take y_4.length).drop (1 : Int).toNat).length) c42), (44, .int .i64 (((y_4.take y_4.length).drop (1 : Int).toNat).length : Int)), (45, .int .i64 s_10), (56, .int .i64 ((v_13).length : Int)), (57, .int .i64 (w64 (s_15 + 1)))] rfl ⟨rfl, rfl, rfl, rfl, rfl, rfl, rfl, rfl, rfl, rfl, rfl, rfl, rfl, rfl, rfl, rfl, rfl, trivial⟩ ?_
              refine WO_end ?_
              cases hm84
              refine WK.sub ?_ (WK.cls (fun _ h => h) (hn87 _ () rfl trivial))
              exact ⟨rfl, rfl, rfl, rfl, rfl, rfl, rfl, rfl, rfl, rfl, rfl, rfl, rfl, rfl, rfl, rfl, rfl, trivial⟩
            · refine WK_cond (b := decide ((w64 (v_18 + y_20)) < (w64 (v_19 + y_21)))) rfl (fun hb104 => ?_) (fun hb104 => ?_)
              · have hx102 := ifT hb104 hx102
                refine WK_region ?_
                refine WO_pure tbok 2 [(0, .slice a_p0 p0.length c_p0), (1, .int .i64 p1), (2, .int .i64 p2), (6, .slice none 0 0), (7, .int .i64 0), (8, .slice none 0 0), (9, .int .i64 0), (12, .int .i64 y_6), (13, .slice a46 ((l_9).length) c48), (15, .slice a76 ((v_13).length) c77), (16, .int .i64 v_14), (17, .int .i64 s_15), (43, .slice a41 (((y_4.take y_4.length).drop (1 : Int).toNat).length) c42), (44, .int .i64 (((y_4.take y_4.length).drop (1 : Int).toNat).length : Int)), (45, .int .i64 s_10), (56, .int .i64 ((v_13).length : Int)), (57, .int .i64 s_15)] rfl ⟨rfl, rfl, rfl, rfl, rfl, rfl, rfl, rfl, rfl, rfl, rfl, rfl, rfl, rfl, rfl, rfl, rfl, trivial⟩ ?_
                refine WO_end ?_
                cases hx102
                refine WK.sub ?_ (WK.cls (fun _ h => h) hk103)
                exact ⟨rfl, rfl, rfl, rfl, rfl, rfl, rfl, rfl, rfl, rfl, rfl, rfl, rfl, rfl, rfl, rfl, rfl, trivial⟩
              · have hx102 := ifF hb104 hx102
                refine WK_skip ?_
                cases hx102
                refine WK.sub ?_ (WK.cls (fun _ h => h) hk103)
                exact ⟨rfl, rfl, rfl, rfl, rfl, rfl, rfl, rfl, rfl, rfl, rfl, rfl, rfl, rfl, rfl, rfl, rfl, trivial⟩
          · have hm84 := ifF hb95 hm84
            refine WK_exit rfl ?_
            cases hm84
            refine WK.sub ?_ (WK.cls (fun _ h => h) (hk83 (s_16, ()) (hd88 _ rfl)))
            exact ⟨rfl, rfl, rfl, rfl, rfl, rfl, rfl, rfl, rfl, rfl, rfl, rfl, rfl, trivial⟩
      · have hm56 := ifF hb73 hm56
        refine WK_exit rfl ?_
        cases hm56
        refine WK.sub ?_ (WK.cls (fun _ h => h) (hk55 (l_9, (a46, _, c48, L45)) ⟨(hd60 _ rfl), hL45⟩))
        exact ⟨rfl, rfl, rfl, rfl, rfl, rfl, rfl, rfl, rfl, trivial⟩
theorem slices_Equal_sint_walk {m : Mu} {p0 : List Int} {p1 : List Int} {a_p0 : Option Addr} {q_p0 c_p0 : Nat} {a_p1 : Option Addr} {q_p1 c_p1 : Nat} (h_p0 : SlR (FE (I1 .i64)) 1 m (.slice a_p0 q_p0 c_p0) p0) (h_p1 : SlR (FE (I1 .i64)) 1 m (.slice a_p1 q_p1 c_p1) p1) {r : Bool} (hm : slices_Equal_sint p0 p1 = some r) :
    Go.E.Spec Tryd.prog 14 [.slice a_p0 q_p0 c_p0, .slice a_p1 q_p1 c_p1] m (fun v _ _ => v = .bool r) := by
  refine Spec_enter Tryd.func14 rfl rfl rfl (fun w0 => ?_)
  refine WK.sub (e' := [(0, .slice a_p0 q_p0 c_p0), (1, .slice a_p1 q_p1 c_p1)]) ⟨rfl, rfl, trivial⟩ ?_
  obtain rfl := SlR.qlen h_p0
  obtain rfl := SlR.qlen h_p1
  refine WK.sub (e' := [(0, .slice a_p0 p0.length c_p0), (1, .slice a_p1 p1.length c_p1)]) ⟨rfl, rfl, trivial⟩ ?_
  unfold slices_Equal_sint at hm
  refine WK_seq ?_
  refine WK_region ?_
  refine WO_pure tbok 1 [(0, .slice a_p0 p0.length c_p0), (1, .slice a_p1 p1.length c_p1), (4, .bool false)] rfl ⟨rfl, rfl, rfl, trivial⟩ ?_
  refine WO_end ?_
  refine WK_seq ?_
  refine WK_seq ?_
  refine WK_region ?_
  refine WO_pure tbok 5 [(0, .slice a_p0 p0.length c_p0), (1, .slice a_p1 p1.length c_p1), (4, .bool false), (10, .bool ((p0.length : Int) != (p1.length : Int)))] rfl ⟨rfl, rfl, rfl, rfl, trivial⟩ ?_
  refine WO_end ?_
  refine WK_cond (b := (p0.length : Int) != (p1.length : Int)) rfl (fun hb1 => ?_) (fun hb1 => ?_)
  · have hm := ifT hb1 hm
    refine WK_seq ?_
    refine WK_region ?_
    refine WO_pure tbok 1 [(0, .slice a_p0 p0.length c_p0), (1, .slice a_p1 p1.length c_p1), (4, .bool false)] rfl ⟨rfl, rfl, rfl, trivial⟩ ?_
    refine WO_end ?_
    cases hm
    exact WK_ret (ret_out (L := []) (RLc_tmp rfl RLc_nil) (List.nil_sublist _) rfl)
  · have hm := ifF hb1 hm
    refine WK_skip ?_
    refine WK_seq ?_
    refine WK_seq ?_
    refine WK_region ?_
    refine WO_pure tbok 3 [(0, .slice a_p0 p0.length c_p0), (1, .slice a_p1 p1.length c_p1), (4, .bool false), (12, .int .i64 (p0.length : Int)), (13, .int .i64 0)] rfl ⟨rfl, rfl, rfl, rfl, rfl, trivial⟩ ?_
    refine WO_end ?_
    obtain ⟨x2, hx3, hm⟩ := bind_some hm
    refine WK_join (β := Unit × Unit) (fun p => Sum.inr p.1 = x2) (fun p => [(4, .bool false)]) (fun p => St w0 m m []) ?_ (fun hk4 => ?_)
    · rintro ⟨⟨⟩, ⟨⟩⟩ hq10
      subst hq10
      refine WK.sub (e' := [(4, .bool false)]) ⟨rfl, trivial⟩ (WK.cls (C' := St w0 m m []) (fun _ h => h) ?_)
      refine WK_seq ?_
      refine WK_region ?_
      refine WO_pure tbok 1 [(4, .bool true)] rfl ⟨rfl, trivial⟩ ?_
      refine WO_end ?_
      cases hm
      exact WK_ret (ret_out (L := []) (RLc_tmp rfl RLc_nil) (List.nil_sublist _) rfl)
    · refine WK_block ?_
      refine WK_loop (S := Int) (G := Unit) (fun s => slices_Equal_sint_s1 p0 p1 s) (fun s g => [(0, .slice a_p0 p0.length c_p0), (1, .slice a_p1 p1.length c_p1), (4, .bool false), (12, .int .i64 (p0.length : Int)), (13, .int .i64 s)]) (fun s g => St w0 m m []) (fun s g => True) FUEL 0 () x2 hx3 trivial ⟨rfl, rfl, rfl, rfl, rfl, trivial⟩ (fun _ h => h) ?_
      rintro s_1 ⟨⟩ o6 fl7 hm5 - hn8 hd9
      have hm5 : slices_Equal_sint_s1 p0 p1 s_1 = some o6 := hm5
      unfold slices_Equal_sint_s1 at hm5
      refine WK.sub (e' := [(0, .slice a_p0 p0.length c_p0), (1, .slice a_p1 p1.length c_p1), (4, .bool false), (12, .int .i64 (p0.length : Int)), (13, .int .i64 s_1)]) ⟨rfl, rfl, rfl, rfl, rfl, trivial⟩ (WK.cls (C' := St w0 m m []) (fun _ h => h) ?_)
      refine WK_seq ?_
      refine WK_region ?_
      refine WO_pure tbok 1 [(0, .slice a_p0 p0.length c_p0), (1, .slice a_p1 p1.length c_p1), (4, .bool false), (12, .int .i64 (p0.length : Int)), (13, .int .i64 s_1), (14, .bool (decide (s_1 < (p0.length : Int))))] rfl ⟨rfl, rfl, rfl, rfl, rfl, rfl, trivial⟩ ?_
      refine WO_end ?_
      refine WK_seq ?_
      refine WK_cond (b := decide (s_1 < (p0.length : Int))) rfl (fun hb11 => ?_) (fun hb11 => ?_)
      · have hm5 := ifT hb11 hm5
        refine WK_skip ?_
        refine WK_seq ?_
        refine WK_block ?_
        refine WK_seq ?_
        refine WK_region ?_
        refine WO_pure tbok 2 [(0, .slice a_p0 p0.length c_p0), (1, .slice a_p1 p1.length c_p1), (4, .bool false), (5, .int .i64 s_1), (12, .int .i64 (p0.length : Int)), (13, .int .i64 s_1)] rfl ⟨rfl, rfl, rfl, rfl, rfl, rfl, trivial⟩ ?_
        refine WO_end ?_
        refine WK_seq ?_
        refine WK_draw 9 [0, 1, 2, 3, 4, 5, 6, 7, 8] follows_ok (by kernel_rfl) St_closed ?_
        refine WO_pure tbok 2 [(0, .slice a_p0 p0.length c_p0), (1, .slice a_p1 p1.length c_p1), (4, .bool false), (5, .int .i64 s_1), (12, .int .i64 (p0.length : Int)), (13, .int .i64 s_1), (16, .slice a_p0 p0.length c_p0), (17, .int .i64 s_1)] rfl ⟨rfl, rfl, rfl, rfl, rfl, rfl, rfl, rfl, trivial⟩ ?_
        obtain ⟨v_2, hy12, hm5⟩ := bind_some hm5
        obtain ⟨hc13, hy12⟩ := ix_some hy12
        refine WO_index tbok rfl rfl rfl rfl rfl rfl rfl rfl (SlR.addr h_p0) hc13 ?_
        refine WO_loadE tbok rfl rfl rfl rfl (fun _ h => St.sat h) h_p0 hy12 rfl ?_
        refine WO_pure tbok 2 [(0, .slice a_p0 p0.length c_p0), (1, .slice a_p1 p1.length c_p1), (4, .bool false), (12, .int .i64 (p0.length : Int)), (13, .int .i64 s_1), (19, .int .i64 v_2), (20, .slice a_p1 p1.length c_p1), (21, .int .i64 s_1)] rfl ⟨rfl, rfl, rfl, rfl, rfl, rfl, rfl, rfl, trivial⟩ ?_
        obtain ⟨v_3, hy14, hm5⟩ := bind_some hm5
        obtain ⟨hc15, hy14⟩ := ix_some hy14
        refine WO_index tbok rfl rfl rfl rfl rfl rfl rfl rfl (SlR.addr h_p1) hc15 ?_
        refine WO_loadE tbok rfl rfl rfl rfl (fun _ h => St.sat h) h_p1 hy14 rfl ?_
        refine WO_pure tbok 1 [(0, .slice a_p0 p0.length c_p0), (1, .slice a_p1 p1.length c_p1), (4, .bool false), (12, .int .i64 (p0.length : Int)), (13, .int .i64 s_1), (24, .bool (v_2 != v_3))] rfl ⟨rfl, rfl, rfl, rfl, rfl, rfl, trivial⟩ ?_
        refine WO_tail ?_
        refine WO_end ?_
        refine WK_cond (b := v_2 != v_3) rfl (fun hb16 => ?_) (fun hb16 => ?_)
        · have hm5 := ifT hb16 hm5
          refine WK_seq ?_
          refine WK_region ?_
          refine WO_pure tbok 1 [(0, .slice a_p0 p0.length c_p0), (1, .slice a_p1 p1.length c_p1), (4, .bool false), (12, .int .i64 (p0.length : Int)), (13, .int .i64 s_1)] rfl ⟨rfl, rfl, rfl, rfl, rfl, trivial⟩ ?_
          refine WO_end ?_
          cases hm5
          have hq := hd9 _ rfl
          subst hq
          have hm : some _ = some _ := hm
          cases hm
          exact WK_ret (ret_out (L := []) (RLc_tmp rfl RLc_nil) (List.nil_sublist _) rfl)
        · have hm5 := ifF hb16 hm5
          refine WK_skip ?_
          refine WK_blk ?_
          refine WK_region ?_
          refine WO_pure tbok 2 [(0, .slice a_p0 p0.length c_p0), (1, .slice a_p1 p1.length c_p1), (4, .bool false), (12, .int .i64 (p0.length : Int)), (13, .int .i64 (w64 (s_1 + 1)))] rfl ⟨rfl, rfl, rfl, rfl, rfl, trivial⟩ ?_
          refine WO_end ?_
          cases hm5
          refine WK.sub ?_ (WK.cls (fun _ h => h) (hn8 _ () rfl trivial))
          exact ⟨rfl, rfl, rfl, rfl, rfl, trivial⟩
      · have hm5 := ifF hb11 hm5
        refine WK_exit rfl ?_
        cases hm5
        refine WK.sub ?_ (WK.cls (fun _ h => h) (hk4 ((), ()) (hd9 _ rfl)))
        exact ⟨rfl, trivial⟩
theorem slices_IndexFunc_ssint_walk {m : Mu} {p0 : List (List Int)} {p1 : List Int → Option Bool} {a_p0 : Option Addr} {q_p0 c_p0 : Nat} {p1v : Value} (h_p0 : SlR (RowE (FE (I1 .i64)) 1) 1 m (.slice a_p0 q_p0 c_p0) p0) (hp1 : ∀ (m1 : Mu), Le m m1 → ∀ (au1 : Option Addr) (qu1 cu1 : Nat) (u1 : List Int), SlR (FE (I1 .i64)) 1 m1 (.slice au1 qu1 cu1) u1 → ∀ (r : Bool), p1 u1 = some r → SpecV Tryd.prog p1v [.slice au1 qu1 cu1] m1 (fun v _ _ => v = .bool r)) {r : Int} (hm : slices_IndexFunc_ssint p0 p1 = some r) :
    Go.E.Spec Tryd.prog 43 [.slice a_p0 q_p0 c_p0, p1v] m (fun v _ _ => v = .int .i64 r) := by
  refine Spec_enter Tryd.func43 rfl rfl rfl (fun w0 => ?_)
  refine WK.sub (e' := [(0, .slice a_p0 q_p0 c_p0), (1, p1v)]) ⟨rfl, rfl, trivial⟩ ?_
  obtain rfl := SlR.qlen h_p0
  refine WK.sub (e' := [(0, .slice a_p0 p0.length c_p0), (1, p1v)]) ⟨rfl, rfl, trivial⟩ ?_
  unfold slices_IndexFunc_ssint at hm
  refine WK_seq ?_
  refine WK_region ?_
  refine WO_pure tbok 1 [(0, .slice a_p0 p0.length c_p0), (1, p1v), (4, .int .i64 0)] rfl ⟨rfl, rfl, rfl, trivial⟩ ?_
  refine WO_end ?_
  refine WK_seq ?_
  refine WK_seq ?_
  refine WK_region ?_
  refine WO_pure tbok 3 [(0, .slice a_p0 p0.length c_p0), (1, p1v), (4, .int .i64 0), (7, .int .i64 (p0.length : Int)), (8, .int .i64 0)] rfl ⟨rfl, rfl, rfl, rfl, rfl, trivial⟩ ?_
  refine WO_end ?_
  obtain ⟨x1, hx2, hm⟩ := bind_some hm
  refine WK_join (β := Unit × Unit) (fun p => Sum.inr p.1 = x1) (fun p => [(4, .int .i64 0)]) (fun p => St w0 m m []) ?_ (fun hk3 => ?_)
  · rintro ⟨⟨⟩, ⟨⟩⟩ hq9
    subst hq9
    refine WK.sub (e' := [(4, .int .i64 0)]) ⟨rfl, trivial⟩ (WK.cls (C' := St w0 m m []) (fun _ h => h) ?_)
    refine WK_seq ?_
    refine WK_region ?_
    refine WO_pure tbok 1 [(4, .int .i64 (-1))] rfl ⟨rfl, trivial⟩ ?_
    refine WO_end ?_
    cases hm
    exact WK_ret (ret_out (L := []) (RLc_tmp rfl RLc_nil) (List.nil_sublist _) rfl)
  · refine WK_block ?_
    refine WK_loop (S := Int) (G := Unit) (fun s => slices_IndexFunc_ssint_s1 p0 p1 s) (fun s g => [(0, .slice a_p0 p0.length c_p0), (1, p1v), (4, .int .i64 0), (7, .int .i64 (p0.length : Int)), (8, .int .i64 s)]) (fun s g => St w0 m m []) (fun s g => True) FUEL 0 () x1 hx2 trivial ⟨rfl, rfl, rfl, rfl, rfl, trivial⟩ (fun _ h => h) ?_
    rintro s_1 ⟨⟩ o5 fl6 hm4 - hn7 hd8
    have hm4 : slices_IndexFunc_ssint_s1 p0 p1 s_1 = some o5 := hm4
    unfold slices_IndexFunc_ssint_s1 at hm4
    refine WK.sub (e' := [(0, .slice a_p0 p0.length c_p0), (1, p1v), (4, .int .i64 0), (7, .int .i64 (p0.length : Int)), (8, .int .i64 s_1)]) ⟨rfl, rfl, rfl, rfl, rfl, trivial⟩ (WK.cls (C' := St w0 m m []) (fun _ h => h) ?_)
    refine WK_seq ?_
    refine WK_region ?_
    refine WO_pure tbok 1 [(0, .slice a_p0 p0.length c_p0), (1, p1v), (4, .int .i64 0), (7, .int .i64 (p0.length : Int)), (8, .int .i64 s_1), (9, .bool (decide (s_1 < (p0.length : Int))))] rfl ⟨rfl, rfl, rfl, rfl, rfl, rfl, trivial⟩ ?_
    refine WO_end ?_
    refine WK_seq ?_
    refine WK_cond (b := decide (s_1 < (p0.length : Int))) rfl (fun hb10 => ?_) (fun hb10 => ?_)
    · have hm4 := ifT hb10 hm4
      refine WK_skip ?_
      refine WK_seq ?_
      refine WK_block ?_
      refine WK_seq ?_
      refine WK_region ?_
      refine WO_pure tbok 2 [(0, .slice a_p0 p0.length c_p0), (1, p1v), (4, .int .i64 0), (5, .int .i64 s_1), (7, .int .i64 (p0.length : Int)), (8, .int .i64 s_1)] rfl ⟨rfl, rfl, rfl, rfl, rfl, rfl, trivial⟩ ?_
      refine WO_end ?_
      refine WK_seq ?_
      refine WK_region ?_
      refine WO_pure tbok 3 [(0, .slice a_p0 p0.length c_p0), (1, p1v), (4, .int .i64 0), (5, .int .i64 s_1), (7, .int .i64 (p0.length : Int)), (8, .int .i64 s_1), (11, p1v), (12, .slice a_p0 p0.length c_p0), (13, .int .i64 s_1)] rfl ⟨rfl, rfl, rfl, rfl, rfl, rfl, rfl, rfl, rfl, trivial⟩ ?_
      obtain ⟨v_2, hy11, hm4⟩ := bind_some hm4
      obtain ⟨hc12, hy11⟩ := ix_some hy11
      refine WO_index tbok rfl rfl rfl rfl rfl rfl rfl rfl (SlR.addr h_p0) hc12 ?_
      refine WO_loadR tbok rfl rfl rfl rfl (fun _ h => St.sat h) h_p0 hy11 rfl rfl (fun a13 c14 h15 => ?_)
      obtain ⟨y_3, hc16, hm4⟩ := bind_some hm4
      obtain ⟨f0, first0, cap0, hf0, hcal0, hsp0⟩ := hp1 _ (Le.refl _) _ _ _ v_2 h15 _ hc16
      refine WO_call0 (.bool y_3) rfl rfl trivial rfl rfl rfl rfl St_closed ⟨f0, first0, cap0, hf0, hcal0, fun w hw => ⟨m, hw.sat, hsp0⟩⟩ ?_
      refine WO_end ?_
      refine WK_cond (b := y_3) rfl (fun hb17 => ?_) (fun hb17 => ?_)
      · have hm4 := ifT hb17 hm4
        refine WK_seq ?_
        refine WK_region ?_
        refine WO_pure tbok 2 [(0, .slice a_p0 p0.length c_p0), (1, p1v), (4, .int .i64 s_1), (7, .int .i64 (p0.length : Int)), (8, .int .i64 s_1)] rfl ⟨rfl, rfl, rfl, rfl, rfl, trivial⟩ ?_
        refine WO_end ?_
        cases hm4
        have hq := hd8 _ rfl
        subst hq
        have hm : some _ = some _ := hm
        cases hm
        exact WK_ret (ret_out (L := []) (RLc_tmp rfl RLc_nil) (List.nil_sublist _) rfl)
      · have hm4 := ifF hb17 hm4
        refine WK_skip ?_
        refine WK_blk ?_
        refine WK_region ?_
        refine WO_pure tbok 2 [(0, .slice a_p0 p0.length c_p0), (1, p1v), (4, .int .i64 0), (7, .int .i64 (p0.length : Int)), (8, .int .i64 (w64 (s_1 + 1)))] rfl ⟨rfl, rfl, rfl, rfl, rfl, trivial⟩ ?_
        refine WO_end ?_
        cases hm4
        refine WK.sub ?_ (WK.cls (fun _ h => h) (hn7 _ () rfl trivial))
        exact ⟨rfl, rfl, rfl, rfl, rfl, trivial⟩
    · have hm4 := ifF hb10 hm4
      refine WK_exit rfl ?_
      cases hm4
      refine WK.sub ?_ (WK.cls (fun _ h => h) (hk3 ((), ()) (hd8 _ rfl)))
      exact ⟨rfl, trivial⟩
theorem slices_ContainsFunc_ssint_walk {m : Mu} {p0 : List (List Int)} {p1 : List Int → Option Bool} {a_p0 : Option Addr} {q_p0 c_p0 : Nat} {p1v : Value} (h_p0 : SlR (RowE (FE (I1 .i64)) 1) 1 m (.slice a_p0 q_p0 c_p0) p0) (hp1 : ∀ (m1 : Mu), Le m m1 → ∀ (au1 : Option Addr) (qu1 cu1 : Nat) (u1 : List Int), SlR (FE (I1 .i64)) 1 m1 (.slice au1 qu1 cu1) u1 → ∀ (r : Bool), p1 u1 = some r → SpecV Tryd.prog p1v [.slice au1 qu1 cu1] m1 (fun v _ _ => v = .bool r)) {r : Bool} (hm : slices_ContainsFunc_ssint p0 p1 = some r) :
    Go.E.Spec Tryd.prog 32 [.slice a_p0 q_p0 c_p0, p1v] m (fun v _ _ => v = .bool r) := by
  refine Spec_enter Tryd.func32 rfl rfl rfl (fun w0 => ?_)
  refine WK.sub (e' := [(0, .slice a_p0 q_p0 c_p0), (1, p1v)]) ⟨rfl, rfl, trivial⟩ ?_
  obtain rfl := SlR.qlen h_p0
  refine WK.sub (e' := [(0, .slice a_p0 p0.length c_p0), (1, p1v)]) ⟨rfl, rfl, trivial⟩ ?_
  unfold slices_ContainsFunc_ssint at hm
  refine WK_seq ?_
  refine WK_region ?_
  refine WO_pure tbok 1 [(0, .slice a_p0 p0.length c_p0), (1, p1v), (4, .bool false)] rfl ⟨rfl, rfl, rfl, trivial⟩ ?_
  refine WO_end ?_
  refine WK_seq ?_
  refine WK_region ?_
  refine WO_pure tbok 2 [(4, .bool false), (5, .slice a_p0 p0.length c_p0), (6, p1v)] rfl ⟨rfl, rfl, rfl, trivial⟩ ?_
  obtain ⟨y_1, hc1, hm⟩ := bind_some hm
  refine WO_call0 (.int .i64 y_1) rfl rfl trivial rfl rfl rfl rfl St_closed ⟨43, #[], #[], rfl, callable_43, fun w hw => ⟨_, hw.sat, slices_IndexFunc_ssint_walk h_p0 hp1 hc1⟩⟩ ?_
  refine WO_pure tbok 2 [(4, .bool (decide (0 ≤ y_1)))] rfl ⟨rfl, trivial⟩ ?_
  refine WO_end ?_
  cases hm
  exact WK_ret (ret_out (L := []) (RLc_tmp rfl RLc_nil) (List.nil_sublist _) rfl)
theorem aggregate_Prove_c1_walk {m : Mu} {p0 : List Int} {q0_0 : List (List Int)} {a_p0 : Option Addr} {q_p0 c_p0 : Nat} {a_q0_0 : Option Addr} {q_q0_0 c_q0_0 : Nat} {b_q0 : Nat} (h_p0 : SlR (FE (I1 .i64)) 1 m (.slice a_p0 q_p0 c_p0) p0) (hb_q0 : m b_q0 = some (Ent.obj ⟨b_q0, 37, [.slice a_q0_0 q_q0_0 c_q0_0]⟩)) (h_q0_0 : SlR (RowE (FE (I1 .i64)) 1) 1 m (.slice a_q0_0 q_q0_0 c_q0_0) q0_0) {r : Bool} (hm : aggregate_Prove_c1 p0 q0_0 = some r) :
    Go.E.Spec Tryd.prog 33 [.slice a_p0 q_p0 c_p0, .pointer (some ⟨b_q0, 0, none⟩)] m (fun v _ _ => v = .bool r) := by
  refine Spec_enter Tryd.func33 rfl rfl rfl (fun w0 => ?_)
  refine WK.sub (e' := [(0, .slice a_p0 q_p0 c_p0), (1, .pointer (some ⟨b_q0, 0, none⟩))]) ⟨rfl, rfl, trivial⟩ ?_
  obtain rfl := SlR.qlen h_p0
  obtain rfl := SlR.qlen h_q0_0
  refine WK.sub (e' := [(0, .slice a_p0 p0.length c_p0), (1, .pointer (some ⟨b_q0, 0, none⟩))]) ⟨rfl, rfl, trivial⟩ ?_
  unfold aggregate_Prove_c1 at hm
  refine WK_seq ?_
  refine WK_region ?_
  refine WO_pure tbok 1 [(0, .slice a_p0 p0.length c_p0), (1, .pointer (some ⟨b_q0, 0, none⟩)), (3, .bool false)] rfl ⟨rfl, rfl, rfl, trivial⟩ ?_
  refine WO_end ?_
  refine WK_seq ?_
  refine WK_region ?_
  refine WO_pure tbok 2 [(1, .pointer (some ⟨b_q0, 0, none⟩)), (3, .bool false), (5, .int .i64 (p0.length : Int))] rfl ⟨rfl, rfl, rfl, trivial⟩ ?_
  refine WO_loadM tbok rfl rfl rfl rfl (fun _ h => St.sat h) hb_q0 rfl ?_
  obtain ⟨v_1, hy1, hm⟩ := bind_some hm
  obtain ⟨hc2, hy1⟩ := ix_some hy1
  refine WO_index tbok rfl rfl rfl rfl rfl rfl rfl rfl (SlR.addr h_q0_0) hc2 ?_
  refine WO_loadR tbok rfl rfl rfl rfl (fun _ h => St.sat h) h_q0_0 hy1 rfl rfl (fun a3 c4 h5 => ?_)
  refine WO_pure tbok 3 [(3, .bool ((p0.length : Int) != ((v_1).length : Int)))] rfl ⟨rfl, trivial⟩ ?_
  refine WO_end ?_
  cases hm
  exact WK_ret (ret_out (L := []) (RLc_tmp rfl RLc_nil) (List.nil_sublist _) rfl)
end Go.Proofs.YtgakaghdiodakaaDoor
