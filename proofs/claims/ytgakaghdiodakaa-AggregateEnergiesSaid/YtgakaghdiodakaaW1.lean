import Derived.Test.YtgakaghdiodakaaTab
import Derived.Test.YtgakaghdiodakaaM
set_option linter.unusedVariables false
set_option maxRecDepth 100000
set_option maxHeartbeats 4000000
namespace Go.Proofs.Ytgakaghdiodakaa
open Go.E Go.RowKit
attribute [local irreducible] Go.E.WO Go.E.WK
theorem slices_Min_sint_walk {m : Mu} {p0 : List Int} {a_p0 : Option Addr} {q_p0 c_p0 : Nat} (h_p0 : SlR (FE (I1 .i64)) 1 m (.slice a_p0 q_p0 c_p0) p0) {r : Int} (hm : slices_Min_sint p0 = some r) :
    Go.E.Spec Try.prog 34 [.slice a_p0 q_p0 c_p0] m (fun v _ _ => v = .int .i64 r) := by
  refine Spec_enter Try.func34 rfl rfl rfl (fun w0 => ?_)
  refine WK.sub (e' := [(0, .slice a_p0 q_p0 c_p0)]) ⟨rfl, trivial⟩ ?_
  obtain rfl := SlR.qlen h_p0
  refine WK.sub (e' := [(0, .slice a_p0 p0.length c_p0)]) ⟨rfl, trivial⟩ ?_
  unfold slices_Min_sint at hm
  refine WK_seq ?_
  refine WK_region ?_
  refine WO_pure tbok 1 [(0, .slice a_p0 p0.length c_p0), (2, .int .i64 0)] rfl ⟨rfl, rfl, trivial⟩ ?_
  refine WO_end ?_
  refine WK_seq ?_
  refine WK_seq ?_
  refine WK_region ?_
  refine WO_pure tbok 3 [(0, .slice a_p0 p0.length c_p0), (2, .int .i64 0), (7, .bool (decide ((p0.length : Int) < 1)))] rfl ⟨rfl, rfl, rfl, trivial⟩ ?_
  refine WO_end ?_
  refine WK_cond (b := decide ((p0.length : Int) < 1)) rfl (fun hb2 => ?_) (fun hb2 => ?_)
  · have hm := ifT hb2 hm
    refine WK_region ?_
    cases hm
  · have hm := ifF hb2 hm
    refine WK_skip ?_
    refine WK_seq ?_
    refine WK_region ?_
    refine WO_pure tbok 1 [(0, .slice a_p0 p0.length c_p0), (2, .int .i64 0), (9, .slice a_p0 p0.length c_p0)] rfl ⟨rfl, rfl, rfl, trivial⟩ ?_
    obtain ⟨v_1, hy3, hm⟩ := bind_some hm
    obtain ⟨hc4, hy3⟩ := ix_some hy3
    refine WO_index tbok rfl rfl rfl rfl rfl rfl rfl rfl (SlR.addr h_p0) hc4 ?_
    refine WO_loadE tbok rfl rfl rfl rfl (fun _ h => St.sat h) h_p0 hy3 rfl ?_
    refine WO_pure tbok 1 [(0, .slice a_p0 p0.length c_p0), (2, .int .i64 0), (3, .int .i64 v_1)] rfl ⟨rfl, rfl, rfl, trivial⟩ ?_
    refine WO_end ?_
    refine WK_seq ?_
    refine WK_seq ?_
    refine WK_region ?_
    refine WO_pure tbok 1 [(0, .slice a_p0 p0.length c_p0), (2, .int .i64 0), (3, .int .i64 v_1), (4, .int .i64 1)] rfl ⟨rfl, rfl, rfl, rfl, trivial⟩ ?_
    refine WO_end ?_
    obtain ⟨x5, hx6, hm⟩ := bind_some hm
    refine WK_join (β := Int × Unit) (fun p => p.1 = x5) (fun p => [(2, .int .i64 0), (3, .int .i64 p.1)]) (fun p => St w0 m m []) ?_ (fun hk7 => ?_)
    · rintro ⟨s_4, ⟨⟩⟩ hq13
      subst hq13
      refine WK.sub (e' := [(2, .int .i64 0), (3, .int .i64 s_4)]) ⟨rfl, rfl, trivial⟩ (WK.cls (C' := St w0 m m []) (fun _ h => h) ?_)
      refine WK_seq ?_
      refine WK_region ?_
      refine WO_pure tbok 2 [(2, .int .i64 s_4)] rfl ⟨rfl, trivial⟩ ?_
      refine WO_end ?_
      cases hm
      exact WK_ret (ret_out (L := []) (RLc_tmp rfl RLc_nil) (List.nil_sublist _) rfl)
    · refine WK_block ?_
      refine WK_loop (S := Int × Int) (G := Unit) (fun s => slices_Min_sint_s1 p0 s.1 s.2) (fun s g => [(0, .slice a_p0 p0.length c_p0), (2, .int .i64 0), (3, .int .i64 s.1), (4, .int .i64 s.2)]) (fun s g => St w0 m m []) (fun s g => True) FUEL (v_1, 1) () x5 hx6 trivial ⟨rfl, rfl, rfl, rfl, trivial⟩ (fun _ h => h) ?_
      rintro ⟨s_2, s_3⟩ ⟨⟩ o9 fl10 hm8 - hn11 hd12
      have hm8 : slices_Min_sint_s1 p0 s_2 s_3 = some o9 := hm8
      unfold slices_Min_sint_s1 at hm8
      refine WK.sub (e' := [(0, .slice a_p0 p0.length c_p0), (2, .int .i64 0), (3, .int .i64 s_2), (4, .int .i64 s_3)]) ⟨rfl, rfl, rfl, rfl, trivial⟩ (WK.cls (C' := St w0 m m []) (fun _ h => h) ?_)
      refine WK_seq ?_
      refine WK_seq ?_
      refine WK_region ?_
      refine WO_pure tbok 4 [(0, .slice a_p0 p0.length c_p0), (2, .int .i64 0), (3, .int .i64 s_2), (4, .int .i64 s_3), (15, .bool (decide (s_3 < (p0.length : Int))))] rfl ⟨rfl, rfl, rfl, rfl, rfl, trivial⟩ ?_
      refine WO_end ?_
      refine WK_cond (b := decide (s_3 < (p0.length : Int))) rfl (fun hb14 => ?_) (fun hb14 => ?_)
      · have hm8 := ifT hb14 hm8
        refine WK_skip ?_
        refine WK_seq ?_
        refine WK_block ?_
        refine WK_region ?_
        refine WO_pure tbok 3 [(0, .slice a_p0 p0.length c_p0), (2, .int .i64 0), (3, .int .i64 s_2), (4, .int .i64 s_3), (18, .int .i64 s_2), (19, .slice a_p0 p0.length c_p0), (20, .int .i64 s_3)] rfl ⟨rfl, rfl, rfl, rfl, rfl, rfl, rfl, trivial⟩ ?_
        obtain ⟨v_5, hy15, hm8⟩ := bind_some hm8
        obtain ⟨hc16, hy15⟩ := ix_some hy15
        refine WO_index tbok rfl rfl rfl rfl rfl rfl rfl rfl (SlR.addr h_p0) hc16 ?_
        refine WO_loadE tbok rfl rfl rfl rfl (fun _ h => St.sat h) h_p0 hy15 rfl ?_
        refine WO_pure tbok 2 [(0, .slice a_p0 p0.length c_p0), (2, .int .i64 0), (3, .int .i64 (if v_5 < s_2 then v_5 else s_2)), (4, .int .i64 s_3)] rfl ⟨rfl, rfl, rfl, rfl, trivial⟩ ?_
        refine WO_end ?_
        refine WK_blk ?_
        refine WK_region ?_
        refine WO_pure tbok 3 [(0, .slice a_p0 p0.length c_p0), (2, .int .i64 0), (3, .int .i64 (if v_5 < s_2 then v_5 else s_2)), (4, .int .i64 (w64 (s_3 + 1)))] rfl ⟨rfl, rfl, rfl, rfl, trivial⟩ ?_
        refine WO_end ?_
        cases hm8
        refine WK.sub ?_ (WK.cls (fun _ h => h) (hn11 _ () rfl trivial))
        exact ⟨rfl, rfl, rfl, rfl, trivial⟩
      · have hm8 := ifF hb14 hm8
        refine WK_exit rfl ?_
        cases hm8
        refine WK.sub ?_ (WK.cls (fun _ h => h) (hk7 (s_2, ()) (hd12 _ rfl)))
        exact ⟨rfl, rfl, trivial⟩
theorem slices_Max_sint_walk {m : Mu} {p0 : List Int} {a_p0 : Option Addr} {q_p0 c_p0 : Nat} (h_p0 : SlR (FE (I1 .i64)) 1 m (.slice a_p0 q_p0 c_p0) p0) {r : Int} (hm : slices_Max_sint p0 = some r) :
    Go.E.Spec Try.prog 41 [.slice a_p0 q_p0 c_p0] m (fun v _ _ => v = .int .i64 r) := by
  refine Spec_enter Try.func41 rfl rfl rfl (fun w0 => ?_)
  refine WK.sub (e' := [(0, .slice a_p0 q_p0 c_p0)]) ⟨rfl, trivial⟩ ?_
  obtain rfl := SlR.qlen h_p0
  refine WK.sub (e' := [(0, .slice a_p0 p0.length c_p0)]) ⟨rfl, trivial⟩ ?_
  unfold slices_Max_sint at hm
  refine WK_seq ?_
  refine WK_region ?_
  refine WO_pure tbok 1 [(0, .slice a_p0 p0.length c_p0), (2, .int .i64 0)] rfl ⟨rfl, rfl, trivial⟩ ?_
  refine WO_end ?_
  refine WK_seq ?_
  refine WK_seq ?_
  refine WK_region ?_
  refine WO_pure tbok 3 [(0, .slice a_p0 p0.length c_p0), (2, .int .i64 0), (7, .bool (decide ((p0.length : Int) < 1)))] rfl ⟨rfl, rfl, rfl, trivial⟩ ?_
  refine WO_end ?_
  refine WK_cond (b := decide ((p0.length : Int) < 1)) rfl (fun hb2 => ?_) (fun hb2 => ?_)
  · have hm := ifT hb2 hm
    refine WK_region ?_
    cases hm
  · have hm := ifF hb2 hm
    refine WK_skip ?_
    refine WK_seq ?_
    refine WK_region ?_
    refine WO_pure tbok 1 [(0, .slice a_p0 p0.length c_p0), (2, .int .i64 0), (9, .slice a_p0 p0.length c_p0)] rfl ⟨rfl, rfl, rfl, trivial⟩ ?_
    obtain ⟨v_1, hy3, hm⟩ := bind_some hm
    obtain ⟨hc4, hy3⟩ := ix_some hy3
    refine WO_index tbok rfl rfl rfl rfl rfl rfl rfl rfl (SlR.addr h_p0) hc4 ?_
    refine WO_loadE tbok rfl rfl rfl rfl (fun _ h => St.sat h) h_p0 hy3 rfl ?_
    refine WO_pure tbok 1 [(0, .slice a_p0 p0.length c_p0), (2, .int .i64 0), (3, .int .i64 v_1)] rfl ⟨rfl, rfl, rfl, trivial⟩ ?_
    refine WO_end ?_
    refine WK_seq ?_
    refine WK_seq ?_
    refine WK_region ?_
    refine WO_pure tbok 1 [(0, .slice a_p0 p0.length c_p0), (2, .int .i64 0), (3, .int .i64 v_1), (4, .int .i64 1)] rfl ⟨rfl, rfl, rfl, rfl, trivial⟩ ?_
    refine WO_end ?_
    obtain ⟨x5, hx6, hm⟩ := bind_some hm
    refine WK_join (β := Int × Unit) (fun p => p.1 = x5) (fun p => [(2, .int .i64 0), (3, .int .i64 p.1)]) (fun p => St w0 m m []) ?_ (fun hk7 => ?_)
    · rintro ⟨s_4, ⟨⟩⟩ hq13
      subst hq13
      refine WK.sub (e' := [(2, .int .i64 0), (3, .int .i64 s_4)]) ⟨rfl, rfl, trivial⟩ (WK.cls (C' := St w0 m m []) (fun _ h => h) ?_)
      refine WK_seq ?_
      refine WK_region ?_
      refine WO_pure tbok 2 [(2, .int .i64 s_4)] rfl ⟨rfl, trivial⟩ ?_
      refine WO_end ?_
      cases hm
      exact WK_ret (ret_out (L := []) (RLc_tmp rfl RLc_nil) (List.nil_sublist _) rfl)
    · refine WK_block ?_
      refine WK_loop (S := Int × Int) (G := Unit) (fun s => slices_Max_sint_s1 p0 s.1 s.2) (fun s g => [(0, .slice a_p0 p0.length c_p0), (2, .int .i64 0), (3, .int .i64 s.1), (4, .int .i64 s.2)]) (fun s g => St w0 m m []) (fun s g => True) FUEL (v_1, 1) () x5 hx6 trivial ⟨rfl, rfl, rfl, rfl, trivial⟩ (fun _ h => h) ?_
      rintro ⟨s_2, s_3⟩ ⟨⟩ o9 fl10 hm8 - hn11 hd12
      have hm8 : slices_Max_sint_s1 p0 s_2 s_3 = some o9 := hm8
      unfold slices_Max_sint_s1 at hm8
      refine WK.sub (e' := [(0, .slice a_p0 p0.length c_p0), (2, .int .i64 0), (3, .int .i64 s_2), (4, .int .i64 s_3)]) ⟨rfl, rfl, rfl, rfl, trivial⟩ (WK.cls (C' := St w0 m m []) (fun _ h => h) ?_)
      refine WK_seq ?_
      refine WK_seq ?_
      refine WK_region ?_
      refine WO_pure tbok 4 [(0, .slice a_p0 p0.length c_p0), (2, .int .i64 0), (3, .int .i64 s_2), (4, .int .i64 s_3), (15, .bool (decide (s_3 < (p0.length : Int))))] rfl ⟨rfl, rfl, rfl, rfl, rfl, trivial⟩ ?_
      refine WO_end ?_
      refine WK_cond (b := decide (s_3 < (p0.length : Int))) rfl (fun hb14 => ?_) (fun hb14 => ?_)
      · have hm8 := ifT hb14 hm8
        refine WK_skip ?_
        refine WK_seq ?_
        refine WK_block ?_
        refine WK_region ?_
        refine WO_pure tbok 3 [(0, .slice a_p0 p0.length c_p0), (2, .int .i64 0), (3, .int .i64 s_2), (4, .int .i64 s_3), (18, .int .i64 s_2), (19, .slice a_p0 p0.length c_p0), (20, .int .i64 s_3)] rfl ⟨rfl, rfl, rfl, rfl, rfl, rfl, rfl, trivial⟩ ?_
        obtain ⟨v_5, hy15, hm8⟩ := bind_some hm8
        obtain ⟨hc16, hy15⟩ := ix_some hy15
        refine WO_index tbok rfl rfl rfl rfl rfl rfl rfl rfl (SlR.addr h_p0) hc16 ?_
        refine WO_loadE tbok rfl rfl rfl rfl (fun _ h => St.sat h) h_p0 hy15 rfl ?_
        refine WO_pure tbok 2 [(0, .slice a_p0 p0.length c_p0), (2, .int .i64 0), (3, .int .i64 (if s_2 < v_5 then v_5 else s_2)), (4, .int .i64 s_3)] rfl ⟨rfl, rfl, rfl, rfl, trivial⟩ ?_
        refine WO_end ?_
        refine WK_blk ?_
        refine WK_region ?_
        refine WO_pure tbok 3 [(0, .slice a_p0 p0.length c_p0), (2, .int .i64 0), (3, .int .i64 (if s_2 < v_5 then v_5 else s_2)), (4, .int .i64 (w64 (s_3 + 1)))] rfl ⟨rfl, rfl, rfl, rfl, trivial⟩ ?_
        refine WO_end ?_
        cases hm8
        refine WK.sub ?_ (WK.cls (fun _ h => h) (hn11 _ () rfl trivial))
        exact ⟨rfl, rfl, rfl, rfl, trivial⟩
      · have hm8 := ifF hb14 hm8
        refine WK_exit rfl ?_
        cases hm8
        refine WK.sub ?_ (WK.cls (fun _ h => h) (hk7 (s_2, ()) (hd12 _ rfl)))
        exact ⟨rfl, rfl, trivial⟩
theorem aggregate_Check_walk {m : Mu} {p0 : List (List Int)} {a_p0 : Option Addr} {q_p0 c_p0 : Nat} (h_p0 : SlR (RowE (FE (I1 .i64)) 1) 1 m (.slice a_p0 q_p0 c_p0) p0) {r : Int} (hm : aggregate_Check p0 = some r) :
    Go.E.Spec Try.prog 20 [.slice a_p0 q_p0 c_p0] m (fun v _ _ => v = .int .i64 r) := by
  refine Spec_enter Try.func20 rfl rfl rfl (fun w0 => ?_)
  refine WK.sub (e' := [(0, .slice a_p0 q_p0 c_p0)]) ⟨rfl, trivial⟩ ?_
  obtain rfl := SlR.qlen h_p0
  refine WK.sub (e' := [(0, .slice a_p0 p0.length c_p0)]) ⟨rfl, trivial⟩ ?_
  unfold aggregate_Check at hm
  refine WK_seq ?_
  refine WK_region ?_
  refine WO_pure tbok 1 [(0, .slice a_p0 p0.length c_p0), (2, .int .i64 0)] rfl ⟨rfl, rfl, trivial⟩ ?_
  refine WO_end ?_
  refine WK_seq ?_
  refine WK_seq ?_
  obtain ⟨s_1, hx2, hm⟩ := bind_some hm
  refine WK_meet [(0, .slice a_p0 p0.length c_p0), (2, .int .i64 0), (26, .bool s_1)] (St w0 m m []) ?_ (fun hk3 => ?_)
  · refine WK_cond (b := s_1) rfl (fun hb4 => ?_) (fun hb4 => ?_)
    · have hm := ifT hb4 hm
      refine WK_seq ?_
      refine WK_region ?_
      refine WO_pure tbok 1 [(0, .slice a_p0 p0.length c_p0), (2, .int .i64 1)] rfl ⟨rfl, rfl, trivial⟩ ?_
      refine WO_end ?_
      cases hm
      exact WK_ret (ret_out (L := []) (RLc_tmp rfl RLc_nil) (List.nil_sublist _) rfl)
    · have hm := ifF hb4 hm
      refine WK_skip ?_
      refine WK_seq ?_
      refine WK_seq ?_
      refine WK_region ?_
      refine WO_pure tbok 3 [(0, .slice a_p0 p0.length c_p0), (2, .int .i64 0), (27, .slice a_p0 p0.length c_p0), (28, .int .i64 (p0.length : Int)), (29, .int .i64 0)] rfl ⟨rfl, rfl, rfl, rfl, rfl, trivial⟩ ?_
      refine WO_end ?_
      obtain ⟨x5, hx6, hm⟩ := bind_some hm
      refine WK_join (β := Unit × Unit) (fun p => Sum.inr p.1 = x5) (fun p => [(2, .int .i64 0)]) (fun p => St w0 m m []) ?_ (fun hk7 => ?_)
      · rintro ⟨⟨⟩, ⟨⟩⟩ hq13
        subst hq13
        refine WK.sub (e' := [(2, .int .i64 0)]) ⟨rfl, trivial⟩ (WK.cls (C' := St w0 m m []) (fun _ h => h) ?_)
        refine WK_seq ?_
        refine WK_region ?_
        refine WO_pure tbok 1 [(2, .int .i64 0)] rfl ⟨rfl, trivial⟩ ?_
        refine WO_end ?_
        cases hm
        exact WK_ret (ret_out (L := []) (RLc_tmp rfl RLc_nil) (List.nil_sublist _) rfl)
      · refine WK_block ?_
        refine WK_loop (S := Int) (G := Unit) (fun s => aggregate_Check_s1 p0 s) (fun s g => [(0, .slice a_p0 p0.length c_p0), (2, .int .i64 0), (27, .slice a_p0 p0.length c_p0), (28, .int .i64 (p0.length : Int)), (29, .int .i64 s)]) (fun s g => St w0 m m []) (fun s g => True) FUEL 0 () x5 hx6 trivial ⟨rfl, rfl, rfl, rfl, rfl, trivial⟩ (fun _ h => h) ?_
        rintro s_2 ⟨⟩ o9 fl10 hm8 - hn11 hd12
        have hm8 : aggregate_Check_s1 p0 s_2 = some o9 := hm8
        unfold aggregate_Check_s1 at hm8
        refine WK.sub (e' := [(0, .slice a_p0 p0.length c_p0), (2, .int .i64 0), (27, .slice a_p0 p0.length c_p0), (28, .int .i64 (p0.length : Int)), (29, .int .i64 s_2)]) ⟨rfl, rfl, rfl, rfl, rfl, trivial⟩ (WK.cls (C' := St w0 m m []) (fun _ h => h) ?_)
        refine WK_seq ?_
        refine WK_region ?_
        refine WO_pure tbok 1 [(0, .slice a_p0 p0.length c_p0), (2, .int .i64 0), (27, .slice a_p0 p0.length c_p0), (28, .int .i64 (p0.length : Int)), (29, .int .i64 s_2), (30, .bool (decide (s_2 < (p0.length : Int))))] rfl ⟨rfl, rfl, rfl, rfl, rfl, rfl, trivial⟩ ?_
        refine WO_end ?_
        refine WK_seq ?_
        refine WK_cond (b := decide (s_2 < (p0.length : Int))) rfl (fun hb14 => ?_) (fun hb14 => ?_)
        · have hm8 := ifT hb14 hm8
          refine WK_skip ?_
          refine WK_seq ?_
          refine WK_block ?_
          refine WK_seq ?_
          refine WK_region ?_
          obtain ⟨v_3, hy15, hm8⟩ := bind_some hm8
          obtain ⟨hc16, hy15⟩ := ix_some hy15
          refine WO_index tbok rfl rfl rfl rfl rfl rfl rfl rfl (SlR.addr h_p0) hc16 ?_
          refine WO_loadR tbok rfl rfl rfl rfl (fun _ h => St.sat h) h_p0 hy15 rfl rfl (fun a17 c18 h19 => ?_)
          refine WO_pure tbok 1 [(0, .slice a_p0 p0.length c_p0), (2, .int .i64 0), (4, .slice a17 ((v_3).length) c18), (27, .slice a_p0 p0.length c_p0), (28, .int .i64 (p0.length : Int)), (29, .int .i64 s_2)] rfl ⟨rfl, rfl, rfl, rfl, rfl, rfl, trivial⟩ ?_
          refine WO_end ?_
          refine WK_seq ?_
          obtain ⟨s_4, hx21, hm8⟩ := bind_some hm8
          refine WK_meet [(0, .slice a_p0 p0.length c_p0), (2, .int .i64 0), (27, .slice a_p0 p0.length c_p0), (28, .int .i64 (p0.length : Int)), (29, .int .i64 s_2), (49, .bool s_4)] (St w0 m m []) ?_ (fun hk22 => ?_)
          · refine WK_cond (b := s_4) rfl (fun hb23 => ?_) (fun hb23 => ?_)
            · have hm8 := ifT hb23 hm8
              refine WK_seq ?_
              refine WK_region ?_
              refine WO_pure tbok 1 [(0, .slice a_p0 p0.length c_p0), (2, .int .i64 1), (27, .slice a_p0 p0.length c_p0), (28, .int .i64 (p0.length : Int)), (29, .int .i64 s_2)] rfl ⟨rfl, rfl, rfl, rfl, rfl, trivial⟩ ?_
              refine WO_end ?_
              cases hm8
              have hq := hd12 _ rfl
              subst hq
              have hm : some _ = some _ := hm
              cases hm
              exact WK_ret (ret_out (L := []) (RLc_tmp rfl RLc_nil) (List.nil_sublist _) rfl)
            · have hm8 := ifF hb23 hm8
              refine WK_skip ?_
              refine WK_blk ?_
              refine WK_region ?_
              refine WO_pure tbok 2 [(0, .slice a_p0 p0.length c_p0), (2, .int .i64 0), (27, .slice a_p0 p0.length c_p0), (28, .int .i64 (p0.length : Int)), (29, .int .i64 (w64 (s_2 + 1)))] rfl ⟨rfl, rfl, rfl, rfl, rfl, trivial⟩ ?_
              refine WO_end ?_
              cases hm8
              refine WK.sub ?_ (WK.cls (fun _ h => h) (hn11 _ () rfl trivial))
              exact ⟨rfl, rfl, rfl, rfl, rfl, trivial⟩
          · refine WK_region ?_
            refine WO_pure tbok 3 [(0, .slice a_p0 p0.length c_p0), (2, .int .i64 0), (4, .slice a17 ((v_3).length) c18), (27, .slice a_p0 p0.length c_p0), (28, .int .i64 (p0.length : Int)), (29, .int .i64 s_2), (34, .int .i64 ((v_3).length : Int)), (35, .slice a_p0 p0.length c_p0)] rfl ⟨rfl, rfl, rfl, rfl, rfl, rfl, rfl, rfl, trivial⟩ ?_
            obtain ⟨v_5, hy24, hx21⟩ := bind_some hx21
            obtain ⟨hc25, hy24⟩ := ix_some hy24
            refine WO_index tbok rfl rfl rfl rfl rfl rfl rfl rfl (SlR.addr h_p0) hc25 ?_
            refine WO_loadR tbok rfl rfl rfl rfl (fun _ h => St.sat h) h_p0 hy24 rfl rfl (fun a26 c27 h28 => ?_)
            refine WO_pure tbok 3 [(0, .slice a_p0 p0.length c_p0), (2, .int .i64 0), (4, .slice a17 ((v_3).length) c18), (27, .slice a_p0 p0.length c_p0), (28, .int .i64 (p0.length : Int)), (29, .int .i64 s_2), (40, .bool (((v_3).length : Int) != ((v_5).length : Int)))] rfl ⟨rfl, rfl, rfl, rfl, rfl, rfl, rfl, trivial⟩ ?_
            refine WO_split (d := 40) (b := ((v_3).length : Int) != ((v_5).length : Int)) rfl (fun hb30 => ?_) (fun hb30 => ?_)
            · have hx21 := ifT hb30 hx21
              refine WO_pure tbok 1 [(0, .slice a_p0 p0.length c_p0), (2, .int .i64 0), (4, .slice a17 ((v_3).length) c18), (27, .slice a_p0 p0.length c_p0), (28, .int .i64 (p0.length : Int)), (29, .int .i64 s_2), (40, .bool true)] rfl ⟨rfl, rfl, rfl, rfl, rfl, rfl, rfl, trivial⟩ ?_
              refine WO_skip rfl rfl ?_
              refine WO_pure tbok 4 [(0, .slice a_p0 p0.length c_p0), (2, .int .i64 0), (27, .slice a_p0 p0.length c_p0), (28, .int .i64 (p0.length : Int)), (29, .int .i64 s_2), (45, .bool true)] rfl ⟨rfl, rfl, rfl, rfl, rfl, rfl, trivial⟩ ?_
              refine WO_skip rfl rfl ?_
              refine WO_pure tbok 2 [(0, .slice a_p0 p0.length c_p0), (2, .int .i64 0), (27, .slice a_p0 p0.length c_p0), (28, .int .i64 (p0.length : Int)), (29, .int .i64 s_2), (49, .bool true)] rfl ⟨rfl, rfl, rfl, rfl, rfl, rfl, trivial⟩ ?_
              refine WO_end ?_
              cases hx21
              refine WK.sub ?_ (WK.cls (fun _ h => h) hk22)
              exact ⟨rfl, rfl, rfl, rfl, rfl, rfl, trivial⟩
            · have hx21 := ifF hb30 hx21
              refine WO_pure tbok 1 [(0, .slice a_p0 p0.length c_p0), (2, .int .i64 0), (4, .slice a17 ((v_3).length) c18), (27, .slice a_p0 p0.length c_p0), (28, .int .i64 (p0.length : Int)), (29, .int .i64 s_2), (40, .bool false), (41, .slice a17 ((v_3).length) c18)] rfl ⟨rfl, rfl, rfl, rfl, rfl, rfl, rfl, rfl, trivial⟩ ?_
              obtain ⟨y_6, hc31, hx21⟩ := bind_some hx21
              refine WO_call0 (.int .i64 y_6) rfl rfl trivial rfl rfl rfl rfl St_closed ⟨34, #[], #[], rfl, callable_34, fun w hw => ⟨_, hw.sat, slices_Min_sint_walk h19 hc31⟩⟩ ?_
              refine WO_pure tbok 3 [(0, .slice a_p0 p0.length c_p0), (2, .int .i64 0), (4, .slice a17 ((v_3).length) c18), (27, .slice a_p0 p0.length c_p0), (28, .int .i64 (p0.length : Int)), (29, .int .i64 s_2), (45, .bool (decide (y_6 < 0)))] rfl ⟨rfl, rfl, rfl, rfl, rfl, rfl, rfl, trivial⟩ ?_
              refine WO_split (d := 45) (b := decide (y_6 < 0)) rfl (fun hb32 => ?_) (fun hb32 => ?_)
              · have hx21 := ifT hb32 hx21
                refine WO_pure tbok 1 [(0, .slice a_p0 p0.length c_p0), (2, .int .i64 0), (27, .slice a_p0 p0.length c_p0), (28, .int .i64 (p0.length : Int)), (29, .int .i64 s_2), (45, .bool true)] rfl ⟨rfl, rfl, rfl, rfl, rfl, rfl, trivial⟩ ?_
                refine WO_skip rfl rfl ?_
                refine WO_pure tbok 2 [(0, .slice a_p0 p0.length c_p0), (2, .int .i64 0), (27, .slice a_p0 p0.length c_p0), (28, .int .i64 (p0.length : Int)), (29, .int .i64 s_2), (49, .bool true)] rfl ⟨rfl, rfl, rfl, rfl, rfl, rfl, trivial⟩ ?_
                refine WO_end ?_
                cases hx21
                refine WK.sub ?_ (WK.cls (fun _ h => h) hk22)
                exact ⟨rfl, rfl, rfl, rfl, rfl, rfl, trivial⟩
              · have hx21 := ifF hb32 hx21
                refine WO_pure tbok 1 [(0, .slice a_p0 p0.length c_p0), (2, .int .i64 0), (27, .slice a_p0 p0.length c_p0), (28, .int .i64 (p0.length : Int)), (29, .int .i64 s_2), (45, .bool false), (46, .slice a17 ((v_3).length) c18)] rfl ⟨rfl, rfl, rfl, rfl, rfl, rfl, rfl, trivial⟩ ?_
                obtain ⟨y_7, hc33, hx21⟩ := bind_some hx21
                refine WO_call0 (.int .i64 y_7) rfl rfl trivial rfl rfl rfl rfl St_closed ⟨41, #[], #[], rfl, callable_41, fun w hw => ⟨_, hw.sat, slices_Max_sint_walk h19 hc33⟩⟩ ?_
                refine WO_pure tbok 2 [(0, .slice a_p0 p0.length c_p0), (2, .int .i64 0), (27, .slice a_p0 p0.length c_p0), (28, .int .i64 (p0.length : Int)), (29, .int .i64 s_2), (49, .bool (decide (1048576 < y_7)))] rfl ⟨rfl, rfl, rfl, rfl, rfl, rfl, trivial⟩ ?_
                refine WO_end ?_
                cases hx21
                refine WK.sub ?_ (WK.cls (fun _ h => h) hk22)
                exact ⟨rfl, rfl, rfl, rfl, rfl, rfl, trivial⟩
        · have hm8 := ifF hb14 hm8
          refine WK_exit rfl ?_
          cases hm8
          refine WK.sub ?_ (WK.cls (fun _ h => h) (hk7 ((), ()) (hd12 _ rfl)))
          exact ⟨rfl, trivial⟩
  · refine WK_region ?_
    refine WO_pure tbok 4 [(0, .slice a_p0 p0.length c_p0), (2, .int .i64 0), (8, .bool (decide ((p0.length : Int) < 1)))] rfl ⟨rfl, rfl, rfl, trivial⟩ ?_
    refine WO_split (d := 8) (b := decide ((p0.length : Int) < 1)) rfl (fun hb34 => ?_) (fun hb34 => ?_)
    · have hx2 := ifT hb34 hx2
      refine WO_pure tbok 18 [(0, .slice a_p0 p0.length c_p0), (2, .int .i64 0), (26, .bool true)] rfl ⟨rfl, rfl, rfl, trivial⟩ ?_
      refine WO_end ?_
      cases hx2
      refine WK.sub ?_ (WK.cls (fun _ h => h) hk3)
      exact ⟨rfl, rfl, rfl, trivial⟩
    · have hx2 := ifF hb34 hx2
      refine WO_pure tbok 5 [(0, .slice a_p0 p0.length c_p0), (2, .int .i64 0), (13, .bool (decide (64 < (p0.length : Int))))] rfl ⟨rfl, rfl, rfl, trivial⟩ ?_
      refine WO_split (d := 13) (b := decide (64 < (p0.length : Int))) rfl (fun hb35 => ?_) (fun hb35 => ?_)
      · have hx2 := ifT hb35 hx2
        refine WO_pure tbok 13 [(0, .slice a_p0 p0.length c_p0), (2, .int .i64 0), (26, .bool true)] rfl ⟨rfl, rfl, rfl, trivial⟩ ?_
        refine WO_end ?_
        cases hx2
        refine WK.sub ?_ (WK.cls (fun _ h => h) hk3)
        exact ⟨rfl, rfl, rfl, trivial⟩
      · have hx2 := ifF hb35 hx2
        refine WO_pure tbok 1 [(0, .slice a_p0 p0.length c_p0), (2, .int .i64 0), (13, .bool false), (14, .slice a_p0 p0.length c_p0)] rfl ⟨rfl, rfl, rfl, rfl, trivial⟩ ?_
        obtain ⟨v_8, hy36, hx2⟩ := bind_some hx2
        obtain ⟨hc37, hy36⟩ := ix_some hy36
        refine WO_index tbok rfl rfl rfl rfl rfl rfl rfl rfl (SlR.addr h_p0) hc37 ?_
        refine WO_loadR tbok rfl rfl rfl rfl (fun _ h => St.sat h) h_p0 hy36 rfl rfl (fun a38 c39 h40 => ?_)
        refine WO_pure tbok 4 [(0, .slice a_p0 p0.length c_p0), (2, .int .i64 0), (20, .bool (decide (((v_8).length : Int) < 1)))] rfl ⟨rfl, rfl, rfl, trivial⟩ ?_
        refine WO_split (d := 20) (b := decide (((v_8).length : Int) < 1)) rfl (fun hb42 => ?_) (fun hb42 => ?_)
        · have hx2 := ifT hb42 hx2
          refine WO_pure tbok 6 [(0, .slice a_p0 p0.length c_p0), (2, .int .i64 0), (26, .bool true)] rfl ⟨rfl, rfl, rfl, trivial⟩ ?_
          refine WO_end ?_
          cases hx2
          refine WK.sub ?_ (WK.cls (fun _ h => h) hk3)
          exact ⟨rfl, rfl, rfl, trivial⟩
        · have hx2 := ifF hb42 hx2
          refine WO_pure tbok 1 [(0, .slice a_p0 p0.length c_p0), (2, .int .i64 0), (20, .bool false), (21, .slice a_p0 p0.length c_p0)] rfl ⟨rfl, rfl, rfl, rfl, trivial⟩ ?_
          obtain ⟨v_9, hy43, hx2⟩ := bind_some hx2
          obtain ⟨hc44, hy43⟩ := ix_some hy43
          refine WO_index tbok rfl rfl rfl rfl rfl rfl rfl rfl (SlR.addr h_p0) hc44 ?_
          refine WO_loadR tbok rfl rfl rfl rfl (fun _ h => St.sat h) h_p0 hy43 rfl rfl (fun a45 c46 h47 => ?_)
          refine WO_pure tbok 3 [(0, .slice a_p0 p0.length c_p0), (2, .int .i64 0), (26, .bool (decide (64 < ((v_9).length : Int))))] rfl ⟨rfl, rfl, rfl, trivial⟩ ?_
          refine WO_end ?_
          cases hx2
          refine WK.sub ?_ (WK.cls (fun _ h => h) hk3)
          exact ⟨rfl, rfl, rfl, trivial⟩
theorem aggregate_penalties_walk {m : Mu} {p0 : Int} {p1 : Int}   {r : Int} (hm : aggregate_penalties p0 p1 = some r) :
    Go.E.Spec Try.prog 57 [.int .i64 p0, .int .i64 p1] m (fun v _ _ => v = .int .i64 r) := by
  refine Spec_enter Try.func57 rfl rfl rfl (fun w0 => ?_)
  refine WK.sub (e' := [(0, .int .i64 p0), (1, .int .i64 p1)]) ⟨rfl, rfl, trivial⟩ ?_
  refine WK.sub (e' := [(0, .int .i64 p0), (1, .int .i64 p1)]) ⟨rfl, rfl, trivial⟩ ?_
  unfold aggregate_penalties at hm
  refine WK_seq ?_
  refine WK_region ?_
  refine WO_pure tbok 1 [(0, .int .i64 p0), (1, .int .i64 p1), (4, .int .i64 0)] rfl ⟨rfl, rfl, rfl, trivial⟩ ?_
  refine WO_end ?_
  refine WK_seq ?_
  refine WK_seq ?_
  obtain ⟨s_1, hx1, hm⟩ := bind_some hm
  refine WK_meet [(4, .int .i64 0), (15, .bool s_1)] (St w0 m m []) ?_ (fun hk2 => ?_)
  · refine WK_cond (b := s_1) rfl (fun hb3 => ?_) (fun hb3 => ?_)
    · have hm := ifT hb3 hm
      refine WK_seq ?_
      refine WK_region ?_
      refine WO_pure tbok 1 [(4, .int .i64 2)] rfl ⟨rfl, trivial⟩ ?_
      refine WO_end ?_
      cases hm
      exact WK_ret (ret_out (L := []) (RLc_tmp rfl RLc_nil) (List.nil_sublist _) rfl)
    · have hm := ifF hb3 hm
      refine WK_skip ?_
      refine WK_seq ?_
      refine WK_region ?_
      refine WO_pure tbok 1 [(4, .int .i64 0)] rfl ⟨rfl, trivial⟩ ?_
      refine WO_end ?_
      cases hm
      exact WK_ret (ret_out (L := []) (RLc_tmp rfl RLc_nil) (List.nil_sublist _) rfl)
  · refine WK_region ?_
    refine WO_pure tbok 3 [(0, .int .i64 p0), (1, .int .i64 p1), (4, .int .i64 0), (7, .bool (decide (p0 < 0)))] rfl ⟨rfl, rfl, rfl, rfl, trivial⟩ ?_
    refine WO_split (d := 7) (b := decide (p0 < 0)) rfl (fun hb4 => ?_) (fun hb4 => ?_)
    · have hx1 := ifT hb4 hx1
      refine WO_pure tbok 8 [(4, .int .i64 0), (15, .bool true)] rfl ⟨rfl, rfl, trivial⟩ ?_
      refine WO_end ?_
      cases hx1
      refine WK.sub ?_ (WK.cls (fun _ h => h) hk2)
      exact ⟨rfl, rfl, trivial⟩
    · have hx1 := ifF hb4 hx1
      refine WO_pure tbok 5 [(1, .int .i64 p1), (4, .int .i64 0), (12, .bool (decide (p1 < p0)))] rfl ⟨rfl, rfl, rfl, trivial⟩ ?_
      refine WO_split (d := 12) (b := decide (p1 < p0)) rfl (fun hb5 => ?_) (fun hb5 => ?_)
      · have hx1 := ifT hb5 hx1
        refine WO_pure tbok 3 [(4, .int .i64 0), (15, .bool true)] rfl ⟨rfl, rfl, trivial⟩ ?_
        refine WO_end ?_
        cases hx1
        refine WK.sub ?_ (WK.cls (fun _ h => h) hk2)
        exact ⟨rfl, rfl, trivial⟩
      · have hx1 := ifF hb5 hx1
        refine WO_pure tbok 3 [(4, .int .i64 0), (15, .bool (decide (1048576 < p1)))] rfl ⟨rfl, rfl, trivial⟩ ?_
        refine WO_end ?_
        cases hx1
        refine WK.sub ?_ (WK.cls (fun _ h => h) hk2)
        exact ⟨rfl, rfl, trivial⟩
theorem aggregate_checked_walk {m : Mu} {p0 : List (List Int)} {p1 : Int} {p2 : Int} {a_p0 : Option Addr} {q_p0 c_p0 : Nat} (h_p0 : SlR (RowE (FE (I1 .i64)) 1) 1 m (.slice a_p0 q_p0 c_p0) p0) {r : Int} (hm : aggregate_checked p0 p1 p2 = some r) :
    Go.E.Spec Try.prog 31 [.slice a_p0 q_p0 c_p0, .int .i64 p1, .int .i64 p2] m (fun v _ _ => v = .int .i64 r) := by
  refine Spec_enter Try.func31 rfl rfl rfl (fun w0 => ?_)
  refine WK.sub (e' := [(0, .slice a_p0 q_p0 c_p0), (1, .int .i64 p1), (2, .int .i64 p2)]) ⟨rfl, rfl, rfl, trivial⟩ ?_
  obtain rfl := SlR.qlen h_p0
  refine WK.sub (e' := [(0, .slice a_p0 p0.length c_p0), (1, .int .i64 p1), (2, .int .i64 p2)]) ⟨rfl, rfl, rfl, trivial⟩ ?_
  unfold aggregate_checked at hm
  refine WK_seq ?_
  refine WK_region ?_
  refine WO_pure tbok 1 [(0, .slice a_p0 p0.length c_p0), (1, .int .i64 p1), (2, .int .i64 p2), (6, .int .i64 0)] rfl ⟨rfl, rfl, rfl, rfl, trivial⟩ ?_
  refine WO_end ?_
  refine WK_seq ?_
  refine WK_seq ?_
  refine WK_region ?_
  refine WO_pure tbok 1 [(1, .int .i64 p1), (2, .int .i64 p2), (6, .int .i64 0), (8, .slice a_p0 p0.length c_p0)] rfl ⟨rfl, rfl, rfl, rfl, trivial⟩ ?_
  obtain ⟨y_1, hc2, hm⟩ := bind_some hm
  refine WO_call0 (.int .i64 y_1) rfl rfl trivial rfl rfl rfl rfl St_closed ⟨20, #[], #[], rfl, callable_20, fun w hw => ⟨_, hw.sat, aggregate_Check_walk h_p0 hc2⟩⟩ ?_
  refine WO_pure tbok 1 [(1, .int .i64 p1), (2, .int .i64 p2), (6, .int .i64 0), (7, .int .i64 y_1)] rfl ⟨rfl, rfl, rfl, rfl, trivial⟩ ?_
  refine WO_end ?_
  refine WK_seq ?_
  refine WK_region ?_
  refine WO_pure tbok 2 [(1, .int .i64 p1), (2, .int .i64 p2), (6, .int .i64 0), (7, .int .i64 y_1), (11, .bool (y_1 != 0))] rfl ⟨rfl, rfl, rfl, rfl, rfl, trivial⟩ ?_
  refine WO_end ?_
  refine WK_cond (b := y_1 != 0) rfl (fun hb3 => ?_) (fun hb3 => ?_)
  · have hm := ifT hb3 hm
    refine WK_seq ?_
    refine WK_region ?_
    refine WO_pure tbok 2 [(1, .int .i64 p1), (2, .int .i64 p2), (6, .int .i64 y_1)] rfl ⟨rfl, rfl, rfl, trivial⟩ ?_
    refine WO_end ?_
    cases hm
    exact WK_ret (ret_out (L := []) (RLc_tmp rfl RLc_nil) (List.nil_sublist _) rfl)
  · have hm := ifF hb3 hm
    refine WK_skip ?_
    refine WK_seq ?_
    refine WK_region ?_
    refine WO_pure tbok 2 [(6, .int .i64 0), (13, .int .i64 p1), (14, .int .i64 p2)] rfl ⟨rfl, rfl, rfl, trivial⟩ ?_
    obtain ⟨y_2, hc4, hm⟩ := bind_some hm
    refine WO_call0 (.int .i64 y_2) rfl rfl trivial rfl rfl rfl rfl St_closed ⟨57, #[], #[], rfl, callable_57, fun w hw => ⟨_, hw.sat, aggregate_penalties_walk hc4⟩⟩ ?_
    refine WO_pure tbok 1 [(6, .int .i64 y_2)] rfl ⟨rfl, trivial⟩ ?_
    refine WO_end ?_
    cases hm
    exact WK_ret (ret_out (L := []) (RLc_tmp rfl RLc_nil) (List.nil_sublist _) rfl)
def slices_Clone_ssint_Q (r : List (List Int)) : Value → Mu → List Ent → Prop := fun v m L => ∃ (a0 : Option Addr) (q0 c0 : Nat), v = .slice a0 q0 c0 ∧ OwnX 24 1 V1 (RowE (FE (I1 .i64)) 1) m (.slice a0 q0 c0) r L
theorem slices_Clone_ssint_walk {m : Mu} {p0 : List (List Int)} {a_p0 : Option Addr} {q_p0 c_p0 : Nat} (h_p0 : SlR (RowE (FE (I1 .i64)) 1) 1 m (.slice a_p0 q_p0 c_p0) p0) {r : List (List Int)} (hm : slices_Clone_ssint p0 = some r) :
    Go.E.Spec Try.prog 18 [.slice a_p0 q_p0 c_p0] m (slices_Clone_ssint_Q r) := by
  refine Spec_enter Try.func18 rfl rfl rfl (fun w0 => ?_)
  refine WK.sub (e' := [(0, .slice a_p0 q_p0 c_p0)]) ⟨rfl, trivial⟩ ?_
  obtain rfl := SlR.qlen h_p0
  refine WK.sub (e' := [(0, .slice a_p0 p0.length c_p0)]) ⟨rfl, trivial⟩ ?_
  cases a_p0 with
  | none =>
    obtain ⟨hx, _, hc⟩ := SlR.none_nil h_p0
    subst hx
    subst hc
    unfold slices_Clone_ssint at hm
    obtain ⟨_, hm⟩ := chk_some hm
    refine WK_seq ?_
    refine WK_region ?_
    refine WO_pure tbok 1 [(0, .slice none 0 0), (2, .slice none 0 0)] rfl ⟨rfl, rfl, trivial⟩ ?_
    refine WO_end ?_
    refine WK_seq ?_
    refine WK_seq ?_
    refine WK_region ?_
    refine WO_pure tbok 1 [(0, .slice none 0 0), (2, .slice none 0 0), (3, .slice none 0 0)] rfl ⟨rfl, rfl, rfl, trivial⟩ ?_
    refine WO_eqnil tbok rfl rfl rfl rfl rfl rfl rfl ?_
    refine WO_end ?_
    refine WK_condT rfl ?_
    refine WK_seq ?_
    refine WK_region ?_
    refine WO_pure tbok 1 [(0, .slice none 0 0), (2, .slice none 0 0)] rfl ⟨rfl, rfl, trivial⟩ ?_
    refine WO_end ?_
    cases hm
    exact WK_ret (ret_out (L := []) (RLc_tmp rfl RLc_nil) (List.nil_sublist _) ⟨none, 0, 0, rfl, (OwnX.nil (T := 24) (k := 1) (E := V1) (El := (RowE (FE (I1 .i64)) 1)) (m := m) none)⟩)
  | some ad =>
    unfold slices_Clone_ssint at hm
    refine WK_seq ?_
    refine WK_region ?_
    refine WO_pure tbok 1 [(0, .slice (some ad) p0.length c_p0), (2, .slice none 0 0)] rfl ⟨rfl, rfl, trivial⟩ ?_
    refine WO_end ?_
    refine WK_seq ?_
    refine WK_seq ?_
    refine WK_region ?_
    refine WO_pure tbok 1 [(0, .slice (some ad) p0.length c_p0), (2, .slice none 0 0), (3, .slice (some ad) p0.length c_p0)] rfl ⟨rfl, rfl, rfl, trivial⟩ ?_
    refine WO_eqnil tbok rfl rfl rfl rfl rfl rfl rfl ?_
    refine WO_end ?_
    refine WK_condF rfl ?_
    refine WK_skip ?_
    refine WK_seq ?_
    refine WK_region ?_
    refine WO_bsliceX (E := V1) (El := (RowE (FE (I1 .i64)) 1)) tbok (fun _ => rfl) (by decide) [] [] ([] : List (List Int)) rfl rfl trivial rfl rfl rfl rfl rfl rfl rfl rfl rfl rfl rfl rfl trivial (fun b2 hb2 => ?_)
    refine WO.cls (C' := St w0 m m [[⟨b2, 24, []⟩]]) (fun _ h => h) ?_
    refine WO_pure tbok 1 [(2, .slice none 0 0), (5, .slice (some ⟨b2, 0, none⟩) 0 0), (6, .slice (some ad) p0.length c_p0)] rfl ⟨rfl, rfl, rfl, trivial⟩ ?_
    obtain ⟨hc4, hm⟩ := chk_some hm
    refine WO_appendSX (El := (RowE (FE (I1 .i64)) 1)) tbok 0 p0 rfl rfl rfl rfl rfl rfl rfl rfl rfl rfl rfl rfl row_one hb2 rfl h_p0 (ap_ok (by decide) hc4) (ap_max hc4) (fun a5 c6 L7 hL7 => ?_)
    refine WO.cls (C' := St w0 m m [L7]) (fun _ h => h) ?_
    refine WO_pure tbok 1 [(2, .slice a5 ((([] : List (List Int)) ++ p0).length) c6)] rfl ⟨rfl, trivial⟩ ?_
    refine WO_end ?_
    cases hm
    exact WK_ret (ret_out (L := L7) (RLc_tmp rfl RLc_nil) (seg_sub 0 rfl) ⟨a5, ((([] : List (List Int)) ++ p0).length), c6, rfl, hL7⟩)
def aggregate_reversed_Q (r : List (List Int)) : Value → Mu → List Ent → Prop := fun v m L => ∃ (a0 : Option Addr) (q0 c0 : Nat), v = .slice a0 q0 c0 ∧ SlR (RowE (FE (I1 .i64)) 1) 1 m (.slice a0 q0 c0) r
theorem aggregate_reversed_walk {m : Mu} {p0 : List (List Int)} {a_p0 : Option Addr} {q_p0 c_p0 : Nat} (h_p0 : SlR (RowE (FE (I1 .i64)) 1) 1 m (.slice a_p0 q_p0 c_p0) p0) {r : List (List Int)} (hm : aggregate_reversed p0 = some r) :
    Go.E.Spec Try.prog 32 [.slice a_p0 q_p0 c_p0] m (aggregate_reversed_Q r) := by
  refine Spec_enter Try.func32 rfl rfl rfl (fun w0 => ?_)
  refine WK.sub (e' := [(0, .slice a_p0 q_p0 c_p0)]) ⟨rfl, trivial⟩ ?_
  obtain rfl := SlR.qlen h_p0
  refine WK.sub (e' := [(0, .slice a_p0 p0.length c_p0)]) ⟨rfl, trivial⟩ ?_
  unfold aggregate_reversed at hm
  refine WK_seq ?_
  refine WK_region ?_
  refine WO_pure tbok 1 [(0, .slice a_p0 p0.length c_p0), (2, .slice none 0 0)] rfl ⟨rfl, rfl, trivial⟩ ?_
  refine WO_end ?_
  refine WK_seq ?_
  refine WK_region ?_
  refine WO_pure tbok 1 [(2, .slice none 0 0), (4, .slice a_p0 p0.length c_p0)] rfl ⟨rfl, rfl, trivial⟩ ?_
  obtain ⟨y_1, hc2, hm⟩ := bind_some hm
  refine WO_call2 (slices_Clone_ssint_Q y_1) rfl rfl trivial rfl rfl rfl rfl ⟨18, #[], #[], rfl, callable_18, slices_Clone_ssint_walk h_p0 hc2⟩ (fun v7 m8 L6 hle9 hq => ?_)
  obtain ⟨a3, qa3, c4, rfl, h10⟩ := hq
  obtain rfl := OwnX.qlen h10
  refine WO.cls (C' := St w0 m m8 [L6]) (fun _ h => h) ?_
  refine WO_pure tbok 1 [(2, .slice none 0 0), (3, .slice a3 ((y_1).length) c4)] rfl ⟨rfl, rfl, trivial⟩ ?_
  refine WO_end ?_
  refine WK_seq ?_
  refine WK_region ?_
  refine WO_pure tbok 1 [(2, .slice none 0 0), (3, .slice a3 ((y_1).length) c4), (6, .slice a3 ((y_1).length) c4)] rfl ⟨rfl, rfl, rfl, trivial⟩ ?_
  refine WO_inline rfl rfl rfl rfl rfl rfl callable_19 Try.func19 rfl rfl rfl ?_
  refine WK.sub (e' := [(0, .slice a3 ((y_1).length) c4)]) ⟨rfl, trivial⟩ ?_
  refine WK_seq ?_
  refine WK_region ?_
  refine WO_pure tbok 5 [(0, .slice a3 ((y_1).length) c4), (2, .int .i64 0), (3, .int .i64 (w64 (((y_1).length : Int) - 1)))] rfl ⟨rfl, rfl, rfl, trivial⟩ ?_
  refine WO_end ?_
  obtain ⟨x15, hx16, hm⟩ := bind_some hm
  refine WK_join (β := (List (List Int)) × (List Ent)) (fun p => p.1 = x15 ∧ OwnX 24 1 V1 (RowE (FE (I1 .i64)) 1) m8 (.slice a3 ((y_1).length) c4) p.1 p.2) (fun p => []) (fun p => St w0 m m8 [p.2]) ?_ (fun hk17 => ?_)
  · rintro ⟨l_5, L14⟩ ⟨hq23, hL14⟩
    subst hq23
    refine WK.sub (e' := []) trivial (WK.cls (C' := St w0 m m8 [L14]) (fun _ h => h) ?_)
    refine WK_nilI RLc_nil (fun _ _ => trivial) ?_
    refine WO_end ?_
    refine WK_seq ?_
    refine WK_region ?_
    refine WO_pure tbok 2 [(2, .slice a3 ((y_1).length) c4)] rfl ⟨rfl, trivial⟩ ?_
    refine WO_end ?_
    cases hm
    refine WK_freeze 0 rfl (fun m24 hle25 hmm26 => ?_)
    refine WK.cls (C' := St w0 m m24 [[]]) (fun _ h => h) ?_
    exact WK_ret (ret_out (L := []) (RLc_tmp rfl RLc_nil) (List.nil_sublist _) ⟨a3, _, c4, rfl, (OwnX.rd (E := V1) (k := 1) (fun _ => rfl) hL14 (mono_RowE (mono_FE _) _) hle25 hmm26)⟩)
  · refine WK_block ?_
    refine WK_loop (S := List (List Int) × Int × Int) (G := List Ent) (fun s => aggregate_reversed_s1 s.1 s.2.1 s.2.2) (fun s g => [(0, .slice a3 ((y_1).length) c4), (2, .int .i64 s.2.1), (3, .int .i64 s.2.2)]) (fun s g => St w0 m m8 [g]) (fun s g => OwnX 24 1 V1 (RowE (FE (I1 .i64)) 1) m8 (.slice a3 ((y_1).length) c4) s.1 g) FUEL (y_1, 0, w64 (((y_1).length : Int) - 1)) L6 x15 hx16 h10 ⟨rfl, rfl, rfl, trivial⟩ (fun _ h => h) ?_
    rintro ⟨l_2, s_3, s_4⟩ L12 o19 fl20 hm18 hL12 hn21 hd22
    have hm18 : aggregate_reversed_s1 l_2 s_3 s_4 = some o19 := hm18
    unfold aggregate_reversed_s1 at hm18
    refine WK.sub (e' := [(0, .slice a3 ((y_1).length) c4), (2, .int .i64 s_3), (3, .int .i64 s_4)]) ⟨rfl, rfl, rfl, trivial⟩ (WK.cls (C' := St w0 m m8 [L12]) (fun _ h => h) ?_)
    refine WK_seq ?_
    refine WK_seq ?_
    refine WK_region ?_
    refine WO_pure tbok 3 [(0, .slice a3 ((y_1).length) c4), (2, .int .i64 s_3), (3, .int .i64 s_4), (9, .bool (decide (s_3 < s_4)))] rfl ⟨rfl, rfl, rfl, rfl, trivial⟩ ?_
    refine WO_end ?_
    refine WK_cond (b := decide (s_3 < s_4)) rfl (fun hb27 => ?_) (fun hb27 => ?_)
    · have hm18 := ifT hb27 hm18
      refine WK_skip ?_
      refine WK_seq ?_
      refine WK_block ?_
      refine WK_plan 13 [0, 1, 2, 3, 4, 5, 6, 8, 9, 10] (.run [7, 11, 12] .fin) follows_ok (by kernel_rfl) St_closed ?_
      refine WO_pure tbok 6 [(0, .slice a3 ((y_1).length) c4), (2, .int .i64 s_3), (3, .int .i64 s_4), (14, .slice a3 ((y_1).length) c4), (15, .int .i64 s_3), (16, .slice a3 ((y_1).length) c4), (17, .int .i64 s_4), (18, .slice a3 ((y_1).length) c4), (19, .int .i64 s_4)] rfl ⟨rfl, rfl, rfl, rfl, rfl, rfl, rfl, rfl, rfl, trivial⟩ ?_
      obtain ⟨v_6, hy28, hm18⟩ := bind_some hm18
      obtain ⟨hc29, hy28⟩ := ix_some hy28
      refine WO_index tbok rfl rfl rfl rfl rfl rfl rfl rfl (OwnX.addr hL12) (by simpa using hc29) ?_
      refine WO_pure tbok 2 [(0, .slice a3 ((y_1).length) c4), (2, .int .i64 s_3), (3, .int .i64 s_4), (14, .slice a3 ((y_1).length) c4), (15, .int .i64 s_3), (16, .slice a3 ((y_1).length) c4), (17, .int .i64 s_4), (20, .pointer (some (eAddr (.slice a3 ((y_1).length) c4) 1 s_4.toNat))), (22, .slice a3 ((y_1).length) c4), (23, .int .i64 s_3)] rfl ⟨rfl, rfl, rfl, rfl, rfl, rfl, rfl, rfl, rfl, rfl, trivial⟩ ?_
      obtain ⟨v_7, hy30, hm18⟩ := bind_some hm18
      obtain ⟨hc31, hy30⟩ := ix_some hy30
      refine WO_index tbok rfl rfl rfl rfl rfl rfl rfl rfl (OwnX.addr hL12) (by simpa using hc31) ?_
      refine WO_plan ?_
      refine WT_run ?_
      refine WO_loadOX (E := V1) tbok (fun _ => rfl) 0 rfl rfl rfl rfl (fun _ h => h) hL12 rfl hy28 (fun cs hcs => ?_)
      obtain ⟨v0, rfl, h34⟩ := hcs
      obtain ⟨a32, c33, rfl, _⟩ := SlR.len h34
      refine ⟨_, rfl, ?_⟩
      refine WO_loadOX (E := V1) tbok (fun _ => rfl) 0 rfl rfl rfl rfl (fun _ h => h) hL12 rfl hy30 (fun cs hcs => ?_)
      obtain ⟨v0, rfl, h38⟩ := hcs
      obtain ⟨a36, c37, rfl, _⟩ := SlR.len h38
      refine ⟨_, rfl, ?_⟩
      obtain ⟨hc40, hm18⟩ := chk_some hm18
      refine WO_index tbok rfl rfl rfl rfl rfl rfl rfl rfl (OwnX.addr hL12) (by simpa using hc40) ?_
      refine WO_tree rfl ?_
      refine WT_fin ?_
      refine WO_storeOX (E := V1) (El := (RowE (FE (I1 .i64)) 1)) tbok (fun _ => rfl) 0 (.slice a32 ((v_6).length) c33) v_6 rfl rfl rfl rfl rfl hL12 rfl (by simpa using idx_lt hc40) rfl rfl rfl rfl ⟨_, rfl, h34⟩ (fun L41 hL41 => ?_)
      refine WO.cls (C' := St w0 m m8 [L41]) (fun _ h => h) ?_
      obtain ⟨hc43, hm18⟩ := chk_some hm18
      refine WO_index tbok rfl rfl rfl rfl rfl rfl rfl rfl (OwnX.addr hL41) (by simpa using hc43) ?_
      refine WO_storeOX (E := V1) (El := (RowE (FE (I1 .i64)) 1)) tbok (fun _ => rfl) 0 (.slice a36 ((v_7).length) c37) v_7 rfl rfl rfl rfl rfl hL41 rfl (by simpa using idx_lt hc43) rfl rfl rfl rfl ⟨_, rfl, h38⟩ (fun L44 hL44 => ?_)
      refine WO.cls (C' := St w0 m m8 [L44]) (fun _ h => h) ?_
      refine WO_end ?_
      refine WK_blk ?_
      refine WK_region ?_
      refine WO_pure tbok 6 [(0, .slice a3 ((y_1).length) c4), (2, .int .i64 (w64 (s_3 + 1))), (3, .int .i64 (w64 (s_4 - 1)))] rfl ⟨rfl, rfl, rfl, trivial⟩ ?_
      refine WO_end ?_
      cases hm18
      refine WK.sub ?_ (WK.cls (fun _ h => h) (hn21 _ L44 rfl hL44))
      exact ⟨rfl, rfl, rfl, trivial⟩
    · have hm18 := ifF hb27 hm18
      refine WK_exit rfl ?_
      cases hm18
      refine WK.sub ?_ (WK.cls (fun _ h => h) (hk17 (l_2, L12) ⟨(hd22 _ rfl), hL12⟩))
      exact trivial
def slices_Clone_sint_Q (r : List Int) : Value → List Ent → Prop := fun v L => ∃ (a0 : Option Addr) (q0 c0 : Nat), v = .slice a0 q0 c0 ∧ OwnE 3 1 (I1 .i64) (.slice a0 q0 c0) r L
theorem slices_Clone_sint_walk {m : Mu} {p0 : List Int} {a_p0 : Option Addr} {q_p0 c_p0 : Nat} (h_p0 : SlR (FE (I1 .i64)) 1 m (.slice a_p0 q_p0 c_p0) p0) {r : List Int} (hm : slices_Clone_sint p0 = some r) :
    Go.E.Spec Try.prog 58 [.slice a_p0 q_p0 c_p0] m (fun v _ L => slices_Clone_sint_Q r v L) := by
  refine Spec_enter Try.func58 rfl rfl rfl (fun w0 => ?_)
  refine WK.sub (e' := [(0, .slice a_p0 q_p0 c_p0)]) ⟨rfl, trivial⟩ ?_
  obtain rfl := SlR.qlen h_p0
  refine WK.sub (e' := [(0, .slice a_p0 p0.length c_p0)]) ⟨rfl, trivial⟩ ?_
  cases a_p0 with
  | none =>
    obtain ⟨hx, _, hc⟩ := SlR.none_nil h_p0
    subst hx
    subst hc
    unfold slices_Clone_sint at hm
    obtain ⟨_, hm⟩ := chk_some hm
    refine WK_seq ?_
    refine WK_region ?_
    refine WO_pure tbok 1 [(0, .slice none 0 0), (2, .slice none 0 0)] rfl ⟨rfl, rfl, trivial⟩ ?_
    refine WO_end ?_
    refine WK_seq ?_
    refine WK_seq ?_
    refine WK_region ?_
    refine WO_pure tbok 1 [(0, .slice none 0 0), (2, .slice none 0 0), (3, .slice none 0 0)] rfl ⟨rfl, rfl, rfl, trivial⟩ ?_
    refine WO_eqnil tbok rfl rfl rfl rfl rfl rfl rfl ?_
    refine WO_end ?_
    refine WK_condT rfl ?_
    refine WK_seq ?_
    refine WK_region ?_
    refine WO_pure tbok 1 [(0, .slice none 0 0), (2, .slice none 0 0)] rfl ⟨rfl, rfl, trivial⟩ ?_
    refine WO_end ?_
    cases hm
    exact WK_ret (ret_out (L := []) (RLc_tmp rfl RLc_nil) (List.nil_sublist _) ⟨none, 0, 0, rfl, (OwnE.nil none)⟩)
  | some ad =>
    unfold slices_Clone_sint at hm
    refine WK_seq ?_
    refine WK_region ?_
    refine WO_pure tbok 1 [(0, .slice (some ad) p0.length c_p0), (2, .slice none 0 0)] rfl ⟨rfl, rfl, trivial⟩ ?_
    refine WO_end ?_
    refine WK_seq ?_
    refine WK_seq ?_
    refine WK_region ?_
    refine WO_pure tbok 1 [(0, .slice (some ad) p0.length c_p0), (2, .slice none 0 0), (3, .slice (some ad) p0.length c_p0)] rfl ⟨rfl, rfl, rfl, trivial⟩ ?_
    refine WO_eqnil tbok rfl rfl rfl rfl rfl rfl rfl ?_
    refine WO_end ?_
    refine WK_condF rfl ?_
    refine WK_skip ?_
    refine WK_seq ?_
    refine WK_region ?_
    refine WO_bslice (E := (I1 .i64)) tbok (fun _ => rfl) (by decide) [] ([] : List Int) rfl rfl trivial rfl rfl rfl rfl rfl rfl rfl rfl rfl rfl rfl rfl (fun b2 hb2 => ?_)
    refine WO.cls (C' := St w0 m m [[⟨b2, 3, ([] : List Int).flatMap (I1 .i64)⟩]]) (fun _ h => h) ?_
    refine WO_pure tbok 1 [(2, .slice none 0 0), (5, .slice (some ⟨b2, 0, none⟩) 0 0), (6, .slice (some ad) p0.length c_p0)] rfl ⟨rfl, rfl, rfl, trivial⟩ ?_
    obtain ⟨hc4, hm⟩ := chk_some hm
    refine WO_appendS (E := (I1 .i64)) tbok (fun _ => rfl) (by decide) (fun _ => rfl) 0 p0 rfl rfl rfl rfl rfl rfl rfl rfl rfl rfl rfl rfl hb2 rfl (fun w hw => ⟨_, hw.sat, h_p0⟩) (ap_ok (by decide) hc4) (ap_max hc4) (fun a5 c6 L7 hL7 => ?_)
    refine WO.cls (C' := St w0 m m [L7]) (fun _ h => h) ?_
    refine WO_pure tbok 1 [(2, .slice a5 ((([] : List Int) ++ p0).length) c6)] rfl ⟨rfl, trivial⟩ ?_
    refine WO_end ?_
    cases hm
    exact WK_ret (ret_out (L := L7) (RLc_tmp rfl RLc_nil) (seg_sub 0 rfl) ⟨a5, ((([] : List Int) ++ p0).length), c6, rfl, hL7⟩)
def aggregate_reached_Q (r : List Int) : Value → List Ent → Prop := fun v L => ∃ (a0 : Option Addr) (q0 c0 : Nat), v = .slice a0 q0 c0 ∧ OwnE 3 1 (I1 .i64) (.slice a0 q0 c0) r L
theorem aggregate_reached_walk {m : Mu} {p0 : List Int} {p1 : Int} {p2 : Int} {a_p0 : Option Addr} {q_p0 c_p0 : Nat} (h_p0 : SlR (FE (I1 .i64)) 1 m (.slice a_p0 q_p0 c_p0) p0) {r : List Int} (hm : aggregate_reached p0 p1 p2 = some r) :
    Go.E.Spec Try.prog 42 [.slice a_p0 q_p0 c_p0, .int .i64 p1, .int .i64 p2] m (fun v _ L => aggregate_reached_Q r v L) := by
  refine Spec_enter Try.func42 rfl rfl rfl (fun w0 => ?_)
  refine WK.sub (e' := [(0, .slice a_p0 q_p0 c_p0), (1, .int .i64 p1), (2, .int .i64 p2)]) ⟨rfl, rfl, rfl, trivial⟩ ?_
  obtain rfl := SlR.qlen h_p0
  refine WK.sub (e' := [(0, .slice a_p0 p0.length c_p0), (1, .int .i64 p1), (2, .int .i64 p2)]) ⟨rfl, rfl, rfl, trivial⟩ ?_
  unfold aggregate_reached at hm
  refine WK_seq ?_
  refine WK_region ?_
  refine WO_pure tbok 1 [(0, .slice a_p0 p0.length c_p0), (1, .int .i64 p1), (2, .int .i64 p2), (6, .slice none 0 0)] rfl ⟨rfl, rfl, rfl, rfl, trivial⟩ ?_
  refine WO_end ?_
  refine WK_seq ?_
  refine WK_region ?_
  refine WO_pure tbok 1 [(0, .slice a_p0 p0.length c_p0), (1, .int .i64 p1), (2, .int .i64 p2), (6, .slice none 0 0), (11, .slice a_p0 p0.length c_p0)] rfl ⟨rfl, rfl, rfl, rfl, rfl, trivial⟩ ?_
  obtain ⟨y_1, hc2, hm⟩ := bind_some hm
  refine WO_call0 (.int .i64 y_1) rfl rfl trivial rfl rfl rfl rfl St_closed ⟨34, #[], #[], rfl, callable_34, fun w hw => ⟨_, hw.sat, slices_Min_sint_walk h_p0 hc2⟩⟩ ?_
  refine WO_pure tbok 1 [(0, .slice a_p0 p0.length c_p0), (1, .int .i64 p1), (2, .int .i64 p2), (6, .slice none 0 0), (7, .int .i64 y_1)] rfl ⟨rfl, rfl, rfl, rfl, rfl, trivial⟩ ?_
  refine WO_end ?_
  refine WK_seq ?_
  refine WK_region ?_
  refine WO_pure tbok 2 [(0, .slice a_p0 p0.length c_p0), (1, .int .i64 p1), (2, .int .i64 p2), (6, .slice none 0 0), (7, .int .i64 y_1), (14, .int .i64 (p0.length : Int))] rfl ⟨rfl, rfl, rfl, rfl, rfl, rfl, trivial⟩ ?_
  obtain ⟨hc3, hm⟩ := chk_some hm
  refine WO_make (E := (I1 .i64)) tbok (fun _ => rfl) (by decide) (0 : Int) rfl rfl trivial rfl rfl rfl rfl rfl rfl rfl rfl rfl (mk_ok (by decide) hc3) (fun b4 c5 L6 hL6 => ?_)
  refine WO.cls (C' := St w0 m m [L6]) (fun _ h => h) ?_
  refine WO_pure tbok 1 [(0, .slice a_p0 p0.length c_p0), (1, .int .i64 p1), (2, .int .i64 p2), (6, .slice none 0 0), (7, .int .i64 y_1), (8, .slice (some ⟨b4, 0, none⟩) ((List.replicate (p0.length : Int).toNat (0 : Int)).length) c5)] rfl ⟨rfl, rfl, rfl, rfl, rfl, rfl, trivial⟩ ?_
  refine WO_end ?_
  refine WK_seq ?_
  refine WK_seq ?_
  refine WK_region ?_
  refine WO_pure tbok 3 [(0, .slice a_p0 p0.length c_p0), (1, .int .i64 p1), (2, .int .i64 p2), (6, .slice none 0 0), (7, .int .i64 y_1), (8, .slice (some ⟨b4, 0, none⟩) ((List.replicate (p0.length : Int).toNat (0 : Int)).length) c5), (16, .slice a_p0 p0.length c_p0), (17, .int .i64 (p0.length : Int)), (18, .int .i64 0)] rfl ⟨rfl, rfl, rfl, rfl, rfl, rfl, rfl, rfl, rfl, trivial⟩ ?_
  refine WO_end ?_
  obtain ⟨x12, hx13, hm⟩ := bind_some hm
  refine WK_join (β := (List Int) × (List Ent)) (fun p => p.1 = x12 ∧ OwnE 3 1 (I1 .i64) (.slice (some ⟨b4, 0, none⟩) ((List.replicate (p0.length : Int).toNat (0 : Int)).length) c5) p.1 p.2) (fun p => [(6, .slice none 0 0), (8, .slice (some ⟨b4, 0, none⟩) ((List.replicate (p0.length : Int).toNat (0 : Int)).length) c5)]) (fun p => St w0 m m [p.2]) ?_ (fun hk14 => ?_)
  · rintro ⟨l_4, L11⟩ ⟨hq20, hL11⟩
    subst hq20
    refine WK.sub (e' := [(6, .slice none 0 0), (8, .slice (some ⟨b4, 0, none⟩) ((List.replicate (p0.length : Int).toNat (0 : Int)).length) c5)]) ⟨rfl, rfl, trivial⟩ (WK.cls (C' := St w0 m m [L11]) (fun _ h => h) ?_)
    refine WK_seq ?_
    refine WK_region ?_
    refine WO_pure tbok 2 [(6, .slice (some ⟨b4, 0, none⟩) ((List.replicate (p0.length : Int).toNat (0 : Int)).length) c5)] rfl ⟨rfl, trivial⟩ ?_
    refine WO_end ?_
    cases hm
    exact WK_ret (ret_out (L := L11) (RLc_tmp rfl RLc_nil) (seg_sub 0 rfl) ⟨(some ⟨b4, 0, none⟩), ((List.replicate (p0.length : Int).toNat (0 : Int)).length), c5, rfl, hL11⟩)
  · refine WK_block ?_
    refine WK_loop (S := List Int × Int) (G := List Ent) (fun s => aggregate_reached_s1 p0 p1 p2 y_1 s.1 s.2) (fun s g => [(0, .slice a_p0 p0.length c_p0), (1, .int .i64 p1), (2, .int .i64 p2), (6, .slice none 0 0), (7, .int .i64 y_1), (8, .slice (some ⟨b4, 0, none⟩) ((List.replicate (p0.length : Int).toNat (0 : Int)).length) c5), (16, .slice a_p0 p0.length c_p0), (17, .int .i64 (p0.length : Int)), (18, .int .i64 s.2)]) (fun s g => St w0 m m [g]) (fun s g => OwnE 3 1 (I1 .i64) (.slice (some ⟨b4, 0, none⟩) ((List.replicate (p0.length : Int).toNat (0 : Int)).length) c5) s.1 g) FUEL ((List.replicate (p0.length : Int).toNat (0 : Int)), 0) L6 x12 hx13 hL6 ⟨rfl, rfl, rfl, rfl, rfl, rfl, rfl, rfl, rfl, trivial⟩ (fun _ h => h) ?_
    rintro ⟨l_2, s_3⟩ L9 o16 fl17 hm15 hL9 hn18 hd19
    have hm15 : aggregate_reached_s1 p0 p1 p2 y_1 l_2 s_3 = some o16 := hm15
    unfold aggregate_reached_s1 at hm15
    refine WK.sub (e' := [(0, .slice a_p0 p0.length c_p0), (1, .int .i64 p1), (2, .int .i64 p2), (6, .slice none 0 0), (7, .int .i64 y_1), (8, .slice (some ⟨b4, 0, none⟩) ((List.replicate (p0.length : Int).toNat (0 : Int)).length) c5), (16, .slice a_p0 p0.length c_p0), (17, .int .i64 (p0.length : Int)), (18, .int .i64 s_3)]) ⟨rfl, rfl, rfl, rfl, rfl, rfl, rfl, rfl, rfl, trivial⟩ (WK.cls (C' := St w0 m m [L9]) (fun _ h => h) ?_)
    refine WK_seq ?_
    refine WK_region ?_
    refine WO_pure tbok 1 [(0, .slice a_p0 p0.length c_p0), (1, .int .i64 p1), (2, .int .i64 p2), (6, .slice none 0 0), (7, .int .i64 y_1), (8, .slice (some ⟨b4, 0, none⟩) ((List.replicate (p0.length : Int).toNat (0 : Int)).length) c5), (16, .slice a_p0 p0.length c_p0), (17, .int .i64 (p0.length : Int)), (18, .int .i64 s_3), (19, .bool (decide (s_3 < (p0.length : Int))))] rfl ⟨rfl, rfl, rfl, rfl, rfl, rfl, rfl, rfl, rfl, rfl, trivial⟩ ?_
    refine WO_end ?_
    refine WK_seq ?_
    refine WK_cond (b := decide (s_3 < (p0.length : Int))) rfl (fun hb21 => ?_) (fun hb21 => ?_)
    · have hm15 := ifT hb21 hm15
      refine WK_skip ?_
      refine WK_seq ?_
      refine WK_block ?_
      refine WK_seq ?_
      refine WK_region ?_
      refine WO_pure tbok 1 [(0, .slice a_p0 p0.length c_p0), (1, .int .i64 p1), (2, .int .i64 p2), (6, .slice none 0 0), (7, .int .i64 y_1), (8, .slice (some ⟨b4, 0, none⟩) ((List.replicate (p0.length : Int).toNat (0 : Int)).length) c5), (16, .slice a_p0 p0.length c_p0), (17, .int .i64 (p0.length : Int)), (18, .int .i64 s_3), (20, .int .i64 s_3)] rfl ⟨rfl, rfl, rfl, rfl, rfl, rfl, rfl, rfl, rfl, rfl, trivial⟩ ?_
      obtain ⟨v_5, hy22, hm15⟩ := bind_some hm15
      obtain ⟨hc23, hy22⟩ := ix_some hy22
      refine WO_index tbok rfl rfl rfl rfl rfl rfl rfl rfl (SlR.addr h_p0) hc23 ?_
      refine WO_loadE tbok rfl rfl rfl rfl (fun _ h => St.sat h) h_p0 hy22 rfl ?_
      refine WO_pure tbok 2 [(0, .slice a_p0 p0.length c_p0), (1, .int .i64 p1), (2, .int .i64 p2), (6, .slice none 0 0), (7, .int .i64 y_1), (8, .slice (some ⟨b4, 0, none⟩) ((List.replicate (p0.length : Int).toNat (0 : Int)).length) c5), (9, .int .i64 s_3), (10, .int .i64 v_5), (16, .slice a_p0 p0.length c_p0), (17, .int .i64 (p0.length : Int)), (18, .int .i64 s_3)] rfl ⟨rfl, rfl, rfl, rfl, rfl, rfl, rfl, rfl, rfl, rfl, rfl, trivial⟩ ?_
      refine WO_end ?_
      refine WK_seq ?_
      refine WK_region ?_
      refine WO_pure tbok 7 [(0, .slice a_p0 p0.length c_p0), (1, .int .i64 p1), (2, .int .i64 p2), (6, .slice none 0 0), (7, .int .i64 y_1), (8, .slice (some ⟨b4, 0, none⟩) ((List.replicate (p0.length : Int).toNat (0 : Int)).length) c5), (9, .int .i64 s_3), (16, .slice a_p0 p0.length c_p0), (17, .int .i64 (p0.length : Int)), (18, .int .i64 s_3), (23, .slice (some ⟨b4, 0, none⟩) ((List.replicate (p0.length : Int).toNat (0 : Int)).length) c5), (24, .int .i64 s_3), (29, .int .i64 (if (w64 (y_1 + p2)) < v_5 then (w64 (y_1 + p2)) else v_5))] rfl ⟨rfl, rfl, rfl, rfl, rfl, rfl, rfl, rfl, rfl, rfl, rfl, rfl, rfl, trivial⟩ ?_
      obtain ⟨hc24, hm15⟩ := chk_some hm15
      refine WO_index tbok rfl rfl rfl rfl rfl rfl rfl rfl (OwnE.addr hL9) (by simpa using hc24) ?_
      refine WO_storeO (E := (I1 .i64)) tbok (fun _ => rfl) 0 (if (w64 (y_1 + p2)) < v_5 then (w64 (y_1 + p2)) else v_5) rfl rfl rfl rfl rfl hL9 rfl (by simpa using idx_lt hc24) rfl rfl rfl rfl (fun L25 hL25 => ?_)
      refine WO.cls (C' := St w0 m m [L25]) (fun _ h => h) ?_
      refine WO_end ?_
      refine WK_seq ?_
      refine WK_seq ?_
      refine WK_region ?_
      refine WO_pure tbok 2 [(0, .slice a_p0 p0.length c_p0), (1, .int .i64 p1), (2, .int .i64 p2), (6, .slice none 0 0), (7, .int .i64 y_1), (8, .slice (some ⟨b4, 0, none⟩) ((List.replicate (p0.length : Int).toNat (0 : Int)).length) c5), (9, .int .i64 s_3), (16, .slice a_p0 p0.length c_p0), (17, .int .i64 (p0.length : Int)), (18, .int .i64 s_3), (32, .bool (decide (0 < s_3)))] rfl ⟨rfl, rfl, rfl, rfl, rfl, rfl, rfl, rfl, rfl, rfl, rfl, trivial⟩ ?_
      refine WO_end ?_
      obtain ⟨l_6, hx29, hm15⟩ := bind_some hm15
      refine WK_join (β := List Ent) (fun p => OwnE 3 1 (I1 .i64) (.slice (some ⟨b4, 0, none⟩) ((List.replicate (p0.length : Int).toNat (0 : Int)).length) c5) l_6 p) (fun p => [(0, .slice a_p0 p0.length c_p0), (1, .int .i64 p1), (2, .int .i64 p2), (6, .slice none 0 0), (7, .int .i64 y_1), (8, .slice (some ⟨b4, 0, none⟩) ((List.replicate (p0.length : Int).toNat (0 : Int)).length) c5), (9, .int .i64 s_3), (16, .slice a_p0 p0.length c_p0), (17, .int .i64 (p0.length : Int)), (18, .int .i64 s_3)]) (fun p => St w0 m m [p]) ?_ (fun hk30 => ?_)
      · rintro L28 hL28
        refine WK.sub (e' := [(0, .slice a_p0 p0.length c_p0), (1, .int .i64 p1), (2, .int .i64 p2), (6, .slice none 0 0), (7, .int .i64 y_1), (8, .slice (some ⟨b4, 0, none⟩) ((List.replicate (p0.length : Int).toNat (0 : Int)).length) c5), (9, .int .i64 s_3), (16, .slice a_p0 p0.length c_p0), (17, .int .i64 (p0.length : Int)), (18, .int .i64 s_3)]) ⟨rfl, rfl, rfl, rfl, rfl, rfl, rfl, rfl, rfl, rfl, trivial⟩ (WK.cls (C' := St w0 m m [L28]) (fun _ h => h) ?_)
        refine WK_seq ?_
        refine WK_region ?_
        refine WO_pure tbok 5 [(0, .slice a_p0 p0.length c_p0), (1, .int .i64 p1), (2, .int .i64 p2), (6, .slice none 0 0), (7, .int .i64 y_1), (8, .slice (some ⟨b4, 0, none⟩) ((List.replicate (p0.length : Int).toNat (0 : Int)).length) c5), (9, .int .i64 s_3), (16, .slice a_p0 p0.length c_p0), (17, .int .i64 (p0.length : Int)), (18, .int .i64 s_3), (52, .bool (decide ((w64 (s_3 + 1)) < (p0.length : Int))))] rfl ⟨rfl, rfl, rfl, rfl, rfl, rfl, rfl, rfl, rfl, rfl, rfl, trivial⟩ ?_
        refine WO_end ?_
        obtain ⟨l_7, hx33, hm15⟩ := bind_some hm15
        refine WK_join (β := List Ent) (fun p => OwnE 3 1 (I1 .i64) (.slice (some ⟨b4, 0, none⟩) ((List.replicate (p0.length : Int).toNat (0 : Int)).length) c5) l_7 p) (fun p => [(0, .slice a_p0 p0.length c_p0), (1, .int .i64 p1), (2, .int .i64 p2), (6, .slice none 0 0), (7, .int .i64 y_1), (8, .slice (some ⟨b4, 0, none⟩) ((List.replicate (p0.length : Int).toNat (0 : Int)).length) c5), (16, .slice a_p0 p0.length c_p0), (17, .int .i64 (p0.length : Int)), (18, .int .i64 s_3)]) (fun p => St w0 m m [p]) ?_ (fun hk34 => ?_)
        · rintro L32 hL32
          refine WK.sub (e' := [(0, .slice a_p0 p0.length c_p0), (1, .int .i64 p1), (2, .int .i64 p2), (6, .slice none 0 0), (7, .int .i64 y_1), (8, .slice (some ⟨b4, 0, none⟩) ((List.replicate (p0.length : Int).toNat (0 : Int)).length) c5), (16, .slice a_p0 p0.length c_p0), (17, .int .i64 (p0.length : Int)), (18, .int .i64 s_3)]) ⟨rfl, rfl, rfl, rfl, rfl, rfl, rfl, rfl, rfl, trivial⟩ (WK.cls (C' := St w0 m m [L32]) (fun _ h => h) ?_)
          refine WK_blk ?_
          refine WK_region ?_
          refine WO_pure tbok 2 [(0, .slice a_p0 p0.length c_p0), (1, .int .i64 p1), (2, .int .i64 p2), (6, .slice none 0 0), (7, .int .i64 y_1), (8, .slice (some ⟨b4, 0, none⟩) ((List.replicate (p0.length : Int).toNat (0 : Int)).length) c5), (16, .slice a_p0 p0.length c_p0), (17, .int .i64 (p0.length : Int)), (18, .int .i64 (w64 (s_3 + 1)))] rfl ⟨rfl, rfl, rfl, rfl, rfl, rfl, rfl, rfl, rfl, trivial⟩ ?_
          refine WO_end ?_
          cases hm15
          refine WK.sub ?_ (WK.cls (fun _ h => h) (hn18 _ L32 rfl hL32))
          exact ⟨rfl, rfl, rfl, rfl, rfl, rfl, rfl, rfl, rfl, trivial⟩
        · refine WK_cond (b := decide ((w64 (s_3 + 1)) < (p0.length : Int))) rfl (fun hb35 => ?_) (fun hb35 => ?_)
          · have hx33 := ifT hb35 hx33
            refine WK_draw 15 [0, 1, 2, 3, 4, 5, 6, 7, 8, 9, 10, 11, 12, 13, 14] follows_ok (by kernel_rfl) St_closed ?_
            refine WO_pure tbok 4 [(0, .slice a_p0 p0.length c_p0), (1, .int .i64 p1), (2, .int .i64 p2), (6, .slice none 0 0), (7, .int .i64 y_1), (8, .slice (some ⟨b4, 0, none⟩) ((List.replicate (p0.length : Int).toNat (0 : Int)).length) c5), (9, .int .i64 s_3), (16, .slice a_p0 p0.length c_p0), (17, .int .i64 (p0.length : Int)), (18, .int .i64 s_3), (53, .slice (some ⟨b4, 0, none⟩) ((List.replicate (p0.length : Int).toNat (0 : Int)).length) c5), (54, .int .i64 s_3), (55, .slice (some ⟨b4, 0, none⟩) ((List.replicate (p0.length : Int).toNat (0 : Int)).length) c5), (56, .int .i64 s_3)] rfl ⟨rfl, rfl, rfl, rfl, rfl, rfl, rfl, rfl, rfl, rfl, rfl, rfl, rfl, rfl, trivial⟩ ?_
            obtain ⟨v_8, hy36, hx33⟩ := bind_some hx33
            obtain ⟨hc37, hy36⟩ := ix_some hy36
            refine WO_index tbok rfl rfl rfl rfl rfl rfl rfl rfl (OwnE.addr hL28) (by simpa using hc37) ?_
            refine WO_loadO (E := (I1 .i64)) tbok (fun _ => rfl) 0 rfl rfl rfl rfl (fun _ h => h) hL28 rfl hy36 rfl ?_
            refine WO_pure tbok 3 [(0, .slice a_p0 p0.length c_p0), (1, .int .i64 p1), (2, .int .i64 p2), (6, .slice none 0 0), (7, .int .i64 y_1), (8, .slice (some ⟨b4, 0, none⟩) ((List.replicate (p0.length : Int).toNat (0 : Int)).length) c5), (16, .slice a_p0 p0.length c_p0), (17, .int .i64 (p0.length : Int)), (18, .int .i64 s_3), (53, .slice (some ⟨b4, 0, none⟩) ((List.replicate (p0.length : Int).toNat (0 : Int)).length) c5), (54, .int .i64 s_3), (58, .int .i64 v_8), (59, .slice a_p0 p0.length c_p0), (61, .int .i64 (w64 (s_3 + 1)))] rfl ⟨rfl, rfl, rfl, rfl, rfl, rfl, rfl, rfl, rfl, rfl, rfl, rfl, rfl, rfl, trivial⟩ ?_
            obtain ⟨v_9, hy38, hx33⟩ := bind_some hx33
            obtain ⟨hc39, hy38⟩ := ix_some hy38
            refine WO_index tbok rfl rfl rfl rfl rfl rfl rfl rfl (SlR.addr h_p0) hc39 ?_
            refine WO_loadE tbok rfl rfl rfl rfl (fun _ h => St.sat h) h_p0 hy38 rfl ?_
            refine WO_pure tbok 3 [(0, .slice a_p0 p0.length c_p0), (1, .int .i64 p1), (2, .int .i64 p2), (6, .slice none 0 0), (7, .int .i64 y_1), (8, .slice (some ⟨b4, 0, none⟩) ((List.replicate (p0.length : Int).toNat (0 : Int)).length) c5), (16, .slice a_p0 p0.length c_p0), (17, .int .i64 (p0.length : Int)), (18, .int .i64 s_3), (53, .slice (some ⟨b4, 0, none⟩) ((List.replicate (p0.length : Int).toNat (0 : Int)).length) c5), (54, .int .i64 s_3), (66, .int .i64 (if (w64 (v_9 + p1)) < v_8 then (w64 (v_9 + p1)) else v_8))] rfl ⟨rfl, rfl, rfl, rfl, rfl, rfl, rfl, rfl, rfl, rfl, rfl, rfl, trivial⟩ ?_
            obtain ⟨hc40, hx33⟩ := chk_some hx33
            refine WO_index tbok rfl rfl rfl rfl rfl rfl rfl rfl (OwnE.addr hL28) (by simpa using hc40) ?_
            refine WO_tail ?_
            refine WO_storeO (E := (I1 .i64)) tbok (fun _ => rfl) 0 (if (w64 (v_9 + p1)) < v_8 then (w64 (v_9 + p1)) else v_8) rfl rfl rfl rfl rfl hL28 rfl (by simpa using idx_lt hc40) rfl rfl rfl rfl (fun L41 hL41 => ?_)
            refine WO.cls (C' := St w0 m m [L41]) (fun _ h => h) ?_
            refine WO_end ?_
            cases hx33
            refine WK.sub ?_ (WK.cls (fun _ h => h) (hk34 L41 hL41))
            exact ⟨rfl, rfl, rfl, rfl, rfl, rfl, rfl, rfl, rfl, trivial⟩
          · have hx33 := ifF hb35 hx33
            refine WK_skip ?_
            cases hx33
            refine WK.sub ?_ (WK.cls (fun _ h => h) (hk34 L28 hL28))
            exact ⟨rfl, rfl, rfl, rfl, rfl, rfl, rfl, rfl, rfl, trivial⟩
      · refine WK_cond (b := decide (0 < s_3)) rfl (fun hb43 => ?_) (fun hb43 => ?_)
        · have hx29 := ifT hb43 hx29
          refine WK_draw 15 [0, 1, 2, 3, 4, 5, 6, 7, 8, 9, 10, 11, 12, 13, 14] follows_ok (by kernel_rfl) St_closed ?_
          refine WO_pure tbok 4 [(0, .slice a_p0 p0.length c_p0), (1, .int .i64 p1), (2, .int .i64 p2), (6, .slice none 0 0), (7, .int .i64 y_1), (8, .slice (some ⟨b4, 0, none⟩) ((List.replicate (p0.length : Int).toNat (0 : Int)).length) c5), (9, .int .i64 s_3), (16, .slice a_p0 p0.length c_p0), (17, .int .i64 (p0.length : Int)), (18, .int .i64 s_3), (33, .slice (some ⟨b4, 0, none⟩) ((List.replicate (p0.length : Int).toNat (0 : Int)).length) c5), (34, .int .i64 s_3), (35, .slice (some ⟨b4, 0, none⟩) ((List.replicate (p0.length : Int).toNat (0 : Int)).length) c5), (36, .int .i64 s_3)] rfl ⟨rfl, rfl, rfl, rfl, rfl, rfl, rfl, rfl, rfl, rfl, rfl, rfl, rfl, rfl, trivial⟩ ?_
          obtain ⟨v_10, hy44, hx29⟩ := bind_some hx29
          obtain ⟨hc45, hy44⟩ := ix_some hy44
          refine WO_index tbok rfl rfl rfl rfl rfl rfl rfl rfl (OwnE.addr hL25) (by simpa using hc45) ?_
          refine WO_loadO (E := (I1 .i64)) tbok (fun _ => rfl) 0 rfl rfl rfl rfl (fun _ h => h) hL25 rfl hy44 rfl ?_
          refine WO_pure tbok 3 [(0, .slice a_p0 p0.length c_p0), (1, .int .i64 p1), (2, .int .i64 p2), (6, .slice none 0 0), (7, .int .i64 y_1), (8, .slice (some ⟨b4, 0, none⟩) ((List.replicate (p0.length : Int).toNat (0 : Int)).length) c5), (9, .int .i64 s_3), (16, .slice a_p0 p0.length c_p0), (17, .int .i64 (p0.length : Int)), (18, .int .i64 s_3), (33, .slice (some ⟨b4, 0, none⟩) ((List.replicate (p0.length : Int).toNat (0 : Int)).length) c5), (34, .int .i64 s_3), (38, .int .i64 v_10), (39, .slice a_p0 p0.length c_p0), (41, .int .i64 (w64 (s_3 - 1)))] rfl ⟨rfl, rfl, rfl, rfl, rfl, rfl, rfl, rfl, rfl, rfl, rfl, rfl, rfl, rfl, rfl, trivial⟩ ?_
          obtain ⟨v_11, hy46, hx29⟩ := bind_some hx29
          obtain ⟨hc47, hy46⟩ := ix_some hy46
          refine WO_index tbok rfl rfl rfl rfl rfl rfl rfl rfl (SlR.addr h_p0) hc47 ?_
          refine WO_loadE tbok rfl rfl rfl rfl (fun _ h => St.sat h) h_p0 hy46 rfl ?_
          refine WO_pure tbok 3 [(0, .slice a_p0 p0.length c_p0), (1, .int .i64 p1), (2, .int .i64 p2), (6, .slice none 0 0), (7, .int .i64 y_1), (8, .slice (some ⟨b4, 0, none⟩) ((List.replicate (p0.length : Int).toNat (0 : Int)).length) c5), (9, .int .i64 s_3), (16, .slice a_p0 p0.length c_p0), (17, .int .i64 (p0.length : Int)), (18, .int .i64 s_3), (33, .slice (some ⟨b4, 0, none⟩) ((List.replicate (p0.length : Int).toNat (0 : Int)).length) c5), (34, .int .i64 s_3), (46, .int .i64 (if (w64 (v_11 + p1)) < v_10 then (w64 (v_11 + p1)) else v_10))] rfl ⟨rfl, rfl, rfl, rfl, rfl, rfl, rfl, rfl, rfl, rfl, rfl, rfl, rfl, trivial⟩ ?_
          obtain ⟨hc48, hx29⟩ := chk_some hx29
          refine WO_index tbok rfl rfl rfl rfl rfl rfl rfl rfl (OwnE.addr hL25) (by simpa using hc48) ?_
          refine WO_tail ?_
          refine WO_storeO (E := (I1 .i64)) tbok (fun _ => rfl) 0 (if (w64 (v_11 + p1)) < v_10 then (w64 (v_11 + p1)) else v_10) rfl rfl rfl rfl rfl hL25 rfl (by simpa using idx_lt hc48) rfl rfl rfl rfl (fun L49 hL49 => ?_)
          refine WO.cls (C' := St w0 m m [L49]) (fun _ h => h) ?_
          refine WO_end ?_
          cases hx29
          refine WK.sub ?_ (WK.cls (fun _ h => h) (hk30 L49 hL49))
          exact ⟨rfl, rfl, rfl, rfl, rfl, rfl, rfl, rfl, rfl, rfl, trivial⟩
        · have hx29 := ifF hb43 hx29
          refine WK_skip ?_
          cases hx29
          refine WK.sub ?_ (WK.cls (fun _ h => h) (hk30 L25 hL25))
          exact ⟨rfl, rfl, rfl, rfl, rfl, rfl, rfl, rfl, rfl, rfl, trivial⟩
    · have hm15 := ifF hb21 hm15
      refine WK_exit rfl ?_
      cases hm15
      refine WK.sub ?_ (WK.cls (fun _ h => h) (hk14 (l_2, L9) ⟨(hd19 _ rfl), hL9⟩))
      exact ⟨rfl, rfl, trivial⟩
def aggregate_table_Q (r : List (List Int)) : Value → Mu → List Ent → Prop := fun v m L => ∃ (a0 : Option Addr) (q0 c0 : Nat), v = .slice a0 q0 c0 ∧ SlR (RowE (FE (I1 .i64)) 1) 1 m (.slice a0 q0 c0) r
theorem aggregate_table_walk {m : Mu} {p0 : List (List Int)} {p1 : Int} {p2 : Int} {a_p0 : Option Addr} {q_p0 c_p0 : Nat} (h_p0 : SlR (RowE (FE (I1 .i64)) 1) 1 m (.slice a_p0 q_p0 c_p0) p0) {r : List (List Int)} (hm : aggregate_table p0 p1 p2 = some r) :
    Go.E.Spec Try.prog 33 [.slice a_p0 q_p0 c_p0, .int .i64 p1, .int .i64 p2] m (aggregate_table_Q r) := by
  refine Spec_enter Try.func33 rfl rfl rfl (fun w0 => ?_)
  refine WK.sub (e' := [(0, .slice a_p0 q_p0 c_p0), (1, .int .i64 p1), (2, .int .i64 p2)]) ⟨rfl, rfl, rfl, trivial⟩ ?_
  obtain rfl := SlR.qlen h_p0
  refine WK.sub (e' := [(0, .slice a_p0 p0.length c_p0), (1, .int .i64 p1), (2, .int .i64 p2)]) ⟨rfl, rfl, rfl, trivial⟩ ?_
  unfold aggregate_table at hm
  refine WK_seq ?_
  refine WK_region ?_
  refine WO_pure tbok 1 [(0, .slice a_p0 p0.length c_p0), (1, .int .i64 p1), (2, .int .i64 p2), (6, .slice none 0 0)] rfl ⟨rfl, rfl, rfl, rfl, trivial⟩ ?_
  refine WO_end ?_
  refine WK_seq ?_
  refine WK_region ?_
  refine WO_pure tbok 1 [(0, .slice a_p0 p0.length c_p0), (1, .int .i64 p1), (2, .int .i64 p2), (6, .slice none 0 0), (13, .slice a_p0 p0.length c_p0)] rfl ⟨rfl, rfl, rfl, rfl, rfl, trivial⟩ ?_
  obtain ⟨v_1, hy2, hm⟩ := bind_some hm
  obtain ⟨hc3, hy2⟩ := ix_some hy2
  refine WO_index tbok rfl rfl rfl rfl rfl rfl rfl rfl (SlR.addr h_p0) hc3 ?_
  refine WO_loadR tbok rfl rfl rfl rfl (fun _ h => St.sat h) h_p0 hy2 rfl rfl (fun a4 c5 h6 => ?_)
  obtain ⟨y_2, hc8, hm⟩ := bind_some hm
  refine WO_call1 (slices_Clone_sint_Q y_2) rfl rfl trivial rfl rfl rfl rfl ⟨58, #[], #[], rfl, callable_58, fun w hw => ⟨_, hw.sat, slices_Clone_sint_walk h6 hc8⟩⟩ (fun v13 L12 hq => ?_)
  obtain ⟨a9, qa9, c10, rfl, hL12⟩ := hq
  obtain rfl := OwnE.qlen hL12
  refine WO.cls (C' := St w0 m m [L12]) (fun _ h => h) ?_
  refine WO_freeze 0 rfl (fun m15 hle16 hmm17 => ?_)
  refine WO.cls (C' := St w0 m m15 [[]]) (fun _ h => h) ?_
  refine WO_bsliceX (E := V1) (El := (RowE (FE (I1 .i64)) 1)) tbok (fun _ => rfl) (by decide) [.slice a9 ((y_2).length) c10] [.slice a9 ((y_2).length) c10] ([y_2] : List (List Int)) rfl rfl trivial rfl rfl rfl rfl rfl rfl rfl rfl rfl rfl rfl rfl ⟨⟨_, rfl, (OwnE.rd (E := (I1 .i64)) (k := 1) (fun _ => rfl) hL12 hmm17)⟩, trivial⟩ (fun b14 hb14 => ?_)
  refine WO.cls (C' := St w0 m m15 [[], [⟨b14, 24, [.slice a9 ((y_2).length) c10]⟩]]) (fun _ h => h) ?_
  refine WO_pure tbok 1 [(0, .slice a_p0 p0.length c_p0), (1, .int .i64 p1), (2, .int .i64 p2), (6, .slice none 0 0), (7, .slice (some ⟨b14, 0, none⟩) 1 1)] rfl ⟨rfl, rfl, rfl, rfl, rfl, trivial⟩ ?_
  refine WO_end ?_
  refine WK_seq ?_
  refine WK_seq ?_
  refine WK_region ?_
  refine WO_pure tbok 1 [(1, .int .i64 p1), (2, .int .i64 p2), (6, .slice none 0 0), (7, .slice (some ⟨b14, 0, none⟩) 1 1), (18, .slice a_p0 p0.length c_p0)] rfl ⟨rfl, rfl, rfl, rfl, rfl, trivial⟩ ?_
  obtain ⟨hc19, hm⟩ := chk_some hm
  have hc19 : 0 ≤ (1 : Int) ∧ (1 : Int) ≤ (p0.length : Int) ∧ (p0.length : Int) ≤ (p0.length : Int) := hc19
  have hz23 : SlR (RowE (FE (I1 .i64)) 1) 1 m15 (.slice a_p0 p0.length c_p0) p0 := (h_p0.mono (mono_RowE (mono_FE _) _) hle16)
  refine WO_slice tbok (some (1 : Int)) none none (1 : Int).toNat p0.length rfl rfl rfl rfl rfl rfl rfl rfl rfl rfl rfl hz23 (by simp only [Option.getD_some] <;> omega) (by have := SlR.qlen hz23; simp only [Option.getD_none] <;> omega) (fun q hq => by cases hq) (by omega) (by omega) (fun hh => by cases hh) (fun a20 c21 h22 => ?_)
  refine WO_pure tbok 2 [(1, .int .i64 p1), (2, .int .i64 p2), (6, .slice none 0 0), (7, .slice (some ⟨b14, 0, none⟩) 1 1), (19, .slice a20 (((p0.take p0.length).drop (1 : Int).toNat).length) c21), (20, .int .i64 (((p0.take p0.length).drop (1 : Int).toNat).length : Int)), (21, .int .i64 0)] rfl ⟨rfl, rfl, rfl, rfl, rfl, rfl, rfl, trivial⟩ ?_
  refine WO_end ?_
  obtain ⟨x39, hx40, hm⟩ := bind_some hm
  refine WK_join (β := (List (List Int)) × (Mu × Option Addr × Nat × Nat × List Ent)) (fun p => p.1 = x39 ∧ Le m15 p.2.1 ∧ OwnX 24 1 V1 (RowE (FE (I1 .i64)) 1) p.2.1 (.slice p.2.2.1 p.2.2.2.1 p.2.2.2.2.1) p.1 p.2.2.2.2.2) (fun p => [(6, .slice none 0 0), (7, .slice p.2.2.1 p.2.2.2.1 p.2.2.2.2.1)]) (fun p => St w0 m p.2.1 [[], p.2.2.2.2.2]) ?_ (fun hk41 => ?_)
  · rintro ⟨l_5, ⟨m32, a36, q37, c38, L35⟩⟩ ⟨hq47, hle33, hL35⟩
    subst hq47
    have hqq : q37 = l_5.length := OwnX.qlen hL35
    subst hqq
    refine WK.sub (e' := [(6, .slice none 0 0), (7, .slice a36 ((l_5).length) c38)]) ⟨rfl, rfl, trivial⟩ (WK.cls (C' := St w0 m m32 [[], L35]) (fun _ h => h) ?_)
    refine WK_seq ?_
    refine WK_region ?_
    refine WO_pure tbok 2 [(6, .slice a36 ((l_5).length) c38)] rfl ⟨rfl, trivial⟩ ?_
    refine WO_end ?_
    cases hm
    refine WK_freeze 1 rfl (fun m48 hle49 hmm50 => ?_)
    refine WK.cls (C' := St w0 m m48 [[], []]) (fun _ h => h) ?_
    exact WK_ret (ret_out (L := []) (RLc_tmp rfl RLc_nil) (List.nil_sublist _) ⟨a36, _, c38, rfl, (OwnX.rd (E := V1) (k := 1) (fun _ => rfl) hL35 (mono_RowE (mono_FE _) _) hle49 hmm50)⟩)
  · refine WK_block ?_
    refine WK_loop (S := List (List Int) × Int) (G := Mu × Option Addr × Nat × Nat × List Ent) (fun s => aggregate_table_s1 p0 p1 p2 s.1 s.2) (fun s g => [(1, .int .i64 p1), (2, .int .i64 p2), (6, .slice none 0 0), (7, .slice g.2.1 g.2.2.1 g.2.2.2.1), (19, .slice a20 (((p0.take p0.length).drop (1 : Int).toNat).length) c21), (20, .int .i64 (((p0.take p0.length).drop (1 : Int).toNat).length : Int)), (21, .int .i64 s.2)]) (fun s g => St w0 m g.1 [[], g.2.2.2.2]) (fun s g => Le m15 g.1 ∧ OwnX 24 1 V1 (RowE (FE (I1 .i64)) 1) g.1 (.slice g.2.1 g.2.2.1 g.2.2.2.1) s.1 g.2.2.2.2) FUEL (([y_2] : List (List Int)), 0) (m15, some ⟨b14, 0, none⟩, 1, 1, [⟨b14, 24, [.slice a9 ((y_2).length) c10]⟩]) x39 hx40 ⟨(Le.refl _), hb14⟩ ⟨rfl, rfl, rfl, rfl, rfl, rfl, rfl, trivial⟩ (fun _ h => h) ?_
    rintro ⟨l_3, s_4⟩ ⟨m25, a29, q30, c31, L28⟩ o43 fl44 hm42 ⟨hle26, hL28⟩ hn45 hd46
    have hm42 : aggregate_table_s1 p0 p1 p2 l_3 s_4 = some o43 := hm42
    unfold aggregate_table_s1 at hm42
    have hqq : q30 = l_3.length := OwnX.qlen hL28
    subst hqq
    refine WK.sub (e' := [(1, .int .i64 p1), (2, .int .i64 p2), (6, .slice none 0 0), (7, .slice a29 ((l_3).length) c31), (19, .slice a20 (((p0.take p0.length).drop (1 : Int).toNat).length) c21), (20, .int .i64 (((p0.take p0.length).drop (1 : Int).toNat).length : Int)), (21, .int .i64 s_4)]) ⟨rfl, rfl, rfl, rfl, rfl, rfl, rfl, trivial⟩ (WK.cls (C' := St w0 m m25 [[], L28]) (fun _ h => h) ?_)
    refine WK_seq ?_
    refine WK_region ?_
    refine WO_pure tbok 1 [(1, .int .i64 p1), (2, .int .i64 p2), (6, .slice none 0 0), (7, .slice a29 ((l_3).length) c31), (19, .slice a20 (((p0.take p0.length).drop (1 : Int).toNat).length) c21), (20, .int .i64 (((p0.take p0.length).drop (1 : Int).toNat).length : Int)), (21, .int .i64 s_4), (22, .bool (decide (s_4 < (((p0.take p0.length).drop (1 : Int).toNat).length : Int))))] rfl ⟨rfl, rfl, rfl, rfl, rfl, rfl, rfl, rfl, trivial⟩ ?_
    refine WO_end ?_
    refine WK_seq ?_
    refine WK_cond (b := decide (s_4 < (((p0.take p0.length).drop (1 : Int).toNat).length : Int))) rfl (fun hb51 => ?_) (fun hb51 => ?_)
    · have hm42 := ifT hb51 hm42
      refine WK_skip ?_
      refine WK_seq ?_
      refine WK_block ?_
      refine WK_seq ?_
      refine WK_region ?_
      obtain ⟨v_6, hy52, hm42⟩ := bind_some hm42
      obtain ⟨hc53, hy52⟩ := ix_some hy52
      refine WO_index tbok rfl rfl rfl rfl rfl rfl rfl rfl (SlR.addr (h22.mono (mono_RowE (mono_FE _) _) hle26)) hc53 ?_
      refine WO_loadR tbok rfl rfl rfl rfl (fun _ h => St.sat h) (h22.mono (mono_RowE (mono_FE _) _) hle26) hy52 rfl rfl (fun a54 c55 h56 => ?_)
      refine WO_pure tbok 1 [(1, .int .i64 p1), (2, .int .i64 p2), (6, .slice none 0 0), (7, .slice a29 ((l_3).length) c31), (9, .slice a54 ((v_6).length) c55), (19, .slice a20 (((p0.take p0.length).drop (1 : Int).toNat).length) c21), (20, .int .i64 (((p0.take p0.length).drop (1 : Int).toNat).length : Int)), (21, .int .i64 s_4)] rfl ⟨rfl, rfl, rfl, rfl, rfl, rfl, rfl, rfl, trivial⟩ ?_
      refine WO_end ?_
      refine WK_seq ?_
      refine WK_region ?_
      refine WO_pure tbok 4 [(1, .int .i64 p1), (2, .int .i64 p2), (6, .slice none 0 0), (7, .slice a29 ((l_3).length) c31), (9, .slice a54 ((v_6).length) c55), (19, .slice a20 (((p0.take p0.length).drop (1 : Int).toNat).length) c21), (20, .int .i64 (((p0.take p0.length).drop (1 : Int).toNat).length : Int)), (21, .int .i64 s_4), (25, .slice a29 ((l_3).length) c31), (28, .int .i64 (w64 (((l_3).length : Int) - 1)))] rfl ⟨rfl, rfl, rfl, rfl, rfl, rfl, rfl, rfl, rfl, rfl, trivial⟩ ?_
      obtain ⟨v_7, hy58, hm42⟩ := bind_some hm42
      obtain ⟨hc59, hy58⟩ := ix_some hy58
      refine WO_index tbok rfl rfl rfl rfl rfl rfl rfl rfl (OwnX.addr hL28) (by simpa using hc59) ?_
      refine WO_loadOX (E := V1) tbok (fun _ => rfl) 1 rfl rfl rfl rfl (fun _ h => h) hL28 rfl hy58 (fun cs hcs => ?_)
      obtain ⟨v0, rfl, h62⟩ := hcs
      obtain ⟨a60, c61, rfl, _⟩ := SlR.len h62
      refine ⟨_, rfl, ?_⟩
      refine WO_pure tbok 2 [(1, .int .i64 p1), (2, .int .i64 p2), (6, .slice none 0 0), (7, .slice a29 ((l_3).length) c31), (9, .slice a54 ((v_6).length) c55), (19, .slice a20 (((p0.take p0.length).drop (1 : Int).toNat).length) c21), (20, .int .i64 (((p0.take p0.length).drop (1 : Int).toNat).length : Int)), (21, .int .i64 s_4), (30, .slice a60 ((v_7).length) c61), (31, .int .i64 p1), (32, .int .i64 p2)] rfl ⟨rfl, rfl, rfl, rfl, rfl, rfl, rfl, rfl, rfl, rfl, rfl, trivial⟩ ?_
      obtain ⟨y_8, hc64, hm42⟩ := bind_some hm42
      refine WO_call1 (aggregate_reached_Q y_8) rfl rfl trivial rfl rfl rfl rfl ⟨42, #[], #[], rfl, callable_42, fun w hw => ⟨_, hw.sat, aggregate_reached_walk h62 hc64⟩⟩ (fun v69 L68 hq => ?_)
      obtain ⟨a65, qa65, c66, rfl, hL68⟩ := hq
      obtain rfl := OwnE.qlen hL68
      refine WO.cls (C' := St w0 m m25 [[], L28, L68]) (fun _ h => h) ?_
      refine WO_pure tbok 1 [(1, .int .i64 p1), (2, .int .i64 p2), (6, .slice none 0 0), (7, .slice a29 ((l_3).length) c31), (9, .slice a54 ((v_6).length) c55), (10, .slice a65 ((y_8).length) c66), (19, .slice a20 (((p0.take p0.length).drop (1 : Int).toNat).length) c21), (20, .int .i64 (((p0.take p0.length).drop (1 : Int).toNat).length : Int)), (21, .int .i64 s_4)] rfl ⟨rfl, rfl, rfl, rfl, rfl, rfl, rfl, rfl, rfl, trivial⟩ ?_
      refine WO_end ?_
      refine WK_seq ?_
      refine WK_seq ?_
      refine WK_region ?_
      refine WO_pure tbok 3 [(1, .int .i64 p1), (2, .int .i64 p2), (6, .slice none 0 0), (7, .slice a29 ((l_3).length) c31), (10, .slice a65 ((y_8).length) c66), (19, .slice a20 (((p0.take p0.length).drop (1 : Int).toNat).length) c21), (20, .int .i64 (((p0.take p0.length).drop (1 : Int).toNat).length : Int)), (21, .int .i64 s_4), (34, .slice a54 ((v_6).length) c55), (35, .int .i64 ((v_6).length : Int)), (36, .int .i64 0)] rfl ⟨rfl, rfl, rfl, rfl, rfl, rfl, rfl, rfl, rfl, rfl, rfl, trivial⟩ ?_
      refine WO_end ?_
      obtain ⟨x74, hx75, hm42⟩ := bind_some hm42
      refine WK_join (β := (List Int) × (List Ent)) (fun p => p.1 = x74 ∧ OwnE 3 1 (I1 .i64) (.slice a65 ((y_8).length) c66) p.1 p.2) (fun p => [(1, .int .i64 p1), (2, .int .i64 p2), (6, .slice none 0 0), (7, .slice a29 ((l_3).length) c31), (10, .slice a65 ((y_8).length) c66), (19, .slice a20 (((p0.take p0.length).drop (1 : Int).toNat).length) c21), (20, .int .i64 (((p0.take p0.length).drop (1 : Int).toNat).length : Int)), (21, .int .i64 s_4)]) (fun p => St w0 m m25 [[], L28, p.2]) ?_ (fun hk76 => ?_)
      · rintro ⟨l_11, L73⟩ ⟨hq82, hL73⟩
        subst hq82
        refine WK.sub (e' := [(1, .int .i64 p1), (2, .int .i64 p2), (6, .slice none 0 0), (7, .slice a29 ((l_3).length) c31), (10, .slice a65 ((y_8).length) c66), (19, .slice a20 (((p0.take p0.length).drop (1 : Int).toNat).length) c21), (20, .int .i64 (((p0.take p0.length).drop (1 : Int).toNat).length : Int)), (21, .int .i64 s_4)]) ⟨rfl, rfl, rfl, rfl, rfl, rfl, rfl, rfl, trivial⟩ (WK.cls (C' := St w0 m m25 [[], L28, L73]) (fun _ h => h) ?_)
        refine WK_region ?_
        refine WO_pure tbok 2 [(1, .int .i64 p1), (2, .int .i64 p2), (6, .slice none 0 0), (7, .slice a29 ((l_3).length) c31), (19, .slice a20 (((p0.take p0.length).drop (1 : Int).toNat).length) c21), (20, .int .i64 (((p0.take p0.length).drop (1 : Int).toNat).length : Int)), (21, .int .i64 s_4), (49, .slice a29 ((l_3).length) c31), (50, .slice a65 ((y_8).length) c66)] rfl ⟨rfl, rfl, rfl, rfl, rfl, rfl, rfl, rfl, rfl, trivial⟩ ?_
        refine WO_freeze 2 rfl (fun m84 hle85 hmm86 => ?_)
        refine WO.cls (C' := St w0 m m84 [[], L28, []]) (fun _ h => h) ?_
        refine WO_bsliceX (E := V1) (El := (RowE (FE (I1 .i64)) 1)) tbok (fun _ => rfl) (by decide) [.slice a65 ((y_8).length) c66] [.slice a65 ((y_8).length) c66] ([l_11] : List (List Int)) rfl rfl trivial rfl rfl rfl rfl rfl rfl rfl rfl rfl rfl rfl rfl ⟨⟨_, rfl, (OwnE.rd (E := (I1 .i64)) (k := 1) (fun _ => rfl) hL73 hmm86)⟩, trivial⟩ (fun b83 hb83 => ?_)
        refine WO.cls (C' := St w0 m m84 [[], L28, [], [⟨b83, 24, [.slice a65 ((y_8).length) c66]⟩]]) (fun _ h => h) ?_
        obtain ⟨hc88, hm42⟩ := chk_some hm42
        refine WO_appendX (E := V1) (El := (RowE (FE (I1 .i64)) 1)) tbok (fun _ => rfl) 1 [.slice a65 ((y_8).length) c66] ([l_11] : List (List Int)) (one_lit rfl) rfl rfl rfl rfl rfl rfl rfl rfl rfl rfl rfl rfl (hL28.mono (mono_RowE (mono_FE _) _) hle85) rfl (src_seg (j := 3) rfl) ⟨⟨_, rfl, (OwnE.rd (E := (I1 .i64)) (k := 1) (fun _ => rfl) hL73 hmm86)⟩, trivial⟩ (ap_ok (by decide) hc88) (ap_max hc88) (fun a89 c90 L91 hL91 => ?_)
        refine WO.cls (C' := St w0 m m84 [[], L91, [], [⟨b83, 24, [.slice a65 ((y_8).length) c66]⟩]]) (fun _ h => h) ?_
        refine WO_pure tbok 1 [(1, .int .i64 p1), (2, .int .i64 p2), (6, .slice none 0 0), (7, .slice a89 ((l_3 ++ ([l_11] : List (List Int))).length) c90), (19, .slice a20 (((p0.take p0.length).drop (1 : Int).toNat).length) c21), (20, .int .i64 (((p0.take p0.length).drop (1 : Int).toNat).length : Int)), (21, .int .i64 s_4)] rfl ⟨rfl, rfl, rfl, rfl, rfl, rfl, rfl, trivial⟩ ?_
        refine WO_end ?_
        refine WK_blk ?_
        refine WK_region ?_
        refine WO_pure tbok 2 [(1, .int .i64 p1), (2, .int .i64 p2), (6, .slice none 0 0), (7, .slice a89 ((l_3 ++ ([l_11] : List (List Int))).length) c90), (19, .slice a20 (((p0.take p0.length).drop (1 : Int).toNat).length) c21), (20, .int .i64 (((p0.take p0.length).drop (1 : Int).toNat).length : Int)), (21, .int .i64 (w64 (s_4 + 1)))] rfl ⟨rfl, rfl, rfl, rfl, rfl, rfl, rfl, trivial⟩ ?_
        refine WO_end ?_
        cases hm42
        refine WK.sub ?_ (WK.cls (fun _ h => St.take 2 h) (hn45 _ (m84, a89, (l_3 ++ ([l_11] : List (List Int))).length, c90, L91) rfl ⟨(hle26.trans hle85), hL91⟩))
        exact ⟨rfl, rfl, rfl, rfl, rfl, rfl, rfl, trivial⟩
      · refine WK_block ?_
        refine WK_loop (S := List Int × Int) (G := List Ent) (fun s => aggregate_table_s2 v_6 s.1 s.2) (fun s g => [(1, .int .i64 p1), (2, .int .i64 p2), (6, .slice none 0 0), (7, .slice a29 ((l_3).length) c31), (10, .slice a65 ((y_8).length) c66), (19, .slice a20 (((p0.take p0.length).drop (1 : Int).toNat).length) c21), (20, .int .i64 (((p0.take p0.length).drop (1 : Int).toNat).length : Int)), (21, .int .i64 s_4), (34, .slice a54 ((v_6).length) c55), (35, .int .i64 ((v_6).length : Int)), (36, .int .i64 s.2)]) (fun s g => St w0 m m25 [[], L28, g]) (fun s g => OwnE 3 1 (I1 .i64) (.slice a65 ((y_8).length) c66) s.1 g) FUEL (y_8, 0) L68 x74 hx75 hL68 ⟨rfl, rfl, rfl, rfl, rfl, rfl, rfl, rfl, rfl, rfl, rfl, trivial⟩ (fun _ h => h) ?_
        rintro ⟨l_9, s_10⟩ L71 o78 fl79 hm77 hL71 hn80 hd81
        have hm77 : aggregate_table_s2 v_6 l_9 s_10 = some o78 := hm77
        unfold aggregate_table_s2 at hm77
        refine WK.sub (e' := [(1, .int .i64 p1), (2, .int .i64 p2), (6, .slice none 0 0), (7, .slice a29 ((l_3).length) c31), (10, .slice a65 ((y_8).length) c66), (19, .slice a20 (((p0.take p0.length).drop (1 : Int).toNat).length) c21), (20, .int .i64 (((p0.take p0.length).drop (1 : Int).toNat).length : Int)), (21, .int .i64 s_4), (34, .slice a54 ((v_6).length) c55), (35, .int .i64 ((v_6).length : Int)), (36, .int .i64 s_10)]) ⟨rfl, rfl, rfl, rfl, rfl, rfl, rfl, rfl, rfl, rfl, rfl, trivial⟩ (WK.cls (C' := St w0 m m25 [[], L28, L71]) (fun _ h => h) ?_)
        refine WK_seq ?_
        refine WK_region ?_
        refine WO_pure tbok 1 [(1, .int .i64 p1), (2, .int .i64 p2), (6, .slice none 0 0), (7, .slice a29 ((l_3).length) c31), (10, .slice a65 ((y_8).length) c66), (19, .slice a20 (((p0.take p0.length).drop (1 : Int).toNat).length) c21), (20, .int .i64 (((p0.take p0.length).drop (1 : Int).toNat).length : Int)), (21, .int .i64 s_4), (34, .slice a54 ((v_6).length) c55), (35, .int .i64 ((v_6).length : Int)), (36, .int .i64 s_10), (37, .bool (decide (s_10 < ((v_6).length : Int))))] rfl ⟨rfl, rfl, rfl, rfl, rfl, rfl, rfl, rfl, rfl, rfl, rfl, rfl, trivial⟩ ?_
        refine WO_end ?_
        refine WK_seq ?_
        refine WK_cond (b := decide (s_10 < ((v_6).length : Int))) rfl (fun hb93 => ?_) (fun hb93 => ?_)
        · have hm77 := ifT hb93 hm77
          refine WK_skip ?_
          refine WK_seq ?_
          refine WK_block ?_
          refine WK_seq ?_
          refine WK_region ?_
          refine WO_pure tbok 1 [(1, .int .i64 p1), (2, .int .i64 p2), (6, .slice none 0 0), (7, .slice a29 ((l_3).length) c31), (10, .slice a65 ((y_8).length) c66), (19, .slice a20 (((p0.take p0.length).drop (1 : Int).toNat).length) c21), (20, .int .i64 (((p0.take p0.length).drop (1 : Int).toNat).length : Int)), (21, .int .i64 s_4), (34, .slice a54 ((v_6).length) c55), (35, .int .i64 ((v_6).length : Int)), (36, .int .i64 s_10), (38, .int .i64 s_10)] rfl ⟨rfl, rfl, rfl, rfl, rfl, rfl, rfl, rfl, rfl, rfl, rfl, rfl, trivial⟩ ?_
          obtain ⟨v_12, hy94, hm77⟩ := bind_some hm77
          obtain ⟨hc95, hy94⟩ := ix_some hy94
          refine WO_index tbok rfl rfl rfl rfl rfl rfl rfl rfl (SlR.addr h56) hc95 ?_
          refine WO_loadE tbok rfl rfl rfl rfl (fun _ h => St.sat h) h56 hy94 rfl ?_
          refine WO_pure tbok 2 [(1, .int .i64 p1), (2, .int .i64 p2), (6, .slice none 0 0), (7, .slice a29 ((l_3).length) c31), (10, .slice a65 ((y_8).length) c66), (11, .int .i64 s_10), (12, .int .i64 v_12), (19, .slice a20 (((p0.take p0.length).drop (1 : Int).toNat).length) c21), (20, .int .i64 (((p0.take p0.length).drop (1 : Int).toNat).length : Int)), (21, .int .i64 s_4), (34, .slice a54 ((v_6).length) c55), (35, .int .i64 ((v_6).length : Int)), (36, .int .i64 s_10)] rfl ⟨rfl, rfl, rfl, rfl, rfl, rfl, rfl, rfl, rfl, rfl, rfl, rfl, rfl, trivial⟩ ?_
          refine WO_end ?_
          refine WK_region ?_
          refine WO_pure tbok 2 [(1, .int .i64 p1), (2, .int .i64 p2), (6, .slice none 0 0), (7, .slice a29 ((l_3).length) c31), (10, .slice a65 ((y_8).length) c66), (12, .int .i64 v_12), (19, .slice a20 (((p0.take p0.length).drop (1 : Int).toNat).length) c21), (20, .int .i64 (((p0.take p0.length).drop (1 : Int).toNat).length : Int)), (21, .int .i64 s_4), (34, .slice a54 ((v_6).length) c55), (35, .int .i64 ((v_6).length : Int)), (36, .int .i64 s_10), (41, .slice a65 ((y_8).length) c66), (42, .int .i64 s_10)] rfl ⟨rfl, rfl, rfl, rfl, rfl, rfl, rfl, rfl, rfl, rfl, rfl, rfl, rfl, rfl, trivial⟩ ?_
          obtain ⟨v_13, hy96, hm77⟩ := bind_some hm77
          obtain ⟨hc97, hy96⟩ := ix_some hy96
          refine WO_index tbok rfl rfl rfl rfl rfl rfl rfl rfl (OwnE.addr hL71) (by simpa using hc97) ?_
          refine WO_loadO (E := (I1 .i64)) tbok (fun _ => rfl) 2 rfl rfl rfl rfl (fun _ h => h) hL71 rfl hy96 rfl ?_
          refine WO_pure tbok 2 [(1, .int .i64 p1), (2, .int .i64 p2), (6, .slice none 0 0), (7, .slice a29 ((l_3).length) c31), (10, .slice a65 ((y_8).length) c66), (19, .slice a20 (((p0.take p0.length).drop (1 : Int).toNat).length) c21), (20, .int .i64 (((p0.take p0.length).drop (1 : Int).toNat).length : Int)), (21, .int .i64 s_4), (34, .slice a54 ((v_6).length) c55), (35, .int .i64 ((v_6).length : Int)), (36, .int .i64 s_10), (41, .slice a65 ((y_8).length) c66), (42, .int .i64 s_10), (46, .int .i64 (w64 (v_13 + v_12)))] rfl ⟨rfl, rfl, rfl, rfl, rfl, rfl, rfl, rfl, rfl, rfl, rfl, rfl, rfl, rfl, trivial⟩ ?_
          obtain ⟨hc98, hm77⟩ := chk_some hm77
          refine WO_index tbok rfl rfl rfl rfl rfl rfl rfl rfl (OwnE.addr hL71) (by simpa using hc98) ?_
          refine WO_storeO (E := (I1 .i64)) tbok (fun _ => rfl) 2 (w64 (v_13 + v_12)) rfl rfl rfl rfl rfl hL71 rfl (by simpa using idx_lt hc98) rfl rfl rfl rfl (fun L99 hL99 => ?_)
          refine WO.cls (C' := St w0 m m25 [[], L28, L99]) (fun _ h => h) ?_
          refine WO_end ?_
          refine WK_blk ?_
          refine WK_region ?_
          refine WO_pure tbok 2 [(1, .int .i64 p1), (2, .int .i64 p2), (6, .slice none 0 0), (7, .slice a29 ((l_3).length) c31), (10, .slice a65 ((y_8).length) c66), (19, .slice a20 (((p0.take p0.length).drop (1 : Int).toNat).length) c21), (20, .int .i64 (((p0.take p0.length).drop (1 : Int).toNat).length : Int)), (21, .int .i64 s_4), (34, .slice a54 ((v_6).length) c55), (35, .int .i64 ((v_6).length : Int)), (36, .int .i64 (w64 (s_10 + 1)))] rfl ⟨rfl, rfl, rfl, rfl, rfl, rfl, rfl, rfl, rfl, rfl, rfl, trivial⟩ ?_
          refine WO_end ?_
          cases hm77
          refine WK.sub ?_ (WK.cls (fun _ h => h) (hn80 _ L99 rfl hL99))
          exact ⟨rfl, rfl, rfl, rfl, rfl, rfl, rfl, rfl, rfl, rfl, rfl, trivial⟩
        · have hm77 := ifF hb93 hm77
          refine WK_exit rfl ?_
          cases hm77
          refine WK.sub ?_ (WK.cls (fun _ h => h) (hk76 (l_9, L71) ⟨(hd81 _ rfl), hL71⟩))
          exact ⟨rfl, rfl, rfl, rfl, rfl, rfl, rfl, rfl, trivial⟩
    · have hm42 := ifF hb51 hm42
      refine WK_exit rfl ?_
      cases hm42
      refine WK.sub ?_ (WK.cls (fun _ h => h) (hk41 (l_3, (m25, a29, _, c31, L28)) ⟨(hd46 _ rfl), hle26, hL28⟩))
      exact ⟨rfl, rfl, trivial⟩
theorem slices_Index_sint_walk {m : Mu} {p0 : List Int} {p1 : Int} {a_p0 : Option Addr} {q_p0 c_p0 : Nat} (h_p0 : SlR (FE (I1 .i64)) 1 m (.slice a_p0 q_p0 c_p0) p0) {r : Int} (hm : slices_Index_sint p0 p1 = some r) :
    Go.E.Spec Try.prog 35 [.slice a_p0 q_p0 c_p0, .int .i64 p1] m (fun v _ _ => v = .int .i64 r) := by
  refine Spec_enter Try.func35 rfl rfl rfl (fun w0 => ?_)
  refine WK.sub (e' := [(0, .slice a_p0 q_p0 c_p0), (1, .int .i64 p1)]) ⟨rfl, rfl, trivial⟩ ?_
  obtain rfl := SlR.qlen h_p0
  refine WK.sub (e' := [(0, .slice a_p0 p0.length c_p0), (1, .int .i64 p1)]) ⟨rfl, rfl, trivial⟩ ?_
  unfold slices_Index_sint at hm
  refine WK_seq ?_
  refine WK_region ?_
  refine WO_pure tbok 1 [(0, .slice a_p0 p0.length c_p0), (1, .int .i64 p1), (4, .int .i64 0)] rfl ⟨rfl, rfl, rfl, trivial⟩ ?_
  refine WO_end ?_
  refine WK_seq ?_
  refine WK_seq ?_
  refine WK_region ?_
  refine WO_pure tbok 3 [(0, .slice a_p0 p0.length c_p0), (1, .int .i64 p1), (4, .int .i64 0), (7, .int .i64 (p0.length : Int)), (8, .int .i64 0)] rfl ⟨rfl, rfl, rfl, rfl, rfl, trivial⟩ ?_
  refine WO_end ?_
  obtain ⟨x2, hx3, hm⟩ := bind_some hm
  refine WK_join (β := Unit × Unit) (fun p => Sum.inr p.1 = x2) (fun p => [(4, .int .i64 0)]) (fun p => St w0 m m []) ?_ (fun hk4 => ?_)
  · rintro ⟨⟨⟩, ⟨⟩⟩ hq10
    subst hq10
    refine WK.sub (e' := [(4, .int .i64 0)]) ⟨rfl, trivial⟩ (WK.cls (C' := St w0 m m []) (fun _ h => h) ?_)
    refine WK_seq ?_
    refine WK_region ?_
    refine WO_pure tbok 1 [(4, .int .i64 (-1))] rfl ⟨rfl, trivial⟩ ?_
    refine WO_end ?_
    cases hm
    exact WK_ret (ret_out (L := []) (RLc_tmp rfl RLc_nil) (List.nil_sublist _) rfl)
  · refine WK_block ?_
    refine WK_loop (S := Int) (G := Unit) (fun s => slices_Index_sint_s1 p0 p1 s) (fun s g => [(0, .slice a_p0 p0.length c_p0), (1, .int .i64 p1), (4, .int .i64 0), (7, .int .i64 (p0.length : Int)), (8, .int .i64 s)]) (fun s g => St w0 m m []) (fun s g => True) FUEL 0 () x2 hx3 trivial ⟨rfl, rfl, rfl, rfl, rfl, trivial⟩ (fun _ h => h) ?_
    rintro s_1 ⟨⟩ o6 fl7 hm5 - hn8 hd9
    have hm5 : slices_Index_sint_s1 p0 p1 s_1 = some o6 := hm5
    unfold slices_Index_sint_s1 at hm5
    refine WK.sub (e' := [(0, .slice a_p0 p0.length c_p0), (1, .int .i64 p1), (4, .int .i64 0), (7, .int .i64 (p0.length : Int)), (8, .int .i64 s_1)]) ⟨rfl, rfl, rfl, rfl, rfl, trivial⟩ (WK.cls (C' := St w0 m m []) (fun _ h => h) ?_)
    refine WK_seq ?_
    refine WK_region ?_
    refine WO_pure tbok 1 [(0, .slice a_p0 p0.length c_p0), (1, .int .i64 p1), (4, .int .i64 0), (7, .int .i64 (p0.length : Int)), (8, .int .i64 s_1), (9, .bool (decide (s_1 < (p0.length : Int))))] rfl ⟨rfl, rfl, rfl, rfl, rfl, rfl, trivial⟩ ?_
    refine WO_end ?_
    refine WK_seq ?_
    refine WK_cond (b := decide (s_1 < (p0.length : Int))) rfl (fun hb11 => ?_) (fun hb11 => ?_)
    · have hm5 := ifT hb11 hm5
      refine WK_skip ?_
      refine WK_seq ?_
      refine WK_block ?_
      refine WK_seq ?_
      refine WK_region ?_
      refine WO_pure tbok 2 [(0, .slice a_p0 p0.length c_p0), (1, .int .i64 p1), (4, .int .i64 0), (5, .int .i64 s_1), (7, .int .i64 (p0.length : Int)), (8, .int .i64 s_1)] rfl ⟨rfl, rfl, rfl, rfl, rfl, rfl, trivial⟩ ?_
      refine WO_end ?_
      refine WK_seq ?_
      refine WK_region ?_
      refine WO_pure tbok 3 [(0, .slice a_p0 p0.length c_p0), (1, .int .i64 p1), (4, .int .i64 0), (5, .int .i64 s_1), (7, .int .i64 (p0.length : Int)), (8, .int .i64 s_1), (11, .int .i64 p1), (12, .slice a_p0 p0.length c_p0), (13, .int .i64 s_1)] rfl ⟨rfl, rfl, rfl, rfl, rfl, rfl, rfl, rfl, rfl, trivial⟩ ?_
      obtain ⟨v_2, hy12, hm5⟩ := bind_some hm5
      obtain ⟨hc13, hy12⟩ := ix_some hy12
      refine WO_index tbok rfl rfl rfl rfl rfl rfl rfl rfl (SlR.addr h_p0) hc13 ?_
      refine WO_loadE tbok rfl rfl rfl rfl (fun _ h => St.sat h) h_p0 hy12 rfl ?_
      refine WO_pure tbok 1 [(0, .slice a_p0 p0.length c_p0), (1, .int .i64 p1), (4, .int .i64 0), (5, .int .i64 s_1), (7, .int .i64 (p0.length : Int)), (8, .int .i64 s_1), (16, .bool (p1 == v_2))] rfl ⟨rfl, rfl, rfl, rfl, rfl, rfl, rfl, trivial⟩ ?_
      refine WO_end ?_
      refine WK_cond (b := p1 == v_2) rfl (fun hb14 => ?_) (fun hb14 => ?_)
      · have hm5 := ifT hb14 hm5
        refine WK_seq ?_
        refine WK_region ?_
        refine WO_pure tbok 2 [(0, .slice a_p0 p0.length c_p0), (1, .int .i64 p1), (4, .int .i64 s_1), (7, .int .i64 (p0.length : Int)), (8, .int .i64 s_1)] rfl ⟨rfl, rfl, rfl, rfl, rfl, trivial⟩ ?_
        refine WO_end ?_
        cases hm5
        have hq := hd9 _ rfl
        subst hq
        have hm : some _ = some _ := hm
        cases hm
        exact WK_ret (ret_out (L := []) (RLc_tmp rfl RLc_nil) (List.nil_sublist _) rfl)
      · have hm5 := ifF hb14 hm5
        refine WK_skip ?_
        refine WK_blk ?_
        refine WK_region ?_
        refine WO_pure tbok 2 [(0, .slice a_p0 p0.length c_p0), (1, .int .i64 p1), (4, .int .i64 0), (7, .int .i64 (p0.length : Int)), (8, .int .i64 (w64 (s_1 + 1)))] rfl ⟨rfl, rfl, rfl, rfl, rfl, trivial⟩ ?_
        refine WO_end ?_
        cases hm5
        refine WK.sub ?_ (WK.cls (fun _ h => h) (hn8 _ () rfl trivial))
        exact ⟨rfl, rfl, rfl, rfl, rfl, trivial⟩
    · have hm5 := ifF hb11 hm5
      refine WK_exit rfl ?_
      cases hm5
      refine WK.sub ?_ (WK.cls (fun _ h => h) (hk4 ((), ()) (hd9 _ rfl)))
      exact ⟨rfl, trivial⟩
theorem aggregate_between_walk {m : Mu} {p0 : Int} {p1 : Int} {p2 : Int}   {r : Int} (hm : aggregate_between p0 p1 p2 = some r) :
    Go.E.Spec Try.prog 36 [.int .i64 p0, .int .i64 p1, .int .i64 p2] m (fun v _ _ => v = .int .i64 r) := by
  refine Spec_enter Try.func36 rfl rfl rfl (fun w0 => ?_)
  refine WK.sub (e' := [(0, .int .i64 p0), (1, .int .i64 p1), (2, .int .i64 p2)]) ⟨rfl, rfl, rfl, trivial⟩ ?_
  refine WK.sub (e' := [(0, .int .i64 p0), (1, .int .i64 p1), (2, .int .i64 p2)]) ⟨rfl, rfl, rfl, trivial⟩ ?_
  unfold aggregate_between at hm
  refine WK_seq ?_
  refine WK_region ?_
  refine WO_pure tbok 1 [(0, .int .i64 p0), (1, .int .i64 p1), (2, .int .i64 p2), (6, .int .i64 0)] rfl ⟨rfl, rfl, rfl, rfl, trivial⟩ ?_
  refine WO_end ?_
  refine WK_seq ?_
  refine WK_seq ?_
  refine WK_region ?_
  refine WO_pure tbok 1 [(1, .int .i64 p1), (2, .int .i64 p2), (6, .int .i64 0), (7, .int .i64 p0)] rfl ⟨rfl, rfl, rfl, rfl, trivial⟩ ?_
  refine WO_end ?_
  refine WK_block ?_
  refine WK_seq ?_
  refine WK_region ?_
  refine WO_pure tbok 2 [(1, .int .i64 p1), (2, .int .i64 p2), (6, .int .i64 0), (7, .int .i64 p0), (8, .bool (p0 == 0))] rfl ⟨rfl, rfl, rfl, rfl, rfl, trivial⟩ ?_
  refine WO_end ?_
  refine WK_cond (b := p0 == 0) rfl (fun hb1 => ?_) (fun hb1 => ?_)
  · have hm := ifT hb1 hm
    refine WK_seq ?_
    refine WK_region ?_
    refine WO_pure tbok 1 [(2, .int .i64 p2), (6, .int .i64 0)] rfl ⟨rfl, rfl, trivial⟩ ?_
    refine WO_end ?_
    cases hm
    exact WK_ret (ret_out (L := []) (RLc_tmp rfl RLc_nil) (List.nil_sublist _) rfl)
  · have hm := ifF hb1 hm
    refine WK_seq ?_
    refine WK_seq ?_
    refine WK_region ?_
    refine WO_pure tbok 2 [(1, .int .i64 p1), (2, .int .i64 p2), (6, .int .i64 0), (7, .int .i64 p0), (10, .bool (p0 == 1))] rfl ⟨rfl, rfl, rfl, rfl, rfl, trivial⟩ ?_
    refine WO_end ?_
    obtain ⟨s_1, hx2, hm⟩ := bind_some hm
    refine WK_meet [(1, .int .i64 p1), (2, .int .i64 p2), (6, .int .i64 0), (10, .bool s_1)] (St w0 m m []) ?_ (fun hk3 => ?_)
    · refine WK_cond (b := s_1) rfl (fun hb4 => ?_) (fun hb4 => ?_)
      · have hm := ifT hb4 hm
        refine WK_seq ?_
        refine WK_region ?_
        refine WO_pure tbok 2 [(2, .int .i64 p2), (6, .int .i64 p1)] rfl ⟨rfl, rfl, trivial⟩ ?_
        refine WO_end ?_
        cases hm
        exact WK_ret (ret_out (L := []) (RLc_tmp rfl RLc_nil) (List.nil_sublist _) rfl)
      · have hm := ifF hb4 hm
        refine WK_skip ?_
        refine WK_blk ?_
        refine WK_seq ?_
        refine WK_region ?_
        refine WO_pure tbok 2 [(6, .int .i64 p2)] rfl ⟨rfl, trivial⟩ ?_
        refine WO_end ?_
        cases hm
        exact WK_ret (ret_out (L := []) (RLc_tmp rfl RLc_nil) (List.nil_sublist _) rfl)
    · refine WK_cond (b := p0 == 1) rfl (fun hb5 => ?_) (fun hb5 => ?_)
      · have hx2 := ifT hb5 hx2
        refine WK_skip ?_
        cases hx2
        refine WK.sub ?_ (WK.cls (fun _ h => h) hk3)
        exact ⟨rfl, rfl, rfl, rfl, trivial⟩
      · have hx2 := ifF hb5 hx2
        refine WK_region ?_
        refine WO_pure tbok 2 [(1, .int .i64 p1), (2, .int .i64 p2), (6, .int .i64 0), (10, .bool (p0 == (-1)))] rfl ⟨rfl, rfl, rfl, rfl, trivial⟩ ?_
        refine WO_end ?_
        cases hx2
        refine WK.sub ?_ (WK.cls (fun _ h => h) hk3)
        exact ⟨rfl, rfl, rfl, rfl, trivial⟩
def aggregate_Line_Q (r : List Int × Int × List (List Int) × Int) : Value → Mu → List Ent → Prop := fun v m L => ∃ (a0 : Option Addr) (q0 c0 : Nat) (a1 : Option Addr) (q1 c1 : Nat), v = .tuple #[.slice a0 q0 c0, .int .i64 r.2.1, .slice a1 q1 c1, .int .i64 r.2.2.2] ∧ SlR (FE (I1 .i64)) 1 m (.slice a0 q0 c0) r.1 ∧ SlR (RowE (FE (I1 .i64)) 1) 1 m (.slice a1 q1 c1) r.2.2.1
theorem aggregate_Line_walk {m : Mu} {p0 : List (List Int)} {p1 : Int} {p2 : Int} {a_p0 : Option Addr} {q_p0 c_p0 : Nat} (h_p0 : SlR (RowE (FE (I1 .i64)) 1) 1 m (.slice a_p0 q_p0 c_p0) p0) {r : List Int × Int × List (List Int) × Int} (hm : aggregate_Line p0 p1 p2 = some r) :
    Go.E.Spec Try.prog 10 [.slice a_p0 q_p0 c_p0, .int .i64 p1, .int .i64 p2] m (aggregate_Line_Q r) := by
  refine Spec_enter Try.func10 rfl rfl rfl (fun w0 => ?_)
  refine WK.sub (e' := [(0, .slice a_p0 q_p0 c_p0), (1, .int .i64 p1), (2, .int .i64 p2)]) ⟨rfl, rfl, rfl, trivial⟩ ?_
  obtain rfl := SlR.qlen h_p0
  refine WK.sub (e' := [(0, .slice a_p0 p0.length c_p0), (1, .int .i64 p1), (2, .int .i64 p2)]) ⟨rfl, rfl, rfl, trivial⟩ ?_
  unfold aggregate_Line at hm
  refine WK_seq ?_
  refine WK_region ?_
  refine WO_pure tbok 4 [(0, .slice a_p0 p0.length c_p0), (1, .int .i64 p1), (2, .int .i64 p2), (6, .slice none 0 0), (7, .int .i64 0), (8, .slice none 0 0), (9, .int .i64 0)] rfl ⟨rfl, rfl, rfl, rfl, rfl, rfl, rfl, trivial⟩ ?_
  refine WO_end ?_
  refine WK_seq ?_
  refine WK_seq ?_
  refine WK_region ?_
  refine WO_pure tbok 3 [(0, .slice a_p0 p0.length c_p0), (1, .int .i64 p1), (2, .int .i64 p2), (6, .slice none 0 0), (7, .int .i64 0), (8, .slice none 0 0), (9, .int .i64 0), (19, .slice a_p0 p0.length c_p0), (20, .int .i64 p1), (21, .int .i64 p2)] rfl ⟨rfl, rfl, rfl, rfl, rfl, rfl, rfl, rfl, rfl, rfl, trivial⟩ ?_
  obtain ⟨y_1, hc2, hm⟩ := bind_some hm
  refine WO_call0 (.int .i64 y_1) rfl rfl trivial rfl rfl rfl rfl St_closed ⟨31, #[], #[], rfl, callable_31, fun w hw => ⟨_, hw.sat, aggregate_checked_walk h_p0 hc2⟩⟩ ?_
  refine WO_pure tbok 1 [(0, .slice a_p0 p0.length c_p0), (1, .int .i64 p1), (2, .int .i64 p2), (6, .slice none 0 0), (7, .int .i64 0), (8, .slice none 0 0), (9, .int .i64 0), (10, .int .i64 y_1)] rfl ⟨rfl, rfl, rfl, rfl, rfl, rfl, rfl, rfl, trivial⟩ ?_
  refine WO_end ?_
  refine WK_seq ?_
  refine WK_region ?_
  refine WO_pure tbok 2 [(0, .slice a_p0 p0.length c_p0), (1, .int .i64 p1), (2, .int .i64 p2), (6, .slice none 0 0), (7, .int .i64 0), (8, .slice none 0 0), (9, .int .i64 0), (10, .int .i64 y_1), (24, .bool (y_1 != 0))] rfl ⟨rfl, rfl, rfl, rfl, rfl, rfl, rfl, rfl, rfl, trivial⟩ ?_
  refine WO_end ?_
  refine WK_cond (b := y_1 != 0) rfl (fun hb3 => ?_) (fun hb3 => ?_)
  · have hm := ifT hb3 hm
    refine WK_seq ?_
    refine WK_region ?_
    refine WO_pure tbok 5 [(0, .slice a_p0 p0.length c_p0), (1, .int .i64 p1), (2, .int .i64 p2), (6, .slice none 0 0), (7, .int .i64 0), (8, .slice none 0 0), (9, .int .i64 y_1)] rfl ⟨rfl, rfl, rfl, rfl, rfl, rfl, rfl, trivial⟩ ?_
    refine WO_end ?_
    cases hm
    exact WK_ret (ret_out (L := []) (RLc_tmp rfl (RLc_tmp rfl (RLc_tmp rfl (RLc_tmp rfl RLc_nil)))) (List.nil_sublist _) ⟨none, 0, 0, none, 0, 0, rfl, SlR_nil, SlR_nil⟩)
  · have hm := ifF hb3 hm
    refine WK_skip ?_
    refine WK_seq ?_
    refine WK_region ?_
    refine WO_pure tbok 1 [(0, .slice a_p0 p0.length c_p0), (1, .int .i64 p1), (2, .int .i64 p2), (6, .slice none 0 0), (7, .int .i64 0), (8, .slice none 0 0), (9, .int .i64 0), (26, .slice a_p0 p0.length c_p0)] rfl ⟨rfl, rfl, rfl, rfl, rfl, rfl, rfl, rfl, trivial⟩ ?_
    obtain ⟨y_2, hc4, hm⟩ := bind_some hm
    refine WO_call2 (aggregate_reversed_Q y_2) rfl rfl trivial rfl rfl rfl rfl ⟨32, #[], #[], rfl, callable_32, aggregate_reversed_walk h_p0 hc4⟩ (fun v9 m10 L8 hle11 hq => ?_)
    obtain ⟨a5, qa5, c6, rfl, h12⟩ := hq
    obtain rfl := SlR.qlen h12
    refine WO.cls (C' := St w0 m m10 [L8]) (fun _ h => h.sub (by simp)) ?_
    refine WO_pure tbok 2 [(0, .slice a_p0 p0.length c_p0), (1, .int .i64 p1), (2, .int .i64 p2), (6, .slice none 0 0), (7, .int .i64 0), (8, .slice none 0 0), (9, .int .i64 0), (27, .slice a5 ((y_2).length) c6), (28, .int .i64 p1), (29, .int .i64 p2)] rfl ⟨rfl, rfl, rfl, rfl, rfl, rfl, rfl, rfl, rfl, rfl, trivial⟩ ?_
    obtain ⟨y_3, hc13, hm⟩ := bind_some hm
    refine WO_call2 (aggregate_table_Q y_3) rfl rfl trivial rfl rfl rfl rfl ⟨33, #[], #[], rfl, callable_33, aggregate_table_walk h12 hc13⟩ (fun v18 m19 L17 hle20 hq => ?_)
    obtain ⟨a14, qa14, c15, rfl, h21⟩ := hq
    obtain rfl := SlR.qlen h21
    refine WO.cls (C' := St w0 m m19 [L8, L17]) (fun _ h => h.sub (by simp)) ?_
    obtain ⟨y_4, hc22, hm⟩ := bind_some hm
    refine WO_call2 (aggregate_reversed_Q y_4) rfl rfl trivial rfl rfl rfl rfl ⟨32, #[], #[], rfl, callable_32, aggregate_reversed_walk h21 hc22⟩ (fun v27 m28 L26 hle29 hq => ?_)
    obtain ⟨a23, qa23, c24, rfl, h30⟩ := hq
    obtain rfl := SlR.qlen h30
    refine WO.cls (C' := St w0 m m28 [L8, L17, L26]) (fun _ h => h.sub (by simp)) ?_
    refine WO_pure tbok 1 [(0, .slice a_p0 p0.length c_p0), (1, .int .i64 p1), (2, .int .i64 p2), (6, .slice none 0 0), (7, .int .i64 0), (8, .slice none 0 0), (9, .int .i64 0), (11, .slice a23 ((y_4).length) c24)] rfl ⟨rfl, rfl, rfl, rfl, rfl, rfl, rfl, rfl, trivial⟩ ?_
    refine WO_end ?_
    refine WK_seq ?_
    refine WK_region ?_
    refine WO_pure tbok 1 [(0, .slice a_p0 p0.length c_p0), (1, .int .i64 p1), (2, .int .i64 p2), (6, .slice none 0 0), (7, .int .i64 0), (8, .slice none 0 0), (9, .int .i64 0), (11, .slice a23 ((y_4).length) c24), (32, .slice a23 ((y_4).length) c24)] rfl ⟨rfl, rfl, rfl, rfl, rfl, rfl, rfl, rfl, rfl, trivial⟩ ?_
    obtain ⟨v_5, hy31, hm⟩ := bind_some hm
    obtain ⟨hc32, hy31⟩ := ix_some hy31
    refine WO_index tbok rfl rfl rfl rfl rfl rfl rfl rfl (SlR.addr h30) hc32 ?_
    refine WO_loadR tbok rfl rfl rfl rfl (fun _ h => St.sat h) h30 hy31 rfl rfl (fun a33 c34 h35 => ?_)
    obtain ⟨y_6, hc37, hm⟩ := bind_some hm
    refine WO_call0 (.int .i64 y_6) rfl rfl trivial rfl rfl rfl rfl St_closed ⟨34, #[], #[], rfl, callable_34, fun w hw => ⟨_, hw.sat, slices_Min_sint_walk h35 hc37⟩⟩ ?_
    refine WO_pure tbok 1 [(0, .slice a_p0 p0.length c_p0), (1, .int .i64 p1), (2, .int .i64 p2), (6, .slice none 0 0), (7, .int .i64 0), (8, .slice none 0 0), (9, .int .i64 0), (11, .slice a23 ((y_4).length) c24), (12, .int .i64 y_6)] rfl ⟨rfl, rfl, rfl, rfl, rfl, rfl, rfl, rfl, rfl, trivial⟩ ?_
    refine WO_end ?_
    refine WK_seq ?_
    refine WK_region ?_
    refine WO_pure tbok 1 [(0, .slice a_p0 p0.length c_p0), (1, .int .i64 p1), (2, .int .i64 p2), (6, .slice none 0 0), (7, .int .i64 0), (8, .slice none 0 0), (9, .int .i64 0), (11, .slice a23 ((y_4).length) c24), (12, .int .i64 y_6), (36, .slice a23 ((y_4).length) c24)] rfl ⟨rfl, rfl, rfl, rfl, rfl, rfl, rfl, rfl, rfl, rfl, trivial⟩ ?_
    obtain ⟨v_7, hy38, hm⟩ := bind_some hm
    obtain ⟨hc39, hy38⟩ := ix_some hy38
    refine WO_index tbok rfl rfl rfl rfl rfl rfl rfl rfl (SlR.addr h30) hc39 ?_
    refine WO_loadR tbok rfl rfl rfl rfl (fun _ h => St.sat h) h30 hy38 rfl rfl (fun a40 c41 h42 => ?_)
    refine WO_pure tbok 1 [(0, .slice a_p0 p0.length c_p0), (1, .int .i64 p1), (2, .int .i64 p2), (6, .slice none 0 0), (7, .int .i64 0), (8, .slice none 0 0), (9, .int .i64 0), (11, .slice a23 ((y_4).length) c24), (12, .int .i64 y_6), (38, .slice a40 ((v_7).length) c41), (39, .int .i64 y_6)] rfl ⟨rfl, rfl, rfl, rfl, rfl, rfl, rfl, rfl, rfl, rfl, rfl, trivial⟩ ?_
    obtain ⟨y_8, hc44, hm⟩ := bind_some hm
    refine WO_call0 (.int .i64 y_8) rfl rfl trivial rfl rfl rfl rfl St_closed ⟨35, #[], #[], rfl, callable_35, fun w hw => ⟨_, hw.sat, slices_Index_sint_walk h42 hc44⟩⟩ ?_
    refine WO_bslice (E := (I1 .i64)) tbok (fun _ => rfl) (by decide) [.int .i64 y_8] ([y_8] : List Int) rfl rfl trivial rfl rfl rfl rfl rfl rfl rfl rfl rfl rfl rfl rfl (fun b45 hb45 => ?_)
    refine WO.cls (C' := St w0 m m28 [L8, L17, L26, [⟨b45, 3, ([y_8] : List Int).flatMap (I1 .i64)⟩]]) (fun _ h => h) ?_
    refine WO_pure tbok 1 [(0, .slice a_p0 p0.length c_p0), (1, .int .i64 p1), (2, .int .i64 p2), (6, .slice none 0 0), (7, .int .i64 0), (8, .slice none 0 0), (9, .int .i64 0), (11, .slice a23 ((y_4).length) c24), (12, .int .i64 y_6), (13, .slice (some ⟨b45, 0, none⟩) 1 1)] rfl ⟨rfl, rfl, rfl, rfl, rfl, rfl, rfl, rfl, rfl, rfl, trivial⟩ ?_
    refine WO_end ?_
    refine WK_seq ?_
    refine WK_seq ?_
    refine WK_region ?_
    refine WO_pure tbok 1 [(0, .slice a_p0 p0.length c_p0), (1, .int .i64 p1), (2, .int .i64 p2), (6, .slice none 0 0), (7, .int .i64 0), (8, .slice none 0 0), (9, .int .i64 0), (12, .int .i64 y_6), (13, .slice (some ⟨b45, 0, none⟩) 1 1), (42, .slice a23 ((y_4).length) c24)] rfl ⟨rfl, rfl, rfl, rfl, rfl, rfl, rfl, rfl, rfl, rfl, trivial⟩ ?_
    obtain ⟨hc47, hm⟩ := chk_some hm
    have hc47 : 0 ≤ (1 : Int) ∧ (1 : Int) ≤ (y_4.length : Int) ∧ (y_4.length : Int) ≤ (y_4.length : Int) := hc47
    have hz51 : SlR (RowE (FE (I1 .i64)) 1) 1 m28 (.slice a23 ((y_4).length) c24) y_4 := h30
    refine WO_slice tbok (some (1 : Int)) none none (1 : Int).toNat y_4.length rfl rfl rfl rfl rfl rfl rfl rfl rfl rfl rfl hz51 (by simp only [Option.getD_some] <;> omega) (by have := SlR.qlen hz51; simp only [Option.getD_none] <;> omega) (fun q hq => by cases hq) (by omega) (by omega) (fun hh => by cases hh) (fun a48 c49 h50 => ?_)
    refine WO_pure tbok 2 [(0, .slice a_p0 p0.length c_p0), (1, .int .i64 p1), (2, .int .i64 p2), (6, .slice none 0 0), (7, .int .i64 0), (8, .slice none 0 0), (9, .int .i64 0), (12, .int .i64 y_6), (13, .slice (some ⟨b45, 0, none⟩) 1 1), (43, .slice a48 (((y_4.take y_4.length).drop (1 : Int).toNat).length) c49), (44, .int .i64 (((y_4.take y_4.length).drop (1 : Int).toNat).length : Int)), (45, .int .i64 0)] rfl ⟨rfl, rfl, rfl, rfl, rfl, rfl, rfl, rfl, rfl, rfl, rfl, rfl, trivial⟩ ?_
    refine WO_end ?_
    obtain ⟨x63, hx64, hm⟩ := bind_some hm
    refine WK_join (β := (List Int) × (Option Addr × Nat × Nat × List Ent)) (fun p => p.1 = x63 ∧ OwnE 3 1 (I1 .i64) (.slice p.2.1 p.2.2.1 p.2.2.2.1) p.1 p.2.2.2.2) (fun p => [(0, .slice a_p0 p0.length c_p0), (1, .int .i64 p1), (2, .int .i64 p2), (6, .slice none 0 0), (7, .int .i64 0), (8, .slice none 0 0), (9, .int .i64 0), (12, .int .i64 y_6), (13, .slice p.2.1 p.2.2.1 p.2.2.2.1)]) (fun p => St w0 m m28 [L8, L17, L26, p.2.2.2.2]) ?_ (fun hk65 => ?_)
    · rintro ⟨l_11, ⟨a60, q61, c62, L59⟩⟩ ⟨hq71, hL59⟩
      subst hq71
      have hqq : q61 = l_11.length := OwnE.qlen hL59
      subst hqq
      refine WK.sub (e' := [(0, .slice a_p0 p0.length c_p0), (1, .int .i64 p1), (2, .int .i64 p2), (6, .slice none 0 0), (7, .int .i64 0), (8, .slice none 0 0), (9, .int .i64 0), (12, .int .i64 y_6), (13, .slice a60 ((l_11).length) c62)]) ⟨rfl, rfl, rfl, rfl, rfl, rfl, rfl, rfl, rfl, trivial⟩ (WK.cls (C' := St w0 m m28 [L8, L17, L26, L59]) (fun _ h => h) ?_)
      refine WK_seq ?_
      refine WK_region ?_
      refine WO_pure tbok 5 [(6, .slice none 0 0), (7, .int .i64 0), (8, .slice none 0 0), (9, .int .i64 0), (90, .slice a60 ((l_11).length) c62), (91, .int .i64 y_6), (92, .slice a_p0 p0.length c_p0), (93, .int .i64 p1), (94, .int .i64 p2)] rfl ⟨rfl, rfl, rfl, rfl, rfl, rfl, rfl, rfl, rfl, trivial⟩ ?_
      obtain ⟨y_12, hc72, hm⟩ := bind_some hm
      refine WO_call2 (aggregate_table_Q y_12) rfl rfl trivial rfl rfl rfl rfl ⟨33, #[], #[], rfl, callable_33, aggregate_table_walk (((h_p0.mono (mono_RowE (mono_FE _) _) hle11).mono (mono_RowE (mono_FE _) _) hle20).mono (mono_RowE (mono_FE _) _) hle29) hc72⟩ (fun v77 m78 L76 hle79 hq => ?_)
      obtain ⟨a73, qa73, c74, rfl, h80⟩ := hq
      obtain rfl := SlR.qlen h80
      refine WO.cls (C' := St w0 m m78 [L8, L17, L26, L59, L76]) (fun _ h => h.sub (by simp)) ?_
      refine WO_pure tbok 4 [(6, .slice a60 ((l_11).length) c62), (7, .int .i64 y_6), (8, .slice a73 ((y_12).length) c74), (9, .int .i64 0)] rfl ⟨rfl, rfl, rfl, rfl, trivial⟩ ?_
      refine WO_end ?_
      cases hm
      refine WK_freeze 3 rfl (fun m81 hle82 hmm83 => ?_)
      refine WK.cls (C' := St w0 m m81 [L8, L17, L26, [], L76]) (fun _ h => h) ?_
      exact WK_ret (ret_out (L := []) (RLc_tmp rfl (RLc_tmp rfl (RLc_tmp rfl (RLc_tmp rfl RLc_nil)))) (List.nil_sublist _) ⟨a60, _, c62, a73, _, c74, rfl, (OwnE.rd (E := (I1 .i64)) (k := 1) (fun _ => rfl) hL59 hmm83), (h80.mono (mono_RowE (mono_FE _) _) hle82)⟩)
    · refine WK_block ?_
      refine WK_loop (S := List Int × Int) (G := Option Addr × Nat × Nat × List Ent) (fun s => aggregate_Line_s1 p1 p2 y_4 s.1 s.2) (fun s g => [(0, .slice a_p0 p0.length c_p0), (1, .int .i64 p1), (2, .int .i64 p2), (6, .slice none 0 0), (7, .int .i64 0), (8, .slice none 0 0), (9, .int .i64 0), (12, .int .i64 y_6), (13, .slice g.1 g.2.1 g.2.2.1), (43, .slice a48 (((y_4.take y_4.length).drop (1 : Int).toNat).length) c49), (44, .int .i64 (((y_4.take y_4.length).drop (1 : Int).toNat).length : Int)), (45, .int .i64 s.2)]) (fun s g => St w0 m m28 [L8, L17, L26, g.2.2.2]) (fun s g => OwnE 3 1 (I1 .i64) (.slice g.1 g.2.1 g.2.2.1) s.1 g.2.2.2) FUEL (([y_8] : List Int), 0) (some ⟨b45, 0, none⟩, 1, 1, [⟨b45, 3, ([y_8] : List Int).flatMap (I1 .i64)⟩]) x63 hx64 hb45 ⟨rfl, rfl, rfl, rfl, rfl, rfl, rfl, rfl, rfl, rfl, rfl, rfl, trivial⟩ (fun _ h => h) ?_
      rintro ⟨l_9, s_10⟩ ⟨a55, q56, c57, L54⟩ o67 fl68 hm66 hL54 hn69 hd70
      have hm66 : aggregate_Line_s1 p1 p2 y_4 l_9 s_10 = some o67 := hm66
      unfold aggregate_Line_s1 at hm66
      have hqq : q56 = l_9.length := OwnE.qlen hL54
      subst hqq
      refine WK.sub (e' := [(0, .slice a_p0 p0.length c_p0), (1, .int .i64 p1), (2, .int .i64 p2), (6, .slice none 0 0), (7, .int .i64 0), (8, .slice none 0 0), (9, .int .i64 0), (12, .int .i64 y_6), (13, .slice a55 ((l_9).length) c57), (43, .slice a48 (((y_4.take y_4.length).drop (1 : Int).toNat).length) c49), (44, .int .i64 (((y_4.take y_4.length).drop (1 : Int).toNat).length : Int)), (45, .int .i64 s_10)]) ⟨rfl, rfl, rfl, rfl, rfl, rfl, rfl, rfl, rfl, rfl, rfl, rfl, trivial⟩ (WK.cls (C' := St w0 m m28 [L8, L17, L26, L54]) (fun _ h => h) ?_)
      refine WK_seq ?_
      refine WK_region ?_
      refine WO_pure tbok 1 [(0, .slice a_p0 p0.length c_p0), (1, .int .i64 p1), (2, .int .i64 p2), (6, .slice none 0 0), (7, .int .i64 0), (8, .slice none 0 0), (9, .int .i64 0), (12, .int .i64 y_6), (13, .slice a55 ((l_9).length) c57), (43, .slice a48 (((y_4.take y_4.length).drop (1 : Int).toNat).length) c49), (44, .int .i64 (((y_4.take y_4.length).drop (1 : Int).toNat).length : Int)), (45, .int .i64 s_10), (46, .bool (decide (s_10 < (((y_4.take y_4.length).drop (1 : Int).toNat).length : Int))))] rfl ⟨rfl, rfl, rfl, rfl, rfl, rfl, rfl, rfl, rfl, rfl, rfl, rfl, rfl, trivial⟩ ?_
      refine WO_end ?_
      refine WK_seq ?_
      refine WK_cond (b := decide (s_10 < (((y_4.take y_4.length).drop (1 : Int).toNat).length : Int))) rfl (fun hb84 => ?_) (fun hb84 => ?_)
      · have hm66 := ifT hb84 hm66
        refine WK_skip ?_
        refine WK_seq ?_
        refine WK_block ?_
        refine WK_seq ?_
        refine WK_region ?_
        obtain ⟨v_13, hy85, hm66⟩ := bind_some hm66
        obtain ⟨hc86, hy85⟩ := ix_some hy85
        refine WO_index tbok rfl rfl rfl rfl rfl rfl rfl rfl (SlR.addr h50) hc86 ?_
        refine WO_loadR tbok rfl rfl rfl rfl (fun _ h => St.sat h) h50 hy85 rfl rfl (fun a87 c88 h89 => ?_)
        refine WO_pure tbok 1 [(0, .slice a_p0 p0.length c_p0), (1, .int .i64 p1), (2, .int .i64 p2), (6, .slice none 0 0), (7, .int .i64 0), (8, .slice none 0 0), (9, .int .i64 0), (12, .int .i64 y_6), (13, .slice a55 ((l_9).length) c57), (15, .slice a87 ((v_13).length) c88), (43, .slice a48 (((y_4.take y_4.length).drop (1 : Int).toNat).length) c49), (44, .int .i64 (((y_4.take y_4.length).drop (1 : Int).toNat).length : Int)), (45, .int .i64 s_10)] rfl ⟨rfl, rfl, rfl, rfl, rfl, rfl, rfl, rfl, rfl, rfl, rfl, rfl, rfl, trivial⟩ ?_
        refine WO_end ?_
        refine WK_seq ?_
        refine WK_region ?_
        refine WO_pure tbok 4 [(0, .slice a_p0 p0.length c_p0), (1, .int .i64 p1), (2, .int .i64 p2), (6, .slice none 0 0), (7, .int .i64 0), (8, .slice none 0 0), (9, .int .i64 0), (12, .int .i64 y_6), (13, .slice a55 ((l_9).length) c57), (15, .slice a87 ((v_13).length) c88), (43, .slice a48 (((y_4.take y_4.length).drop (1 : Int).toNat).length) c49), (44, .int .i64 (((y_4.take y_4.length).drop (1 : Int).toNat).length : Int)), (45, .int .i64 s_10), (49, .slice a55 ((l_9).length) c57), (52, .int .i64 (w64 (((l_9).length : Int) - 1)))] rfl ⟨rfl, rfl, rfl, rfl, rfl, rfl, rfl, rfl, rfl, rfl, rfl, rfl, rfl, rfl, rfl, trivial⟩ ?_
        obtain ⟨v_14, hy91, hm66⟩ := bind_some hm66
        obtain ⟨hc92, hy91⟩ := ix_some hy91
        refine WO_index tbok rfl rfl rfl rfl rfl rfl rfl rfl (OwnE.addr hL54) (by simpa using hc92) ?_
        refine WO_loadO (E := (I1 .i64)) tbok (fun _ => rfl) 3 rfl rfl rfl rfl (fun _ h => h) hL54 rfl hy91 rfl ?_
        refine WO_pure tbok 2 [(0, .slice a_p0 p0.length c_p0), (1, .int .i64 p1), (2, .int .i64 p2), (6, .slice none 0 0), (7, .int .i64 0), (8, .slice none 0 0), (9, .int .i64 0), (12, .int .i64 y_6), (13, .slice a55 ((l_9).length) c57), (15, .slice a87 ((v_13).length) c88), (16, .int .i64 v_14), (17, .int .i64 0), (43, .slice a48 (((y_4.take y_4.length).drop (1 : Int).toNat).length) c49), (44, .int .i64 (((y_4.take y_4.length).drop (1 : Int).toNat).length : Int)), (45, .int .i64 s_10)] rfl ⟨rfl, rfl, rfl, rfl, rfl, rfl, rfl, rfl, rfl, rfl, rfl, rfl, rfl, rfl, rfl, trivial⟩ ?_
        refine WO_end ?_
        refine WK_seq ?_
        refine WK_seq ?_
        refine WK_region ?_
        refine WO_pure tbok 3 [(0, .slice a_p0 p0.length c_p0), (1, .int .i64 p1), (2, .int .i64 p2), (6, .slice none 0 0), (7, .int .i64 0), (8, .slice none 0 0), (9, .int .i64 0), (12, .int .i64 y_6), (13, .slice a55 ((l_9).length) c57), (15, .slice a87 ((v_13).length) c88), (16, .int .i64 v_14), (17, .int .i64 0), (43, .slice a48 (((y_4.take y_4.length).drop (1 : Int).toNat).length) c49), (44, .int .i64 (((y_4.take y_4.length).drop (1 : Int).toNat).length : Int)), (45, .int .i64 s_10), (56, .int .i64 ((v_13).length : Int)), (57, .int .i64 0)] rfl ⟨rfl, rfl, rfl, rfl, rfl, rfl, rfl, rfl, rfl, rfl, rfl, rfl, rfl, rfl, rfl, rfl, rfl, trivial⟩ ?_
        refine WO_end ?_
        obtain ⟨x93, hx94, hm66⟩ := bind_some hm66
        refine WK_join (β := Int × Unit) (fun p => p.1 = x93) (fun p => [(0, .slice a_p0 p0.length c_p0), (1, .int .i64 p1), (2, .int .i64 p2), (6, .slice none 0 0), (7, .int .i64 0), (8, .slice none 0 0), (9, .int .i64 0), (12, .int .i64 y_6), (13, .slice a55 ((l_9).length) c57), (17, .int .i64 p.1), (43, .slice a48 (((y_4.take y_4.length).drop (1 : Int).toNat).length) c49), (44, .int .i64 (((y_4.take y_4.length).drop (1 : Int).toNat).length : Int)), (45, .int .i64 s_10)]) (fun p => St w0 m m28 [L8, L17, L26, L54]) ?_ (fun hk95 => ?_)
        · rintro ⟨s_17, ⟨⟩⟩ hq101
          subst hq101
          refine WK.sub (e' := [(0, .slice a_p0 p0.length c_p0), (1, .int .i64 p1), (2, .int .i64 p2), (6, .slice none 0 0), (7, .int .i64 0), (8, .slice none 0 0), (9, .int .i64 0), (12, .int .i64 y_6), (13, .slice a55 ((l_9).length) c57), (17, .int .i64 s_17), (43, .slice a48 (((y_4.take y_4.length).drop (1 : Int).toNat).length) c49), (44, .int .i64 (((y_4.take y_4.length).drop (1 : Int).toNat).length : Int)), (45, .int .i64 s_10)]) ⟨rfl, rfl, rfl, rfl, rfl, rfl, rfl, rfl, rfl, rfl, rfl, rfl, rfl, trivial⟩ (WK.cls (C' := St w0 m m28 [L8, L17, L26, L54]) (fun _ h => h) ?_)
          refine WK_region ?_
          refine WO_pure tbok 2 [(0, .slice a_p0 p0.length c_p0), (1, .int .i64 p1), (2, .int .i64 p2), (6, .slice none 0 0), (7, .int .i64 0), (8, .slice none 0 0), (9, .int .i64 0), (12, .int .i64 y_6), (13, .slice a55 ((l_9).length) c57), (43, .slice a48 (((y_4.take y_4.length).drop (1 : Int).toNat).length) c49), (44, .int .i64 (((y_4.take y_4.length).drop (1 : Int).toNat).length : Int)), (45, .int .i64 s_10), (85, .slice a55 ((l_9).length) c57), (86, .int .i64 s_17)] rfl ⟨rfl, rfl, rfl, rfl, rfl, rfl, rfl, rfl, rfl, rfl, rfl, rfl, rfl, rfl, trivial⟩ ?_
          refine WO_bslice (E := (I1 .i64)) tbok (fun _ => rfl) (by decide) [.int .i64 s_17] ([s_17] : List Int) rfl rfl trivial rfl rfl rfl rfl rfl rfl rfl rfl rfl rfl rfl rfl (fun b102 hb102 => ?_)
          refine WO.cls (C' := St w0 m m28 [L8, L17, L26, L54, [⟨b102, 3, ([s_17] : List Int).flatMap (I1 .i64)⟩]]) (fun _ h => h) ?_
          obtain ⟨hc104, hm66⟩ := chk_some hm66
          refine WO_append (E := (I1 .i64)) tbok (fun _ => rfl) 3 ([s_17] : List Int) (fun _ _ => rfl) rfl rfl rfl rfl rfl rfl rfl rfl rfl rfl rfl rfl hL54 rfl (src_seg (j := 4) rfl) (ap_ok (by decide) hc104) (ap_max hc104) (fun a105 c106 L107 hL107 => ?_)
          refine WO.cls (C' := St w0 m m28 [L8, L17, L26, L107, [⟨b102, 3, ([s_17] : List Int).flatMap (I1 .i64)⟩]]) (fun _ h => h) ?_
          refine WO_pure tbok 1 [(0, .slice a_p0 p0.length c_p0), (1, .int .i64 p1), (2, .int .i64 p2), (6, .slice none 0 0), (7, .int .i64 0), (8, .slice none 0 0), (9, .int .i64 0), (12, .int .i64 y_6), (13, .slice a105 ((l_9 ++ ([s_17] : List Int)).length) c106), (43, .slice a48 (((y_4.take y_4.length).drop (1 : Int).toNat).length) c49), (44, .int .i64 (((y_4.take y_4.length).drop (1 : Int).toNat).length : Int)), (45, .int .i64 s_10)] rfl ⟨rfl, rfl, rfl, rfl, rfl, rfl, rfl, rfl, rfl, rfl, rfl, rfl, trivial⟩ ?_
          refine WO_end ?_
          refine WK_blk ?_
          refine WK_region ?_
          refine WO_pure tbok 2 [(0, .slice a_p0 p0.length c_p0), (1, .int .i64 p1), (2, .int .i64 p2), (6, .slice none 0 0), (7, .int .i64 0), (8, .slice none 0 0), (9, .int .i64 0), (12, .int .i64 y_6), (13, .slice a105 ((l_9 ++ ([s_17] : List Int)).length) c106), (43, .slice a48 (((y_4.take y_4.length).drop (1 : Int).toNat).length) c49), (44, .int .i64 (((y_4.take y_4.length).drop (1 : Int).toNat).length : Int)), (45, .int .i64 (w64 (s_10 + 1)))] rfl ⟨rfl, rfl, rfl, rfl, rfl, rfl, rfl, rfl, rfl, rfl, rfl, rfl, trivial⟩ ?_
          refine WO_end ?_
          cases hm66
          refine WK.sub ?_ (WK.cls (fun _ h => St.take 4 h) (hn69 _ (a105, (l_9 ++ ([s_17] : List Int)).length, c106, L107) rfl hL107))
          exact ⟨rfl, rfl, rfl, rfl, rfl, rfl, rfl, rfl, rfl, rfl, rfl, rfl, trivial⟩
        · refine WK_block ?_
          refine WK_loop (S := Int × Int) (G := Unit) (fun s => aggregate_Line_s2 p1 p2 v_13 v_14 s.1 s.2) (fun s g => [(0, .slice a_p0 p0.length c_p0), (1, .int .i64 p1), (2, .int .i64 p2), (6, .slice none 0 0), (7, .int .i64 0), (8, .slice none 0 0), (9, .int .i64 0), (12, .int .i64 y_6), (13, .slice a55 ((l_9).length) c57), (15, .slice a87 ((v_13).length) c88), (16, .int .i64 v_14), (17, .int .i64 s.2), (43, .slice a48 (((y_4.take y_4.length).drop (1 : Int).toNat).length) c49), (44, .int .i64 (((y_4.take y_4.length).drop (1 : Int).toNat).length : Int)), (45, .int .i64 s_10), (56, .int .i64 ((v_13).length : Int)), (57, .int .i64 s.1)]) (fun s g => St w0 m m28 [L8, L17, L26, L54]) (fun s g => True) FUEL (0, 0) () x93 hx94 trivial ⟨rfl, rfl, rfl, rfl, rfl, rfl, rfl, rfl, rfl, rfl, rfl, rfl, rfl, rfl, rfl, rfl, rfl, trivial⟩ (fun _ h => h) ?_
          rintro ⟨s_15, s_16⟩ ⟨⟩ o97 fl98 hm96 - hn99 hd100
          have hm96 : aggregate_Line_s2 p1 p2 v_13 v_14 s_15 s_16 = some o97 := hm96
          unfold aggregate_Line_s2 at hm96
          refine WK.sub (e' := [(0, .slice a_p0 p0.length c_p0), (1, .int .i64 p1), (2, .int .i64 p2), (6, .slice none 0 0), (7, .int .i64 0), (8, .slice none 0 0), (9, .int .i64 0), (12, .int .i64 y_6), (13, .slice a55 ((l_9).length) c57), (15, .slice a87 ((v_13).length) c88), (16, .int .i64 v_14), (17, .int .i64 s_16), (43, .slice a48 (((y_4.take y_4.length).drop (1 : Int).toNat).length) c49), (44, .int .i64 (((y_4.take y_4.length).drop (1 : Int).toNat).length : Int)), (45, .int .i64 s_10), (56, .int .i64 ((v_13).length : Int)), (57, .int .i64 s_15)]) ⟨rfl, rfl, rfl, rfl, rfl, rfl, rfl, rfl, rfl, rfl, rfl, rfl, rfl, rfl, rfl, rfl, rfl, trivial⟩ (WK.cls (C' := St w0 m m28 [L8, L17, L26, L54]) (fun _ h => h) ?_)
          refine WK_seq ?_
          refine WK_region ?_
          refine WO_pure tbok 1 [(0, .slice a_p0 p0.length c_p0), (1, .int .i64 p1), (2, .int .i64 p2), (6, .slice none 0 0), (7, .int .i64 0), (8, .slice none 0 0), (9, .int .i64 0), (12, .int .i64 y_6), (13, .slice a55 ((l_9).length) c57), (15, .slice a87 ((v_13).length) c88), (16, .int .i64 v_14), (17, .int .i64 s_16), (43, .slice a48 (((y_4.take y_4.length).drop (1 : Int).toNat).length) c49), (44, .int .i64 (((y_4.take y_4.length).drop (1 : Int).toNat).length : Int)), (45, .int .i64 s_10), (56, .int .i64 ((v_13).length : Int)), (57, .int .i64 s_15), (58, .bool (decide (s_15 < ((v_13).length : Int))))] rfl ⟨rfl, rfl, rfl, rfl, rfl, rfl, rfl, rfl, rfl, rfl, rfl, rfl, rfl, rfl, rfl, rfl, rfl, rfl, trivial⟩ ?_
          refine WO_end ?_
          refine WK_seq ?_
          refine WK_cond (b := decide (s_15 < ((v_13).length : Int))) rfl (fun hb109 => ?_) (fun hb109 => ?_)
          · have hm96 := ifT hb109 hm96
            refine WK_skip ?_
            refine WK_seq ?_
            refine WK_block ?_
            refine WK_seq ?_
            refine WK_region ?_
            refine WO_pure tbok 2 [(0, .slice a_p0 p0.length c_p0), (1, .int .i64 p1), (2, .int .i64 p2), (6, .slice none 0 0), (7, .int .i64 0), (8, .slice none 0 0), (9, .int .i64 0), (12, .int .i64 y_6), (13, .slice a55 ((l_9).length) c57), (15, .slice a87 ((v_13).length) c88), (16, .int .i64 v_14), (17, .int .i64 s_16), (18, .int .i64 s_15), (43, .slice a48 (((y_4.take y_4.length).drop (1 : Int).toNat).length) c49), (44, .int .i64 (((y_4.take y_4.length).drop (1 : Int).toNat).length : Int)), (45, .int .i64 s_10), (56, .int .i64 ((v_13).length : Int)), (57, .int .i64 s_15)] rfl ⟨rfl, rfl, rfl, rfl, rfl, rfl, rfl, rfl, rfl, rfl, rfl, rfl, rfl, rfl, rfl, rfl, rfl, rfl, trivial⟩ ?_
            refine WO_end ?_
            refine WK_seq ?_
            refine WK_draw 23 [0, 1, 2, 3, 4, 5, 6, 7, 8, 11, 12, 13, 14, 15, 16, 17, 18, 19, 9, 10, 20, 21, 22] follows_ok (by kernel_rfl) St_closed ?_
            refine WO_pure tbok 2 [(0, .slice a_p0 p0.length c_p0), (1, .int .i64 p1), (2, .int .i64 p2), (6, .slice none 0 0), (7, .int .i64 0), (8, .slice none 0 0), (9, .int .i64 0), (12, .int .i64 y_6), (13, .slice a55 ((l_9).length) c57), (15, .slice a87 ((v_13).length) c88), (16, .int .i64 v_14), (17, .int .i64 s_16), (18, .int .i64 s_15), (43, .slice a48 (((y_4.take y_4.length).drop (1 : Int).toNat).length) c49), (44, .int .i64 (((y_4.take y_4.length).drop (1 : Int).toNat).length : Int)), (45, .int .i64 s_10), (56, .int .i64 ((v_13).length : Int)), (57, .int .i64 s_15), (60, .slice a87 ((v_13).length) c88), (61, .int .i64 s_15)] rfl ⟨rfl, rfl, rfl, rfl, rfl, rfl, rfl, rfl, rfl, rfl, rfl, rfl, rfl, rfl, rfl, rfl, rfl, rfl, rfl, rfl, trivial⟩ ?_
            obtain ⟨v_18, hy110, hm96⟩ := bind_some hm96
            obtain ⟨hc111, hy110⟩ := ix_some hy110
            refine WO_index tbok rfl rfl rfl rfl rfl rfl rfl rfl (SlR.addr h89) hc111 ?_
            refine WO_loadE tbok rfl rfl rfl rfl (fun _ h => St.sat h) h89 hy110 rfl ?_
            refine WO_pure tbok 7 [(0, .slice a_p0 p0.length c_p0), (1, .int .i64 p1), (2, .int .i64 p2), (6, .slice none 0 0), (7, .int .i64 0), (8, .slice none 0 0), (9, .int .i64 0), (12, .int .i64 y_6), (13, .slice a55 ((l_9).length) c57), (15, .slice a87 ((v_13).length) c88), (16, .int .i64 v_14), (17, .int .i64 s_16), (18, .int .i64 s_15), (43, .slice a48 (((y_4.take y_4.length).drop (1 : Int).toNat).length) c49), (44, .int .i64 (((y_4.take y_4.length).drop (1 : Int).toNat).length : Int)), (45, .int .i64 s_10), (56, .int .i64 ((v_13).length : Int)), (57, .int .i64 s_15), (63, .int .i64 v_18), (66, .int .i64 (w64 (s_15 - v_14))), (67, .int .i64 p1), (68, .int .i64 p2), (71, .slice a87 ((v_13).length) c88), (72, .int .i64 s_16)] rfl ⟨rfl, rfl, rfl, rfl, rfl, rfl, rfl, rfl, rfl, rfl, rfl, rfl, rfl, rfl, rfl, rfl, rfl, rfl, rfl, rfl, rfl, rfl, rfl, rfl, trivial⟩ ?_
            obtain ⟨v_19, hy112, hm96⟩ := bind_some hm96
            obtain ⟨hc113, hy112⟩ := ix_some hy112
            refine WO_index tbok rfl rfl rfl rfl rfl rfl rfl rfl (SlR.addr h89) hc113 ?_
            refine WO_loadE tbok rfl rfl rfl rfl (fun _ h => St.sat h) h89 hy112 rfl ?_
            refine WO_pure tbok 5 [(0, .slice a_p0 p0.length c_p0), (1, .int .i64 p1), (2, .int .i64 p2), (6, .slice none 0 0), (7, .int .i64 0), (8, .slice none 0 0), (9, .int .i64 0), (12, .int .i64 y_6), (13, .slice a55 ((l_9).length) c57), (15, .slice a87 ((v_13).length) c88), (16, .int .i64 v_14), (17, .int .i64 s_16), (18, .int .i64 s_15), (43, .slice a48 (((y_4.take y_4.length).drop (1 : Int).toNat).length) c49), (44, .int .i64 (((y_4.take y_4.length).drop (1 : Int).toNat).length : Int)), (45, .int .i64 s_10), (56, .int .i64 ((v_13).length : Int)), (57, .int .i64 s_15), (63, .int .i64 v_18), (66, .int .i64 (w64 (s_15 - v_14))), (67, .int .i64 p1), (68, .int .i64 p2), (74, .int .i64 v_19), (77, .int .i64 (w64 (s_16 - v_14))), (78, .int .i64 p1), (79, .int .i64 p2)] rfl ⟨rfl, rfl, rfl, rfl, rfl, rfl, rfl, rfl, rfl, rfl, rfl, rfl, rfl, rfl, rfl, rfl, rfl, rfl, rfl, rfl, rfl, rfl, rfl, rfl, rfl, rfl, trivial⟩ ?_
            obtain ⟨y_20, hc114, hm96⟩ := bind_some hm96
            refine WO_call0 (.int .i64 y_20) rfl rfl St_closed rfl rfl rfl rfl St_closed ⟨36, #[], #[], rfl, callable_36, fun w hw => ⟨_, hw.sat, aggregate_between_walk hc114⟩⟩ ?_
            refine WO_pure tbok 1 [(0, .slice a_p0 p0.length c_p0), (1, .int .i64 p1), (2, .int .i64 p2), (6, .slice none 0 0), (7, .int .i64 0), (8, .slice none 0 0), (9, .int .i64 0), (12, .int .i64 y_6), (13, .slice a55 ((l_9).length) c57), (15, .slice a87 ((v_13).length) c88), (16, .int .i64 v_14), (17, .int .i64 s_16), (18, .int .i64 s_15), (43, .slice a48 (((y_4.take y_4.length).drop (1 : Int).toNat).length) c49), (44, .int .i64 (((y_4.take y_4.length).drop (1 : Int).toNat).length : Int)), (45, .int .i64 s_10), (56, .int .i64 ((v_13).length : Int)), (57, .int .i64 s_15), (70, .int .i64 (w64 (v_18 + y_20))), (74, .int .i64 v_19), (77, .int .i64 (w64 (s_16 - v_14))), (78, .int .i64 p1), (79, .int .i64 p2)] rfl ⟨rfl, rfl, rfl, rfl, rfl, rfl, rfl, rfl, rfl, rfl, rfl, rfl, rfl, rfl, rfl, rfl, rfl, rfl, rfl, rfl, rfl, rfl, rfl, trivial⟩ ?_
            obtain ⟨y_21, hc115, hm96⟩ := bind_some hm96
            refine WO_call0 (.int .i64 y_21) rfl rfl St_closed rfl rfl rfl rfl St_closed ⟨36, #[], #[], rfl, callable_36, fun w hw => ⟨_, hw.sat, aggregate_between_walk hc115⟩⟩ ?_
            refine WO_pure tbok 2 [(0, .slice a_p0 p0.length c_p0), (1, .int .i64 p1), (2, .int .i64 p2), (6, .slice none 0 0), (7, .int .i64 0), (8, .slice none 0 0), (9, .int .i64 0), (12, .int .i64 y_6), (13, .slice a55 ((l_9).length) c57), (15, .slice a87 ((v_13).length) c88), (16, .int .i64 v_14), (17, .int .i64 s_16), (18, .int .i64 s_15), (43, .slice a48 (((y_4.take y_4.length).drop (1 : Int).toNat).length) c49), (44, .int .i64 (((y_4.take y_4.length).drop (1 : Int).toNat).length : Int)), (45, .int .i64 s_10), (56, .int .i64 ((v_13).length : Int)), (57, .int .i64 s_15), (82, .bool (decide ((w64 (v_18 + y_20)) < (w64 (v_19 + y_21)))))] rfl ⟨rfl, rfl, rfl, rfl, rfl, rfl, rfl, rfl, rfl, rfl, rfl, rfl, rfl, rfl, rfl, rfl, rfl, rfl, rfl, trivial⟩ ?_
            refine WO_tail ?_
            refine WO_end ?_
            obtain ⟨s_22, hx116, hm96⟩ := bind_some hm96
            refine WK_meet [(0, .slice a_p0 p0.length c_p0), (1, .int .i64 p1), (2, .int .i64 p2), (6, .slice none 0 0), (7, .int .i64 0), (8, .slice none 0 0), (9, .int .i64 0), (12, .int .i64 y_6), (13, .slice a55 ((l_9).length) c57), (15, .slice a87 ((v_13).length) c88), (16, .int .i64 v_14), (17, .int .i64 s_22), (43, .slice a48 (((y_4.take y_4.length).drop (1 : Int).toNat).length) c49), (44, .int .i64 (((y_4.take y_4.length).drop (1 : Int).toNat).length : Int)), (45, .int .i64 s_10), (56, .int .i64 ((v_13).length : Int)), (57, .int .i64 s_15)] (St w0 m m28 [L8, L17, L26, L54]) ?_ (fun hk117 => ?_)
            · refine WK_blk ?_
              refine WK_region ?_
              refine WO_pure tbok 2 [(0, .slice a_p0 p0.length c_p0), (1, .int .i64 p1), (2, .int .i64 p2), (6, .slice none 0 0), (7, .int .i64 0), (8, .slice none 0 0), (9, .int .i64 0), (12, .int .i64 y_6), (13, .slice a55 ((l_9).length) c57), (15, .slice a87 ((v_13).length) c88), (16, .int .i64 v_14), (17, .int .i64 s_22), (43, .slice a48 (((y_4.take y_4.length).drop (1 : Int).toNat).length) c49), (44, .int .i64 (((y_4.take y_4.length).drop (1 : Int).toNat).length : Int)), (45, .int .i64 s_10), (56, .int .i64 ((v_13).length : Int)), (57, .int .i64 (w64 (s_15 + 1)))] rfl ⟨rfl, rfl, rfl, rfl, rfl, rfl, rfl, rfl, rfl, rfl, rfl, rfl, rfl, rfl, rfl, rfl, rfl, trivial⟩ ?_
              refine WO_end ?_
              cases hm96
              refine WK.sub ?_ (WK.cls (fun _ h => h) (hn99 _ () rfl trivial))
              exact ⟨rfl, rfl, rfl, rfl, rfl, rfl, rfl, rfl, rfl, rfl, rfl, rfl, rfl, rfl, rfl, rfl, rfl, trivial⟩
            · refine WK_cond (b := decide ((w64 (v_18 + y_20)) < (w64 (v_19 + y_21)))) rfl (fun hb118 => ?_) (fun hb118 => ?_)
              · have hx116 := ifT hb118 hx116
                refine WK_region ?_
                refine WO_pure tbok 2 [(0, .slice a_p0 p0.length c_p0), (1, .int .i64 p1), (2, .int .i64 p2), (6, .slice none 0 0), (7, .int .i64 0), (8, .slice none 0 0), (9, .int .i64 0), (12, .int .i64 y_6), (13, .slice a55 ((l_9).length) c57), (15, .slice a87 ((v_13).length) c88), (16, .int .i64 v_14), (17, .int .i64 s_15), (43, .slice a48 (((y_4.take y_4.length).drop (1 : Int).toNat).length) c49), (44, .int .i64 (((y_4.take y_4.length).drop (1 : Int).toNat).length : Int)), (45, .int .i64 s_10), (56, .int .i64 ((v_13).length : Int)), (57, .int .i64 s_15)] rfl ⟨rfl, rfl, rfl, rfl, rfl, rfl, rfl, rfl, rfl, rfl, rfl, rfl, rfl, rfl, rfl, rfl, rfl, trivial⟩ ?_
                refine WO_end ?_
                cases hx116
                refine WK.sub ?_ (WK.cls (fun _ h => h) hk117)
                exact ⟨rfl, rfl, rfl, rfl, rfl, rfl, rfl, rfl, rfl, rfl, rfl, rfl, rfl, rfl, rfl, rfl, rfl, trivial⟩
              · have hx116 := ifF hb118 hx116
                refine WK_skip ?_
                cases hx116
                refine WK.sub ?_ (WK.cls (fun _ h => h) hk117)
                exact ⟨rfl, rfl, rfl, rfl, rfl, rfl, rfl, rfl, rfl, rfl, rfl, rfl, rfl, rfl, rfl, rfl, rfl, trivial⟩
          · have hm96 := ifF hb109 hm96
            refine WK_exit rfl ?_
            cases hm96
            refine WK.sub ?_ (WK.cls (fun _ h => h) (hk95 (s_16, ()) (hd100 _ rfl)))
            exact ⟨rfl, rfl, rfl, rfl, rfl, rfl, rfl, rfl, rfl, rfl, rfl, rfl, rfl, trivial⟩
      · have hm66 := ifF hb84 hm66
        refine WK_exit rfl ?_
        cases hm66
        refine WK.sub ?_ (WK.cls (fun _ h => h) (hk65 (l_9, (a55, _, c57, L54)) ⟨(hd70 _ rfl), hL54⟩))
        exact ⟨rfl, rfl, rfl, rfl, rfl, rfl, rfl, rfl, rfl, trivial⟩
theorem slices_Equal_sint_walk {m : Mu} {p0 : List Int} {p1 : List Int} {a_p0 : Option Addr} {q_p0 c_p0 : Nat} {a_p1 : Option Addr} {q_p1 c_p1 : Nat} (h_p0 : SlR (FE (I1 .i64)) 1 m (.slice a_p0 q_p0 c_p0) p0) (h_p1 : SlR (FE (I1 .i64)) 1 m (.slice a_p1 q_p1 c_p1) p1) {r : Bool} (hm : slices_Equal_sint p0 p1 = some r) :
    Go.E.Spec Try.prog 13 [.slice a_p0 q_p0 c_p0, .slice a_p1 q_p1 c_p1] m (fun v _ _ => v = .bool r) := by
  refine Spec_enter Try.func13 rfl rfl rfl (fun w0 => ?_)
  refine WK.sub (e' := [(0, .slice a_p0 q_p0 c_p0), (1, .slice a_p1 q_p1 c_p1)]) ⟨rfl, rfl, trivial⟩ ?_
  obtain rfl := SlR.qlen h_p0
  obtain rfl := SlR.qlen h_p1
  refine WK.sub (e' := [(0, .slice a_p0 p0.length c_p0), (1, .slice a_p1 p1.length c_p1)]) ⟨rfl, rfl, trivial⟩ ?_
  unfold slices_Equal_sint at hm
  refine WK_seq ?_
  refine WK_region ?_
  refine WO_pure tbok 1 [(0, .slice a_p0 p0.length c_p0), (1, .slice a_p1 p1.length c_p1), (4, .bool false)] rfl ⟨rfl, rfl, rfl, trivial⟩ ?_
  refine WO_end ?_
  refine WK_seq ?_
  refine WK_seq ?_
  refine WK_region ?_
  refine WO_pure tbok 5 [(0, .slice a_p0 p0.length c_p0), (1, .slice a_p1 p1.length c_p1), (4, .bool false), (10, .bool ((p0.length : Int) != (p1.length : Int)))] rfl ⟨rfl, rfl, rfl, rfl, trivial⟩ ?_
  refine WO_end ?_
  refine WK_cond (b := (p0.length : Int) != (p1.length : Int)) rfl (fun hb3 => ?_) (fun hb3 => ?_)
  · have hm := ifT hb3 hm
    refine WK_seq ?_
    refine WK_region ?_
    refine WO_pure tbok 1 [(0, .slice a_p0 p0.length c_p0), (1, .slice a_p1 p1.length c_p1), (4, .bool false)] rfl ⟨rfl, rfl, rfl, trivial⟩ ?_
    refine WO_end ?_
    cases hm
    exact WK_ret (ret_out (L := []) (RLc_tmp rfl RLc_nil) (List.nil_sublist _) rfl)
  · have hm := ifF hb3 hm
    refine WK_skip ?_
    refine WK_seq ?_
    refine WK_seq ?_
    refine WK_region ?_
    refine WO_pure tbok 3 [(0, .slice a_p0 p0.length c_p0), (1, .slice a_p1 p1.length c_p1), (4, .bool false), (12, .int .i64 (p0.length : Int)), (13, .int .i64 0)] rfl ⟨rfl, rfl, rfl, rfl, rfl, trivial⟩ ?_
    refine WO_end ?_
    obtain ⟨x4, hx5, hm⟩ := bind_some hm
    refine WK_join (β := Unit × Unit) (fun p => Sum.inr p.1 = x4) (fun p => [(4, .bool false)]) (fun p => St w0 m m []) ?_ (fun hk6 => ?_)
    · rintro ⟨⟨⟩, ⟨⟩⟩ hq12
      subst hq12
      refine WK.sub (e' := [(4, .bool false)]) ⟨rfl, trivial⟩ (WK.cls (C' := St w0 m m []) (fun _ h => h) ?_)
      refine WK_seq ?_
      refine WK_region ?_
      refine WO_pure tbok 1 [(4, .bool true)] rfl ⟨rfl, trivial⟩ ?_
      refine WO_end ?_
      cases hm
      exact WK_ret (ret_out (L := []) (RLc_tmp rfl RLc_nil) (List.nil_sublist _) rfl)
    · refine WK_block ?_
      refine WK_loop (S := Int) (G := Unit) (fun s => slices_Equal_sint_s1 p0 p1 s) (fun s g => [(0, .slice a_p0 p0.length c_p0), (1, .slice a_p1 p1.length c_p1), (4, .bool false), (12, .int .i64 (p0.length : Int)), (13, .int .i64 s)]) (fun s g => St w0 m m []) (fun s g => True) FUEL 0 () x4 hx5 trivial ⟨rfl, rfl, rfl, rfl, rfl, trivial⟩ (fun _ h => h) ?_
      rintro s_1 ⟨⟩ o8 fl9 hm7 - hn10 hd11
      have hm7 : slices_Equal_sint_s1 p0 p1 s_1 = some o8 := hm7
      unfold slices_Equal_sint_s1 at hm7
      refine WK.sub (e' := [(0, .slice a_p0 p0.length c_p0), (1, .slice a_p1 p1.length c_p1), (4, .bool false), (12, .int .i64 (p0.length : Int)), (13, .int .i64 s_1)]) ⟨rfl, rfl, rfl, rfl, rfl, trivial⟩ (WK.cls (C' := St w0 m m []) (fun _ h => h) ?_)
      refine WK_seq ?_
      refine WK_region ?_
      refine WO_pure tbok 1 [(0, .slice a_p0 p0.length c_p0), (1, .slice a_p1 p1.length c_p1), (4, .bool false), (12, .int .i64 (p0.length : Int)), (13, .int .i64 s_1), (14, .bool (decide (s_1 < (p0.length : Int))))] rfl ⟨rfl, rfl, rfl, rfl, rfl, rfl, trivial⟩ ?_
      refine WO_end ?_
      refine WK_seq ?_
      refine WK_cond (b := decide (s_1 < (p0.length : Int))) rfl (fun hb13 => ?_) (fun hb13 => ?_)
      · have hm7 := ifT hb13 hm7
        refine WK_skip ?_
        refine WK_seq ?_
        refine WK_block ?_
        refine WK_seq ?_
        refine WK_region ?_
        refine WO_pure tbok 2 [(0, .slice a_p0 p0.length c_p0), (1, .slice a_p1 p1.length c_p1), (4, .bool false), (5, .int .i64 s_1), (12, .int .i64 (p0.length : Int)), (13, .int .i64 s_1)] rfl ⟨rfl, rfl, rfl, rfl, rfl, rfl, trivial⟩ ?_
        refine WO_end ?_
        refine WK_seq ?_
        refine WK_draw 9 [0, 1, 2, 3, 4, 5, 6, 7, 8] follows_ok (by kernel_rfl) St_closed ?_
        refine WO_pure tbok 2 [(0, .slice a_p0 p0.length c_p0), (1, .slice a_p1 p1.length c_p1), (4, .bool false), (5, .int .i64 s_1), (12, .int .i64 (p0.length : Int)), (13, .int .i64 s_1), (16, .slice a_p0 p0.length c_p0), (17, .int .i64 s_1)] rfl ⟨rfl, rfl, rfl, rfl, rfl, rfl, rfl, rfl, trivial⟩ ?_
        obtain ⟨v_2, hy14, hm7⟩ := bind_some hm7
        obtain ⟨hc15, hy14⟩ := ix_some hy14
        refine WO_index tbok rfl rfl rfl rfl rfl rfl rfl rfl (SlR.addr h_p0) hc15 ?_
        refine WO_loadE tbok rfl rfl rfl rfl (fun _ h => St.sat h) h_p0 hy14 rfl ?_
        refine WO_pure tbok 2 [(0, .slice a_p0 p0.length c_p0), (1, .slice a_p1 p1.length c_p1), (4, .bool false), (12, .int .i64 (p0.length : Int)), (13, .int .i64 s_1), (19, .int .i64 v_2), (20, .slice a_p1 p1.length c_p1), (21, .int .i64 s_1)] rfl ⟨rfl, rfl, rfl, rfl, rfl, rfl, rfl, rfl, trivial⟩ ?_
        obtain ⟨v_3, hy16, hm7⟩ := bind_some hm7
        obtain ⟨hc17, hy16⟩ := ix_some hy16
        refine WO_index tbok rfl rfl rfl rfl rfl rfl rfl rfl (SlR.addr h_p1) hc17 ?_
        refine WO_loadE tbok rfl rfl rfl rfl (fun _ h => St.sat h) h_p1 hy16 rfl ?_
        refine WO_pure tbok 1 [(0, .slice a_p0 p0.length c_p0), (1, .slice a_p1 p1.length c_p1), (4, .bool false), (12, .int .i64 (p0.length : Int)), (13, .int .i64 s_1), (24, .bool (v_2 != v_3))] rfl ⟨rfl, rfl, rfl, rfl, rfl, rfl, trivial⟩ ?_
        refine WO_tail ?_
        refine WO_end ?_
        refine WK_cond (b := v_2 != v_3) rfl (fun hb18 => ?_) (fun hb18 => ?_)
        · have hm7 := ifT hb18 hm7
          refine WK_seq ?_
          refine WK_region ?_
          refine WO_pure tbok 1 [(0, .slice a_p0 p0.length c_p0), (1, .slice a_p1 p1.length c_p1), (4, .bool false), (12, .int .i64 (p0.length : Int)), (13, .int .i64 s_1)] rfl ⟨rfl, rfl, rfl, rfl, rfl, trivial⟩ ?_
          refine WO_end ?_
          cases hm7
          have hq := hd11 _ rfl
          subst hq
          have hm : some _ = some _ := hm
          cases hm
          exact WK_ret (ret_out (L := []) (RLc_tmp rfl RLc_nil) (List.nil_sublist _) rfl)
        · have hm7 := ifF hb18 hm7
          refine WK_skip ?_
          refine WK_blk ?_
          refine WK_region ?_
          refine WO_pure tbok 2 [(0, .slice a_p0 p0.length c_p0), (1, .slice a_p1 p1.length c_p1), (4, .bool false), (12, .int .i64 (p0.length : Int)), (13, .int .i64 (w64 (s_1 + 1)))] rfl ⟨rfl, rfl, rfl, rfl, rfl, trivial⟩ ?_
          refine WO_end ?_
          cases hm7
          refine WK.sub ?_ (WK.cls (fun _ h => h) (hn10 _ () rfl trivial))
          exact ⟨rfl, rfl, rfl, rfl, rfl, trivial⟩
      · have hm7 := ifF hb13 hm7
        refine WK_exit rfl ?_
        cases hm7
        refine WK.sub ?_ (WK.cls (fun _ h => h) (hk6 ((), ()) (hd11 _ rfl)))
        exact ⟨rfl, trivial⟩
theorem slices_IndexFunc_ssint_walk {m : Mu} {p0 : List (List Int)} {p1 : List Int → Option Bool} {a_p0 : Option Addr} {q_p0 c_p0 : Nat} {p1v : Value} (h_p0 : SlR (RowE (FE (I1 .i64)) 1) 1 m (.slice a_p0 q_p0 c_p0) p0) (hp1 : ∀ (m1 : Mu), Le m m1 → ∀ (au1 : Option Addr) (qu1 cu1 : Nat) (u1 : List Int), SlR (FE (I1 .i64)) 1 m1 (.slice au1 qu1 cu1) u1 → ∀ (r : Bool), p1 u1 = some r → SpecV Try.prog p1v [.slice au1 qu1 cu1] m1 (fun v _ _ => v = .bool r)) {r : Int} (hm : slices_IndexFunc_ssint p0 p1 = some r) :
    Go.E.Spec Try.prog 56 [.slice a_p0 q_p0 c_p0, p1v] m (fun v _ _ => v = .int .i64 r) := by
  refine Spec_enter Try.func56 rfl rfl rfl (fun w0 => ?_)
  refine WK.sub (e' := [(0, .slice a_p0 q_p0 c_p0), (1, p1v)]) ⟨rfl, rfl, trivial⟩ ?_
  obtain rfl := SlR.qlen h_p0
  refine WK.sub (e' := [(0, .slice a_p0 p0.length c_p0), (1, p1v)]) ⟨rfl, rfl, trivial⟩ ?_
  unfold slices_IndexFunc_ssint at hm
  refine WK_seq ?_
  refine WK_region ?_
  refine WO_pure tbok 1 [(0, .slice a_p0 p0.length c_p0), (1, p1v), (4, .int .i64 0)] rfl ⟨rfl, rfl, rfl, trivial⟩ ?_
  refine WO_end ?_
  refine WK_seq ?_
  refine WK_seq ?_
  refine WK_region ?_
  refine WO_pure tbok 3 [(0, .slice a_p0 p0.length c_p0), (1, p1v), (4, .int .i64 0), (7, .int .i64 (p0.length : Int)), (8, .int .i64 0)] rfl ⟨rfl, rfl, rfl, rfl, rfl, trivial⟩ ?_
  refine WO_end ?_
  obtain ⟨x2, hx3, hm⟩ := bind_some hm
  refine WK_join (β := Unit × Unit) (fun p => Sum.inr p.1 = x2) (fun p => [(4, .int .i64 0)]) (fun p => St w0 m m []) ?_ (fun hk4 => ?_)
  · rintro ⟨⟨⟩, ⟨⟩⟩ hq10
    subst hq10
    refine WK.sub (e' := [(4, .int .i64 0)]) ⟨rfl, trivial⟩ (WK.cls (C' := St w0 m m []) (fun _ h => h) ?_)
    refine WK_seq ?_
    refine WK_region ?_
    refine WO_pure tbok 1 [(4, .int .i64 (-1))] rfl ⟨rfl, trivial⟩ ?_
    refine WO_end ?_
    cases hm
    exact WK_ret (ret_out (L := []) (RLc_tmp rfl RLc_nil) (List.nil_sublist _) rfl)
  · refine WK_block ?_
    refine WK_loop (S := Int) (G := Unit) (fun s => slices_IndexFunc_ssint_s1 p0 p1 s) (fun s g => [(0, .slice a_p0 p0.length c_p0), (1, p1v), (4, .int .i64 0), (7, .int .i64 (p0.length : Int)), (8, .int .i64 s)]) (fun s g => St w0 m m []) (fun s g => True) FUEL 0 () x2 hx3 trivial ⟨rfl, rfl, rfl, rfl, rfl, trivial⟩ (fun _ h => h) ?_
    rintro s_1 ⟨⟩ o6 fl7 hm5 - hn8 hd9
    have hm5 : slices_IndexFunc_ssint_s1 p0 p1 s_1 = some o6 := hm5
    unfold slices_IndexFunc_ssint_s1 at hm5
    refine WK.sub (e' := [(0, .slice a_p0 p0.length c_p0), (1, p1v), (4, .int .i64 0), (7, .int .i64 (p0.length : Int)), (8, .int .i64 s_1)]) ⟨rfl, rfl, rfl, rfl, rfl, trivial⟩ (WK.cls (C' := St w0 m m []) (fun _ h => h) ?_)
    refine WK_seq ?_
    refine WK_region ?_
    refine WO_pure tbok 1 [(0, .slice a_p0 p0.length c_p0), (1, p1v), (4, .int .i64 0), (7, .int .i64 (p0.length : Int)), (8, .int .i64 s_1), (9, .bool (decide (s_1 < (p0.length : Int))))] rfl ⟨rfl, rfl, rfl, rfl, rfl, rfl, trivial⟩ ?_
    refine WO_end ?_
    refine WK_seq ?_
    refine WK_cond (b := decide (s_1 < (p0.length : Int))) rfl (fun hb11 => ?_) (fun hb11 => ?_)
    · have hm5 := ifT hb11 hm5
      refine WK_skip ?_
      refine WK_seq ?_
      refine WK_block ?_
      refine WK_seq ?_
      refine WK_region ?_
      refine WO_pure tbok 2 [(0, .slice a_p0 p0.length c_p0), (1, p1v), (4, .int .i64 0), (5, .int .i64 s_1), (7, .int .i64 (p0.length : Int)), (8, .int .i64 s_1)] rfl ⟨rfl, rfl, rfl, rfl, rfl, rfl, trivial⟩ ?_
      refine WO_end ?_
      refine WK_seq ?_
      refine WK_region ?_
      refine WO_pure tbok 3 [(0, .slice a_p0 p0.length c_p0), (1, p1v), (4, .int .i64 0), (5, .int .i64 s_1), (7, .int .i64 (p0.length : Int)), (8, .int .i64 s_1), (11, p1v), (12, .slice a_p0 p0.length c_p0), (13, .int .i64 s_1)] rfl ⟨rfl, rfl, rfl, rfl, rfl, rfl, rfl, rfl, rfl, trivial⟩ ?_
      obtain ⟨v_2, hy12, hm5⟩ := bind_some hm5
      obtain ⟨hc13, hy12⟩ := ix_some hy12
      refine WO_index tbok rfl rfl rfl rfl rfl rfl rfl rfl (SlR.addr h_p0) hc13 ?_
      refine WO_loadR tbok rfl rfl rfl rfl (fun _ h => St.sat h) h_p0 hy12 rfl rfl (fun a14 c15 h16 => ?_)
      obtain ⟨y_3, hc18, hm5⟩ := bind_some hm5
      obtain ⟨f0, first0, cap0, hf0, hcal0, hsp0⟩ := hp1 _ (Le.refl _) _ _ _ v_2 h16 _ hc18
      refine WO_call0 (.bool y_3) rfl rfl trivial rfl rfl rfl rfl St_closed ⟨f0, first0, cap0, hf0, hcal0, fun w hw => ⟨m, hw.sat, hsp0⟩⟩ ?_
      refine WO_end ?_
      refine WK_cond (b := y_3) rfl (fun hb19 => ?_) (fun hb19 => ?_)
      · have hm5 := ifT hb19 hm5
        refine WK_seq ?_
        refine WK_region ?_
        refine WO_pure tbok 2 [(0, .slice a_p0 p0.length c_p0), (1, p1v), (4, .int .i64 s_1), (7, .int .i64 (p0.length : Int)), (8, .int .i64 s_1)] rfl ⟨rfl, rfl, rfl, rfl, rfl, trivial⟩ ?_
        refine WO_end ?_
        cases hm5
        have hq := hd9 _ rfl
        subst hq
        have hm : some _ = some _ := hm
        cases hm
        exact WK_ret (ret_out (L := []) (RLc_tmp rfl RLc_nil) (List.nil_sublist _) rfl)
      · have hm5 := ifF hb19 hm5
        refine WK_skip ?_
        refine WK_blk ?_
        refine WK_region ?_
        refine WO_pure tbok 2 [(0, .slice a_p0 p0.length c_p0), (1, p1v), (4, .int .i64 0), (7, .int .i64 (p0.length : Int)), (8, .int .i64 (w64 (s_1 + 1)))] rfl ⟨rfl, rfl, rfl, rfl, rfl, trivial⟩ ?_
        refine WO_end ?_
        cases hm5
        refine WK.sub ?_ (WK.cls (fun _ h => h) (hn8 _ () rfl trivial))
        exact ⟨rfl, rfl, rfl, rfl, rfl, trivial⟩
    · have hm5 := ifF hb11 hm5
      refine WK_exit rfl ?_
      cases hm5
      refine WK.sub ?_ (WK.cls (fun _ h => h) (hk4 ((), ()) (hd9 _ rfl)))
      exact ⟨rfl, trivial⟩
theorem slices_ContainsFunc_ssint_walk {m : Mu} {p0 : List (List Int)} {p1 : List Int → Option Bool} {a_p0 : Option Addr} {q_p0 c_p0 : Nat} {p1v : Value} (h_p0 : SlR (RowE (FE (I1 .i64)) 1) 1 m (.slice a_p0 q_p0 c_p0) p0) (hp1 : ∀ (m1 : Mu), Le m m1 → ∀ (au1 : Option Addr) (qu1 cu1 : Nat) (u1 : List Int), SlR (FE (I1 .i64)) 1 m1 (.slice au1 qu1 cu1) u1 → ∀ (r : Bool), p1 u1 = some r → SpecV Try.prog p1v [.slice au1 qu1 cu1] m1 (fun v _ _ => v = .bool r)) {r : Bool} (hm : slices_ContainsFunc_ssint p0 p1 = some r) :
    Go.E.Spec Try.prog 29 [.slice a_p0 q_p0 c_p0, p1v] m (fun v _ _ => v = .bool r) := by
  refine Spec_enter Try.func29 rfl rfl rfl (fun w0 => ?_)
  refine WK.sub (e' := [(0, .slice a_p0 q_p0 c_p0), (1, p1v)]) ⟨rfl, rfl, trivial⟩ ?_
  obtain rfl := SlR.qlen h_p0
  refine WK.sub (e' := [(0, .slice a_p0 p0.length c_p0), (1, p1v)]) ⟨rfl, rfl, trivial⟩ ?_
  unfold slices_ContainsFunc_ssint at hm
  refine WK_seq ?_
  refine WK_region ?_
  refine WO_pure tbok 1 [(0, .slice a_p0 p0.length c_p0), (1, p1v), (4, .bool false)] rfl ⟨rfl, rfl, rfl, trivial⟩ ?_
  refine WO_end ?_
  refine WK_seq ?_
  refine WK_region ?_
  refine WO_pure tbok 2 [(4, .bool false), (5, .slice a_p0 p0.length c_p0), (6, p1v)] rfl ⟨rfl, rfl, rfl, trivial⟩ ?_
  obtain ⟨y_1, hc2, hm⟩ := bind_some hm
  refine WO_call0 (.int .i64 y_1) rfl rfl trivial rfl rfl rfl rfl St_closed ⟨56, #[], #[], rfl, callable_56, fun w hw => ⟨_, hw.sat, slices_IndexFunc_ssint_walk h_p0 hp1 hc2⟩⟩ ?_
  refine WO_pure tbok 2 [(4, .bool (decide (0 ≤ y_1)))] rfl ⟨rfl, trivial⟩ ?_
  refine WO_end ?_
  cases hm
  exact WK_ret (ret_out (L := []) (RLc_tmp rfl RLc_nil) (List.nil_sublist _) rfl)
theorem aggregate_Prove_c1_walk {m : Mu} {p0 : List Int} {q0_0 : List (List Int)} {a_p0 : Option Addr} {q_p0 c_p0 : Nat} {a_q0_0 : Option Addr} {q_q0_0 c_q0_0 : Nat} {b_q0 : Nat} (h_p0 : SlR (FE (I1 .i64)) 1 m (.slice a_p0 q_p0 c_p0) p0) (hb_q0 : m b_q0 = some (Ent.obj ⟨b_q0, 22, [.slice a_q0_0 q_q0_0 c_q0_0]⟩)) (h_q0_0 : SlR (RowE (FE (I1 .i64)) 1) 1 m (.slice a_q0_0 q_q0_0 c_q0_0) q0_0) {r : Bool} (hm : aggregate_Prove_c1 p0 q0_0 = some r) :
    Go.E.Spec Try.prog 40 [.slice a_p0 q_p0 c_p0, .pointer (some ⟨b_q0, 0, none⟩)] m (fun v _ _ => v = .bool r) := by
  refine Spec_enter Try.func40 rfl rfl rfl (fun w0 => ?_)
  refine WK.sub (e' := [(0, .slice a_p0 q_p0 c_p0), (1, .pointer (some ⟨b_q0, 0, none⟩))]) ⟨rfl, rfl, trivial⟩ ?_
  obtain rfl := SlR.qlen h_p0
  obtain rfl := SlR.qlen h_q0_0
  refine WK.sub (e' := [(0, .slice a_p0 p0.length c_p0), (1, .pointer (some ⟨b_q0, 0, none⟩))]) ⟨rfl, rfl, trivial⟩ ?_
  unfold aggregate_Prove_c1 at hm
  refine WK_seq ?_
  refine WK_region ?_
  refine WO_pure tbok 1 [(0, .slice a_p0 p0.length c_p0), (1, .pointer (some ⟨b_q0, 0, none⟩)), (3, .bool false)] rfl ⟨rfl, rfl, rfl, trivial⟩ ?_
  refine WO_end ?_
  refine WK_seq ?_
  refine WK_region ?_
  refine WO_pure tbok 2 [(1, .pointer (some ⟨b_q0, 0, none⟩)), (3, .bool false), (5, .int .i64 (p0.length : Int))] rfl ⟨rfl, rfl, rfl, trivial⟩ ?_
  refine WO_loadM tbok rfl rfl rfl rfl (fun _ h => St.sat h) hb_q0 rfl ?_
  obtain ⟨v_1, hy3, hm⟩ := bind_some hm
  obtain ⟨hc4, hy3⟩ := ix_some hy3
  refine WO_index tbok rfl rfl rfl rfl rfl rfl rfl rfl (SlR.addr h_q0_0) hc4 ?_
  refine WO_loadR tbok rfl rfl rfl rfl (fun _ h => St.sat h) h_q0_0 hy3 rfl rfl (fun a5 c6 h7 => ?_)
  refine WO_pure tbok 3 [(3, .bool ((p0.length : Int) != ((v_1).length : Int)))] rfl ⟨rfl, trivial⟩ ?_
  refine WO_end ?_
  cases hm
  exact WK_ret (ret_out (L := []) (RLc_tmp rfl RLc_nil) (List.nil_sublist _) rfl)
end Go.Proofs.Ytgakaghdiodakaa
