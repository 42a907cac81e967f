import Derived.Test.YtomlpofoaokmdaaTab
import Derived.Test.YtomlpofoaokmdaaM
set_option linter.unusedVariables false
set_option maxRecDepth 100000
set_option maxHeartbeats 4000000
namespace Go.Proofs.Ytomlpofoaokmdaa
open Go.E Go.RowKit
attribute [local irreducible] Go.E.WO Go.E.WK
theorem slices_IndexFunc_sint_walk {m : Mu} {p0 : List Int} {p1 : Int → Option Bool} {a_p0 : Option Addr} {q_p0 c_p0 : Nat} {p1v : Value} (h_p0 : SlR (FE (I1 .i64)) 1 m (.slice a_p0 q_p0 c_p0) p0) (hp1 : ∀ (m1 : Mu), Le m m1 → ∀ (u1 : Int), ∀ (r : Bool), p1 u1 = some r → SpecV Try.prog p1v [.int .i64 u1] m1 (fun v _ _ => v = .bool r)) {r : Int} (hm : slices_IndexFunc_sint p0 p1 = some r) :
    Go.E.Spec Try.prog 38 [.slice a_p0 q_p0 c_p0, p1v] m (fun v _ _ => v = .int .i64 r) := by
  refine Spec_enter Try.func38 rfl rfl rfl (fun w0 => ?_)
  refine WK.sub (e' := [(0, .slice a_p0 q_p0 c_p0), (1, p1v)]) ⟨rfl, rfl, trivial⟩ ?_
  obtain rfl := SlR.qlen h_p0
  refine WK.sub (e' := [(0, .slice a_p0 p0.length c_p0), (1, p1v)]) ⟨rfl, rfl, trivial⟩ ?_
  unfold slices_IndexFunc_sint at hm
  refine WK_seq ?_
  refine WK_region ?_
  refine WO_pure tbok 1 [(0, .slice a_p0 p0.length c_p0), (1, p1v), (4, .int .i64 0)] rfl ⟨rfl, rfl, rfl, trivial⟩ ?_
  refine WO_end ?_
  refine WK_seq ?_
  refine WK_seq ?_
  refine WK_region ?_
  refine WO_pure tbok 3 [(0, .slice a_p0 p0.length c_p0), (1, p1v), (4, .int .i64 0), (7, .int .i64 (p0.length : Int)), (8, .int .i64 0)] rfl ⟨rfl, rfl, rfl, rfl, rfl, trivial⟩ ?_
  refine WO_end ?_
  obtain ⟨x2, hx3, hm⟩ := bind_some hm
  refine WK_join (β := Unit × Unit) (fun p => Sum.inr p.1 = x2) (fun p => [(4, .int .i64 0)]) (fun p => St w0 m m []) ?_ (fun hk4 => ?_)
  · rintro ⟨⟨⟩, ⟨⟩⟩ hq10
    subst hq10
    refine WK.sub (e' := [(4, .int .i64 0)]) ⟨rfl, trivial⟩ (WK.cls (C' := St w0 m m []) (fun _ h => h) ?_)
    refine WK_seq ?_
    refine WK_region ?_
    refine WO_pure tbok 1 [(4, .int .i64 (-1))] rfl ⟨rfl, trivial⟩ ?_
    refine WO_end ?_
    cases hm
    exact WK_ret (ret_out (L := []) (RLc_tmp rfl RLc_nil) (List.nil_sublist _) rfl)
  · refine WK_block ?_
    refine WK_loop (S := Int) (G := Unit) (fun s => slices_IndexFunc_sint_s1 p0 p1 s) (fun s g => [(0, .slice a_p0 p0.length c_p0), (1, p1v), (4, .int .i64 0), (7, .int .i64 (p0.length : Int)), (8, .int .i64 s)]) (fun s g => St w0 m m []) (fun s g => True) FUEL 0 () x2 hx3 trivial ⟨rfl, rfl, rfl, rfl, rfl, trivial⟩ (fun _ h => h) ?_
    rintro s_1 ⟨⟩ o6 fl7 hm5 - hn8 hd9
    have hm5 : slices_IndexFunc_sint_s1 p0 p1 s_1 = some o6 := hm5
    unfold slices_IndexFunc_sint_s1 at hm5
    refine WK.sub (e' := [(0, .slice a_p0 p0.length c_p0), (1, p1v), (4, .int .i64 0), (7, .int .i64 (p0.length : Int)), (8, .int .i64 s_1)]) ⟨rfl, rfl, rfl, rfl, rfl, trivial⟩ (WK.cls (C' := St w0 m m []) (fun _ h => h) ?_)
    refine WK_seq ?_
    refine WK_region ?_
    refine WO_pure tbok 1 [(0, .slice a_p0 p0.length c_p0), (1, p1v), (4, .int .i64 0), (7, .int .i64 (p0.length : Int)), (8, .int .i64 s_1), (9, .bool (decide (s_1 < (p0.length : Int))))] rfl ⟨rfl, rfl, rfl, rfl, rfl, rfl, trivial⟩ ?_
    refine WO_end ?_
    refine WK_seq ?_
    refine WK_cond (b := decide (s_1 < (p0.length : Int))) rfl (fun hb11 => ?_) (fun hb11 => ?_)
    · have hm5 := ifT hb11 hm5
      refine WK_skip ?_
      refine WK_seq ?_
      refine WK_block ?_
      refine WK_seq ?_
      refine WK_region ?_
      refine WO_pure tbok 2 [(0, .slice a_p0 p0.length c_p0), (1, p1v), (4, .int .i64 0), (5, .int .i64 s_1), (7, .int .i64 (p0.length : Int)), (8, .int .i64 s_1)] rfl ⟨rfl, rfl, rfl, rfl, rfl, rfl, trivial⟩ ?_
      refine WO_end ?_
      refine WK_seq ?_
      refine WK_region ?_
      refine WO_pure tbok 3 [(0, .slice a_p0 p0.length c_p0), (1, p1v), (4, .int .i64 0), (5, .int .i64 s_1), (7, .int .i64 (p0.length : Int)), (8, .int .i64 s_1), (11, p1v), (12, .slice a_p0 p0.length c_p0), (13, .int .i64 s_1)] rfl ⟨rfl, rfl, rfl, rfl, rfl, rfl, rfl, rfl, rfl, trivial⟩ ?_
      obtain ⟨v_2, hy12, hm5⟩ := bind_some hm5
      obtain ⟨hc13, hy12⟩ := ix_some hy12
      refine WO_index tbok rfl rfl rfl rfl rfl rfl rfl rfl (SlR.addr h_p0) hc13 ?_
      refine WO_loadE tbok rfl rfl rfl rfl (fun _ h => St.sat h) h_p0 hy12 rfl ?_
      obtain ⟨y_3, hc14, hm5⟩ := bind_some hm5
      obtain ⟨f0, first0, cap0, hf0, hcal0, hsp0⟩ := hp1 _ (Le.refl _) v_2 _ hc14
      refine WO_call0 (.bool y_3) rfl rfl trivial rfl rfl rfl rfl St_closed ⟨f0, first0, cap0, hf0, hcal0, fun w hw => ⟨m, hw.sat, hsp0⟩⟩ ?_
      refine WO_end ?_
      refine WK_cond (b := y_3) rfl (fun hb15 => ?_) (fun hb15 => ?_)
      · have hm5 := ifT hb15 hm5
        refine WK_seq ?_
        refine WK_region ?_
        refine WO_pure tbok 2 [(0, .slice a_p0 p0.length c_p0), (1, p1v), (4, .int .i64 s_1), (7, .int .i64 (p0.length : Int)), (8, .int .i64 s_1)] rfl ⟨rfl, rfl, rfl, rfl, rfl, trivial⟩ ?_
        refine WO_end ?_
        cases hm5
        have hq := hd9 _ rfl
        subst hq
        have hm : some _ = some _ := hm
        cases hm
        exact WK_ret (ret_out (L := []) (RLc_tmp rfl RLc_nil) (List.nil_sublist _) rfl)
      · have hm5 := ifF hb15 hm5
        refine WK_skip ?_
        refine WK_blk ?_
        refine WK_region ?_
        refine WO_pure tbok 2 [(0, .slice a_p0 p0.length c_p0), (1, p1v), (4, .int .i64 0), (7, .int .i64 (p0.length : Int)), (8, .int .i64 (w64 (s_1 + 1)))] rfl ⟨rfl, rfl, rfl, rfl, rfl, trivial⟩ ?_
        refine WO_end ?_
        cases hm5
        refine WK.sub ?_ (WK.cls (fun _ h => h) (hn8 _ () rfl trivial))
        exact ⟨rfl, rfl, rfl, rfl, rfl, trivial⟩
    · have hm5 := ifF hb11 hm5
      refine WK_exit rfl ?_
      cases hm5
      refine WK.sub ?_ (WK.cls (fun _ h => h) (hk4 ((), ()) (hd9 _ rfl)))
      exact ⟨rfl, trivial⟩
theorem slices_ContainsFunc_sint_walk {m : Mu} {p0 : List Int} {p1 : Int → Option Bool} {a_p0 : Option Addr} {q_p0 c_p0 : Nat} {p1v : Value} (h_p0 : SlR (FE (I1 .i64)) 1 m (.slice a_p0 q_p0 c_p0) p0) (hp1 : ∀ (m1 : Mu), Le m m1 → ∀ (u1 : Int), ∀ (r : Bool), p1 u1 = some r → SpecV Try.prog p1v [.int .i64 u1] m1 (fun v _ _ => v = .bool r)) {r : Bool} (hm : slices_ContainsFunc_sint p0 p1 = some r) :
    Go.E.Spec Try.prog 13 [.slice a_p0 q_p0 c_p0, p1v] m (fun v _ _ => v = .bool r) := by
  refine Spec_enter Try.func13 rfl rfl rfl (fun w0 => ?_)
  refine WK.sub (e' := [(0, .slice a_p0 q_p0 c_p0), (1, p1v)]) ⟨rfl, rfl, trivial⟩ ?_
  obtain rfl := SlR.qlen h_p0
  refine WK.sub (e' := [(0, .slice a_p0 p0.length c_p0), (1, p1v)]) ⟨rfl, rfl, trivial⟩ ?_
  unfold slices_ContainsFunc_sint at hm
  refine WK_seq ?_
  refine WK_region ?_
  refine WO_pure tbok 1 [(0, .slice a_p0 p0.length c_p0), (1, p1v), (4, .bool false)] rfl ⟨rfl, rfl, rfl, trivial⟩ ?_
  refine WO_end ?_
  refine WK_seq ?_
  refine WK_region ?_
  refine WO_pure tbok 2 [(4, .bool false), (5, .slice a_p0 p0.length c_p0), (6, p1v)] rfl ⟨rfl, rfl, rfl, trivial⟩ ?_
  obtain ⟨y_1, hc2, hm⟩ := bind_some hm
  refine WO_call0 (.int .i64 y_1) rfl rfl trivial rfl rfl rfl rfl St_closed ⟨38, #[], #[], rfl, callable_38, fun w hw => ⟨_, hw.sat, slices_IndexFunc_sint_walk h_p0 hp1 hc2⟩⟩ ?_
  refine WO_pure tbok 2 [(4, .bool (decide (0 ≤ y_1)))] rfl ⟨rfl, trivial⟩ ?_
  refine WO_end ?_
  cases hm
  exact WK_ret (ret_out (L := []) (RLc_tmp rfl RLc_nil) (List.nil_sublist _) rfl)
theorem seam_Check_c1_walk {m : Mu} {p0 : Int}   {r : Bool} (hm : seam_Check_c1 p0 = some r) :
    Go.E.Spec Try.prog 49 [.int .i64 p0] m (fun v _ _ => v = .bool r) := by
  refine Spec_enter Try.func49 rfl rfl rfl (fun w0 => ?_)
  refine WK.sub (e' := [(0, .int .i64 p0)]) ⟨rfl, trivial⟩ ?_
  refine WK.sub (e' := [(0, .int .i64 p0)]) ⟨rfl, trivial⟩ ?_
  unfold seam_Check_c1 at hm
  refine WK_seq ?_
  refine WK_region ?_
  refine WO_pure tbok 1 [(0, .int .i64 p0), (2, .bool false)] rfl ⟨rfl, rfl, trivial⟩ ?_
  refine WO_end ?_
  refine WK_seq ?_
  refine WK_region ?_
  refine WO_pure tbok 3 [(0, .int .i64 p0), (2, .bool false), (5, .bool (decide (p0 < 0)))] rfl ⟨rfl, rfl, rfl, trivial⟩ ?_
  refine WO_split (d := 5) (b := decide (p0 < 0)) rfl (fun hb1 => ?_) (fun hb1 => ?_)
  · have hm := ifT hb1 hm
    refine WO_pure tbok 4 [(2, .bool true)] rfl ⟨rfl, trivial⟩ ?_
    refine WO_end ?_
    cases hm
    exact WK_ret (ret_out (L := []) (RLc_tmp rfl RLc_nil) (List.nil_sublist _) rfl)
  · have hm := ifF hb1 hm
    refine WO_pure tbok 4 [(2, .bool (decide (1048576 < p0)))] rfl ⟨rfl, trivial⟩ ?_
    refine WO_end ?_
    cases hm
    exact WK_ret (ret_out (L := []) (RLc_tmp rfl RLc_nil) (List.nil_sublist _) rfl)
theorem seam_Check_walk {m : Mu} {p0 : List (List Int)} {a_p0 : Option Addr} {q_p0 c_p0 : Nat} (h_p0 : SlR (RowE (FE (I1 .i64)) 1) 1 m (.slice a_p0 q_p0 c_p0) p0) {r : Int} (hm : seam_Check p0 = some r) :
    Go.E.Spec Try.prog 25 [.slice a_p0 q_p0 c_p0] m (fun v _ _ => v = .int .i64 r) := by
  refine Spec_enter Try.func25 rfl rfl rfl (fun w0 => ?_)
  refine WK.sub (e' := [(0, .slice a_p0 q_p0 c_p0)]) ⟨rfl, trivial⟩ ?_
  obtain rfl := SlR.qlen h_p0
  refine WK.sub (e' := [(0, .slice a_p0 p0.length c_p0)]) ⟨rfl, trivial⟩ ?_
  unfold seam_Check at hm
  refine WK_seq ?_
  refine WK_region ?_
  refine WO_pure tbok 1 [(0, .slice a_p0 p0.length c_p0), (2, .int .i64 0)] rfl ⟨rfl, rfl, trivial⟩ ?_
  refine WO_end ?_
  refine WK_seq ?_
  refine WK_seq ?_
  obtain ⟨s_1, hx2, hm⟩ := bind_some hm
  refine WK_meet [(0, .slice a_p0 p0.length c_p0), (2, .int .i64 0), (26, .bool s_1)] (St w0 m m []) ?_ (fun hk3 => ?_)
  · refine WK_cond (b := s_1) rfl (fun hb4 => ?_) (fun hb4 => ?_)
    · have hm := ifT hb4 hm
      refine WK_seq ?_
      refine WK_region ?_
      refine WO_pure tbok 1 [(0, .slice a_p0 p0.length c_p0), (2, .int .i64 3)] rfl ⟨rfl, rfl, trivial⟩ ?_
      refine WO_end ?_
      cases hm
      exact WK_ret (ret_out (L := []) (RLc_tmp rfl RLc_nil) (List.nil_sublist _) rfl)
    · have hm := ifF hb4 hm
      refine WK_skip ?_
      refine WK_seq ?_
      refine WK_seq ?_
      refine WK_region ?_
      refine WO_pure tbok 3 [(0, .slice a_p0 p0.length c_p0), (2, .int .i64 0), (27, .slice a_p0 p0.length c_p0), (28, .int .i64 (p0.length : Int)), (29, .int .i64 0)] rfl ⟨rfl, rfl, rfl, rfl, rfl, trivial⟩ ?_
      refine WO_end ?_
      obtain ⟨x5, hx6, hm⟩ := bind_some hm
      refine WK_join (β := Unit × Unit) (fun p => Sum.inr p.1 = x5) (fun p => [(2, .int .i64 0)]) (fun p => St w0 m m []) ?_ (fun hk7 => ?_)
      · rintro ⟨⟨⟩, ⟨⟩⟩ hq13
        subst hq13
        refine WK.sub (e' := [(2, .int .i64 0)]) ⟨rfl, trivial⟩ (WK.cls (C' := St w0 m m []) (fun _ h => h) ?_)
        refine WK_seq ?_
        refine WK_region ?_
        refine WO_pure tbok 1 [(2, .int .i64 0)] rfl ⟨rfl, trivial⟩ ?_
        refine WO_end ?_
        cases hm
        exact WK_ret (ret_out (L := []) (RLc_tmp rfl RLc_nil) (List.nil_sublist _) rfl)
      · refine WK_block ?_
        refine WK_loop (S := Int) (G := Unit) (fun s => seam_Check_s1 p0 s) (fun s g => [(0, .slice a_p0 p0.length c_p0), (2, .int .i64 0), (27, .slice a_p0 p0.length c_p0), (28, .int .i64 (p0.length : Int)), (29, .int .i64 s)]) (fun s g => St w0 m m []) (fun s g => True) FUEL 0 () x5 hx6 trivial ⟨rfl, rfl, rfl, rfl, rfl, trivial⟩ (fun _ h => h) ?_
        rintro s_2 ⟨⟩ o9 fl10 hm8 - hn11 hd12
        have hm8 : seam_Check_s1 p0 s_2 = some o9 := hm8
        unfold seam_Check_s1 at hm8
        refine WK.sub (e' := [(0, .slice a_p0 p0.length c_p0), (2, .int .i64 0), (27, .slice a_p0 p0.length c_p0), (28, .int .i64 (p0.length : Int)), (29, .int .i64 s_2)]) ⟨rfl, rfl, rfl, rfl, rfl, trivial⟩ (WK.cls (C' := St w0 m m []) (fun _ h => h) ?_)
        refine WK_seq ?_
        refine WK_region ?_
        refine WO_pure tbok 1 [(0, .slice a_p0 p0.length c_p0), (2, .int .i64 0), (27, .slice a_p0 p0.length c_p0), (28, .int .i64 (p0.length : Int)), (29, .int .i64 s_2), (30, .bool (decide (s_2 < (p0.length : Int))))] rfl ⟨rfl, rfl, rfl, rfl, rfl, rfl, trivial⟩ ?_
        refine WO_end ?_
        refine WK_seq ?_
        refine WK_cond (b := decide (s_2 < (p0.length : Int))) rfl (fun hb14 => ?_) (fun hb14 => ?_)
        · have hm8 := ifT hb14 hm8
          refine WK_skip ?_
          refine WK_seq ?_
          refine WK_block ?_
          refine WK_seq ?_
          refine WK_region ?_
          obtain ⟨v_3, hy15, hm8⟩ := bind_some hm8
          obtain ⟨hc16, hy15⟩ := ix_some hy15
          refine WO_index tbok rfl rfl rfl rfl rfl rfl rfl rfl (SlR.addr h_p0) hc16 ?_
          refine WO_loadR tbok rfl rfl rfl rfl (fun _ h => St.sat h) h_p0 hy15 rfl rfl (fun a17 c18 h19 => ?_)
          refine WO_pure tbok 1 [(0, .slice a_p0 p0.length c_p0), (2, .int .i64 0), (4, .slice a17 ((v_3).length) c18), (27, .slice a_p0 p0.length c_p0), (28, .int .i64 (p0.length : Int)), (29, .int .i64 s_2)] rfl ⟨rfl, rfl, rfl, rfl, rfl, rfl, trivial⟩ ?_
          refine WO_end ?_
          refine WK_seq ?_
          refine WK_seq ?_
          refine WK_region ?_
          refine WO_pure tbok 3 [(0, .slice a_p0 p0.length c_p0), (2, .int .i64 0), (4, .slice a17 ((v_3).length) c18), (27, .slice a_p0 p0.length c_p0), (28, .int .i64 (p0.length : Int)), (29, .int .i64 s_2), (34, .int .i64 ((v_3).length : Int)), (35, .slice a_p0 p0.length c_p0)] rfl ⟨rfl, rfl, rfl, rfl, rfl, rfl, rfl, rfl, trivial⟩ ?_
          obtain ⟨v_4, hy21, hm8⟩ := bind_some hm8
          obtain ⟨hc22, hy21⟩ := ix_some hy21
          refine WO_index tbok rfl rfl rfl rfl rfl rfl rfl rfl (SlR.addr h_p0) hc22 ?_
          refine WO_loadR tbok rfl rfl rfl rfl (fun _ h => St.sat h) h_p0 hy21 rfl rfl (fun a23 c24 h25 => ?_)
          refine WO_pure tbok 2 [(0, .slice a_p0 p0.length c_p0), (2, .int .i64 0), (4, .slice a17 ((v_3).length) c18), (27, .slice a_p0 p0.length c_p0), (28, .int .i64 (p0.length : Int)), (29, .int .i64 s_2), (39, .bool (((v_3).length : Int) != ((v_4).length : Int)))] rfl ⟨rfl, rfl, rfl, rfl, rfl, rfl, rfl, trivial⟩ ?_
          refine WO_end ?_
          refine WK_cond (b := ((v_3).length : Int) != ((v_4).length : Int)) rfl (fun hb27 => ?_) (fun hb27 => ?_)
          · have hm8 := ifT hb27 hm8
            refine WK_seq ?_
            refine WK_region ?_
            refine WO_pure tbok 1 [(0, .slice a_p0 p0.length c_p0), (2, .int .i64 4), (4, .slice a17 ((v_3).length) c18), (27, .slice a_p0 p0.length c_p0), (28, .int .i64 (p0.length : Int)), (29, .int .i64 s_2)] rfl ⟨rfl, rfl, rfl, rfl, rfl, rfl, trivial⟩ ?_
            refine WO_end ?_
            cases hm8
            have hq := hd12 _ rfl
            subst hq
            have hm : some _ = some _ := hm
            cases hm
            exact WK_ret (ret_out (L := []) (RLc_tmp rfl RLc_nil) (List.nil_sublist _) rfl)
          · have hm8 := ifF hb27 hm8
            refine WK_skip ?_
            refine WK_seq ?_
            refine WK_region ?_
            refine WO_pure tbok 1 [(0, .slice a_p0 p0.length c_p0), (2, .int .i64 0), (27, .slice a_p0 p0.length c_p0), (28, .int .i64 (p0.length : Int)), (29, .int .i64 s_2), (40, .slice a17 ((v_3).length) c18)] rfl ⟨rfl, rfl, rfl, rfl, rfl, rfl, trivial⟩ ?_
            obtain ⟨y_6, hc28, hm8⟩ := bind_some hm8
            refine WO_call0 (.bool y_6) rfl rfl trivial rfl rfl rfl rfl St_closed ⟨13, #[], #[], rfl, callable_13, fun w hw => ⟨_, hw.sat, slices_ContainsFunc_sint_walk h19 (fun m1 hm1 z_5 _ h => specV_cap callable_49 (seam_Check_c1_walk h)) hc28⟩⟩ ?_
            refine WO_end ?_
            refine WK_cond (b := y_6) rfl (fun hb29 => ?_) (fun hb29 => ?_)
            · have hm8 := ifT hb29 hm8
              refine WK_seq ?_
              refine WK_region ?_
              refine WO_pure tbok 1 [(0, .slice a_p0 p0.length c_p0), (2, .int .i64 2), (27, .slice a_p0 p0.length c_p0), (28, .int .i64 (p0.length : Int)), (29, .int .i64 s_2)] rfl ⟨rfl, rfl, rfl, rfl, rfl, trivial⟩ ?_
              refine WO_end ?_
              cases hm8
              have hq := hd12 _ rfl
              subst hq
              have hm : some _ = some _ := hm
              cases hm
              exact WK_ret (ret_out (L := []) (RLc_tmp rfl RLc_nil) (List.nil_sublist _) rfl)
            · have hm8 := ifF hb29 hm8
              refine WK_skip ?_
              refine WK_blk ?_
              refine WK_region ?_
              refine WO_pure tbok 2 [(0, .slice a_p0 p0.length c_p0), (2, .int .i64 0), (27, .slice a_p0 p0.length c_p0), (28, .int .i64 (p0.length : Int)), (29, .int .i64 (w64 (s_2 + 1)))] rfl ⟨rfl, rfl, rfl, rfl, rfl, trivial⟩ ?_
              refine WO_end ?_
              cases hm8
              refine WK.sub ?_ (WK.cls (fun _ h => h) (hn11 _ () rfl trivial))
              exact ⟨rfl, rfl, rfl, rfl, rfl, trivial⟩
        · have hm8 := ifF hb14 hm8
          refine WK_exit rfl ?_
          cases hm8
          refine WK.sub ?_ (WK.cls (fun _ h => h) (hk7 ((), ()) (hd12 _ rfl)))
          exact ⟨rfl, trivial⟩
  · refine WK_region ?_
    refine WO_pure tbok 4 [(0, .slice a_p0 p0.length c_p0), (2, .int .i64 0), (8, .bool (decide ((p0.length : Int) < 1)))] rfl ⟨rfl, rfl, rfl, trivial⟩ ?_
    refine WO_split (d := 8) (b := decide ((p0.length : Int) < 1)) rfl (fun hb30 => ?_) (fun hb30 => ?_)
    · have hx2 := ifT hb30 hx2
      refine WO_pure tbok 18 [(0, .slice a_p0 p0.length c_p0), (2, .int .i64 0), (26, .bool true)] rfl ⟨rfl, rfl, rfl, trivial⟩ ?_
      refine WO_end ?_
      cases hx2
      refine WK.sub ?_ (WK.cls (fun _ h => h) hk3)
      exact ⟨rfl, rfl, rfl, trivial⟩
    · have hx2 := ifF hb30 hx2
      refine WO_pure tbok 5 [(0, .slice a_p0 p0.length c_p0), (2, .int .i64 0), (13, .bool (decide (64 < (p0.length : Int))))] rfl ⟨rfl, rfl, rfl, trivial⟩ ?_
      refine WO_split (d := 13) (b := decide (64 < (p0.length : Int))) rfl (fun hb31 => ?_) (fun hb31 => ?_)
      · have hx2 := ifT hb31 hx2
        refine WO_pure tbok 13 [(0, .slice a_p0 p0.length c_p0), (2, .int .i64 0), (26, .bool true)] rfl ⟨rfl, rfl, rfl, trivial⟩ ?_
        refine WO_end ?_
        cases hx2
        refine WK.sub ?_ (WK.cls (fun _ h => h) hk3)
        exact ⟨rfl, rfl, rfl, trivial⟩
      · have hx2 := ifF hb31 hx2
        refine WO_pure tbok 1 [(0, .slice a_p0 p0.length c_p0), (2, .int .i64 0), (13, .bool false), (14, .slice a_p0 p0.length c_p0)] rfl ⟨rfl, rfl, rfl, rfl, trivial⟩ ?_
        obtain ⟨v_7, hy32, hx2⟩ := bind_some hx2
        obtain ⟨hc33, hy32⟩ := ix_some hy32
        refine WO_index tbok rfl rfl rfl rfl rfl rfl rfl rfl (SlR.addr h_p0) hc33 ?_
        refine WO_loadR tbok rfl rfl rfl rfl (fun _ h => St.sat h) h_p0 hy32 rfl rfl (fun a34 c35 h36 => ?_)
        refine WO_pure tbok 4 [(0, .slice a_p0 p0.length c_p0), (2, .int .i64 0), (20, .bool (decide (((v_7).length : Int) < 1)))] rfl ⟨rfl, rfl, rfl, trivial⟩ ?_
        refine WO_split (d := 20) (b := decide (((v_7).length : Int) < 1)) rfl (fun hb38 => ?_) (fun hb38 => ?_)
        · have hx2 := ifT hb38 hx2
          refine WO_pure tbok 6 [(0, .slice a_p0 p0.length c_p0), (2, .int .i64 0), (26, .bool true)] rfl ⟨rfl, rfl, rfl, trivial⟩ ?_
          refine WO_end ?_
          cases hx2
          refine WK.sub ?_ (WK.cls (fun _ h => h) hk3)
          exact ⟨rfl, rfl, rfl, trivial⟩
        · have hx2 := ifF hb38 hx2
          refine WO_pure tbok 1 [(0, .slice a_p0 p0.length c_p0), (2, .int .i64 0), (20, .bool false), (21, .slice a_p0 p0.length c_p0)] rfl ⟨rfl, rfl, rfl, rfl, trivial⟩ ?_
          obtain ⟨v_8, hy39, hx2⟩ := bind_some hx2
          obtain ⟨hc40, hy39⟩ := ix_some hy39
          refine WO_index tbok rfl rfl rfl rfl rfl rfl rfl rfl (SlR.addr h_p0) hc40 ?_
          refine WO_loadR tbok rfl rfl rfl rfl (fun _ h => St.sat h) h_p0 hy39 rfl rfl (fun a41 c42 h43 => ?_)
          refine WO_pure tbok 3 [(0, .slice a_p0 p0.length c_p0), (2, .int .i64 0), (26, .bool (decide (64 < ((v_8).length : Int))))] rfl ⟨rfl, rfl, rfl, trivial⟩ ?_
          refine WO_end ?_
          cases hx2
          refine WK.sub ?_ (WK.cls (fun _ h => h) hk3)
          exact ⟨rfl, rfl, rfl, trivial⟩
theorem seam_near_walk {m : Mu} {p0 : Int} {p1 : Int}   {r : Int × Int} (hm : seam_near p0 p1 = some r) :
    Go.E.Spec Try.prog 57 [.int .i64 p0, .int .i64 p1] m (fun v _ _ => v = .tuple #[.int .i64 r.1, .int .i64 r.2]) := by
  refine Spec_enter Try.func57 rfl rfl rfl (fun w0 => ?_)
  refine WK.sub (e' := [(0, .int .i64 p0), (1, .int .i64 p1)]) ⟨rfl, rfl, trivial⟩ ?_
  refine WK.sub (e' := [(0, .int .i64 p0), (1, .int .i64 p1)]) ⟨rfl, rfl, trivial⟩ ?_
  unfold seam_near at hm
  refine WK_seq ?_
  refine WK_region ?_
  refine WO_pure tbok 2 [(0, .int .i64 p0), (1, .int .i64 p1), (4, .int .i64 0), (5, .int .i64 0)] rfl ⟨rfl, rfl, rfl, rfl, trivial⟩ ?_
  refine WO_end ?_
  refine WK_seq ?_
  refine WK_region ?_
  refine WO_pure tbok 10 [(4, .int .i64 (if 0 < (w64 (p0 - 1)) then (w64 (p0 - 1)) else 0)), (5, .int .i64 (if (w64 (p0 + 1)) < (w64 (p1 - 1)) then (w64 (p0 + 1)) else (w64 (p1 - 1))))] rfl ⟨rfl, rfl, trivial⟩ ?_
  refine WO_end ?_
  cases hm
  exact WK_ret (ret_out (L := []) (RLc_tmp rfl (RLc_tmp rfl RLc_nil)) (List.nil_sublist _) rfl)
theorem slices_Min_sint_walk {m : Mu} {p0 : List Int} {a_p0 : Option Addr} {q_p0 c_p0 : Nat} (h_p0 : SlR (FE (I1 .i64)) 1 m (.slice a_p0 q_p0 c_p0) p0) {r : Int} (hm : slices_Min_sint p0 = some r) :
    Go.E.Spec Try.prog 41 [.slice a_p0 q_p0 c_p0] m (fun v _ _ => v = .int .i64 r) := by
  refine Spec_enter Try.func41 rfl rfl rfl (fun w0 => ?_)
  refine WK.sub (e' := [(0, .slice a_p0 q_p0 c_p0)]) ⟨rfl, trivial⟩ ?_
  obtain rfl := SlR.qlen h_p0
  refine WK.sub (e' := [(0, .slice a_p0 p0.length c_p0)]) ⟨rfl, trivial⟩ ?_
  unfold slices_Min_sint at hm
  refine WK_seq ?_
  refine WK_region ?_
  refine WO_pure tbok 1 [(0, .slice a_p0 p0.length c_p0), (2, .int .i64 0)] rfl ⟨rfl, rfl, trivial⟩ ?_
  refine WO_end ?_
  refine WK_seq ?_
  refine WK_seq ?_
  refine WK_region ?_
  refine WO_pure tbok 3 [(0, .slice a_p0 p0.length c_p0), (2, .int .i64 0), (7, .bool (decide ((p0.length : Int) < 1)))] rfl ⟨rfl, rfl, rfl, trivial⟩ ?_
  refine WO_end ?_
  refine WK_cond (b := decide ((p0.length : Int) < 1)) rfl (fun hb2 => ?_) (fun hb2 => ?_)
  · have hm := ifT hb2 hm
    refine WK_region ?_
    cases hm
  · have hm := ifF hb2 hm
    refine WK_skip ?_
    refine WK_seq ?_
    refine WK_region ?_
    refine WO_pure tbok 1 [(0, .slice a_p0 p0.length c_p0), (2, .int .i64 0), (9, .slice a_p0 p0.length c_p0)] rfl ⟨rfl, rfl, rfl, trivial⟩ ?_
    obtain ⟨v_1, hy3, hm⟩ := bind_some hm
    obtain ⟨hc4, hy3⟩ := ix_some hy3
    refine WO_index tbok rfl rfl rfl rfl rfl rfl rfl rfl (SlR.addr h_p0) hc4 ?_
    refine WO_loadE tbok rfl rfl rfl rfl (fun _ h => St.sat h) h_p0 hy3 rfl ?_
    refine WO_pure tbok 1 [(0, .slice a_p0 p0.length c_p0), (2, .int .i64 0), (3, .int .i64 v_1)] rfl ⟨rfl, rfl, rfl, trivial⟩ ?_
    refine WO_end ?_
    refine WK_seq ?_
    refine WK_seq ?_
    refine WK_region ?_
    refine WO_pure tbok 1 [(0, .slice a_p0 p0.length c_p0), (2, .int .i64 0), (3, .int .i64 v_1), (4, .int .i64 1)] rfl ⟨rfl, rfl, rfl, rfl, trivial⟩ ?_
    refine WO_end ?_
    obtain ⟨x5, hx6, hm⟩ := bind_some hm
    refine WK_join (β := Int × Unit) (fun p => p.1 = x5) (fun p => [(2, .int .i64 0), (3, .int .i64 p.1)]) (fun p => St w0 m m []) ?_ (fun hk7 => ?_)
    · rintro ⟨s_4, ⟨⟩⟩ hq13
      subst hq13
      refine WK.sub (e' := [(2, .int .i64 0), (3, .int .i64 s_4)]) ⟨rfl, rfl, trivial⟩ (WK.cls (C' := St w0 m m []) (fun _ h => h) ?_)
      refine WK_seq ?_
      refine WK_region ?_
      refine WO_pure tbok 2 [(2, .int .i64 s_4)] rfl ⟨rfl, trivial⟩ ?_
      refine WO_end ?_
      cases hm
      exact WK_ret (ret_out (L := []) (RLc_tmp rfl RLc_nil) (List.nil_sublist _) rfl)
    · refine WK_block ?_
      refine WK_loop (S := Int × Int) (G := Unit) (fun s => slices_Min_sint_s1 p0 s.1 s.2) (fun s g => [(0, .slice a_p0 p0.length c_p0), (2, .int .i64 0), (3, .int .i64 s.1), (4, .int .i64 s.2)]) (fun s g => St w0 m m []) (fun s g => True) FUEL (v_1, 1) () x5 hx6 trivial ⟨rfl, rfl, rfl, rfl, trivial⟩ (fun _ h => h) ?_
      rintro ⟨s_2, s_3⟩ ⟨⟩ o9 fl10 hm8 - hn11 hd12
      have hm8 : slices_Min_sint_s1 p0 s_2 s_3 = some o9 := hm8
      unfold slices_Min_sint_s1 at hm8
      refine WK.sub (e' := [(0, .slice a_p0 p0.length c_p0), (2, .int .i64 0), (3, .int .i64 s_2), (4, .int .i64 s_3)]) ⟨rfl, rfl, rfl, rfl, trivial⟩ (WK.cls (C' := St w0 m m []) (fun _ h => h) ?_)
      refine WK_seq ?_
      refine WK_seq ?_
      refine WK_region ?_
      refine WO_pure tbok 4 [(0, .slice a_p0 p0.length c_p0), (2, .int .i64 0), (3, .int .i64 s_2), (4, .int .i64 s_3), (15, .bool (decide (s_3 < (p0.length : Int))))] rfl ⟨rfl, rfl, rfl, rfl, rfl, trivial⟩ ?_
      refine WO_end ?_
      refine WK_cond (b := decide (s_3 < (p0.length : Int))) rfl (fun hb14 => ?_) (fun hb14 => ?_)
      · have hm8 := ifT hb14 hm8
        refine WK_skip ?_
        refine WK_seq ?_
        refine WK_block ?_
        refine WK_region ?_
        refine WO_pure tbok 3 [(0, .slice a_p0 p0.length c_p0), (2, .int .i64 0), (3, .int .i64 s_2), (4, .int .i64 s_3), (18, .int .i64 s_2), (19, .slice a_p0 p0.length c_p0), (20, .int .i64 s_3)] rfl ⟨rfl, rfl, rfl, rfl, rfl, rfl, rfl, trivial⟩ ?_
        obtain ⟨v_5, hy15, hm8⟩ := bind_some hm8
        obtain ⟨hc16, hy15⟩ := ix_some hy15
        refine WO_index tbok rfl rfl rfl rfl rfl rfl rfl rfl (SlR.addr h_p0) hc16 ?_
        refine WO_loadE tbok rfl rfl rfl rfl (fun _ h => St.sat h) h_p0 hy15 rfl ?_
        refine WO_pure tbok 2 [(0, .slice a_p0 p0.length c_p0), (2, .int .i64 0), (3, .int .i64 (if v_5 < s_2 then v_5 else s_2)), (4, .int .i64 s_3)] rfl ⟨rfl, rfl, rfl, rfl, trivial⟩ ?_
        refine WO_end ?_
        refine WK_blk ?_
        refine WK_region ?_
        refine WO_pure tbok 3 [(0, .slice a_p0 p0.length c_p0), (2, .int .i64 0), (3, .int .i64 (if v_5 < s_2 then v_5 else s_2)), (4, .int .i64 (w64 (s_3 + 1)))] rfl ⟨rfl, rfl, rfl, rfl, trivial⟩ ?_
        refine WO_end ?_
        cases hm8
        refine WK.sub ?_ (WK.cls (fun _ h => h) (hn11 _ () rfl trivial))
        exact ⟨rfl, rfl, rfl, rfl, trivial⟩
      · have hm8 := ifF hb14 hm8
        refine WK_exit rfl ?_
        cases hm8
        refine WK.sub ?_ (WK.cls (fun _ h => h) (hk7 (s_2, ()) (hd12 _ rfl)))
        exact ⟨rfl, rfl, trivial⟩
theorem seam_least_walk {m : Mu} {p0 : List Int} {p1 : Int} {p2 : Int} {a_p0 : Option Addr} {q_p0 c_p0 : Nat} (h_p0 : SlR (FE (I1 .i64)) 1 m (.slice a_p0 q_p0 c_p0) p0) {r : Int} (hm : seam_least p0 p1 p2 = some r) :
    Go.E.Spec Try.prog 59 [.slice a_p0 q_p0 c_p0, .int .i64 p1, .int .i64 p2] m (fun v _ _ => v = .int .i64 r) := by
  refine Spec_enter Try.func59 rfl rfl rfl (fun w0 => ?_)
  refine WK.sub (e' := [(0, .slice a_p0 q_p0 c_p0), (1, .int .i64 p1), (2, .int .i64 p2)]) ⟨rfl, rfl, rfl, trivial⟩ ?_
  obtain rfl := SlR.qlen h_p0
  refine WK.sub (e' := [(0, .slice a_p0 p0.length c_p0), (1, .int .i64 p1), (2, .int .i64 p2)]) ⟨rfl, rfl, rfl, trivial⟩ ?_
  unfold seam_least at hm
  refine WK_seq ?_
  refine WK_region ?_
  refine WO_pure tbok 1 [(0, .slice a_p0 p0.length c_p0), (1, .int .i64 p1), (2, .int .i64 p2), (6, .int .i64 0)] rfl ⟨rfl, rfl, rfl, rfl, trivial⟩ ?_
  refine WO_end ?_
  refine WK_seq ?_
  refine WK_region ?_
  refine WO_pure tbok 4 [(6, .int .i64 0), (7, .slice a_p0 p0.length c_p0), (8, .int .i64 p1), (10, .int .i64 (w64 (p2 + 1)))] rfl ⟨rfl, rfl, rfl, rfl, trivial⟩ ?_
  obtain ⟨hc2, hm⟩ := chk_some hm
  have hc2 : 0 ≤ (p1 : Int) ∧ (p1 : Int) ≤ (w64 (p2 + 1) : Int) ∧ (w64 (p2 + 1) : Int) ≤ (p0.length : Int) := hc2
  have hz6 : SlR (FE (I1 .i64)) 1 m (.slice a_p0 p0.length c_p0) p0 := h_p0
  refine WO_slice tbok (some (p1 : Int)) (some (w64 (p2 + 1) : Int)) none (p1 : Int).toNat (w64 (p2 + 1) : Int).toNat rfl rfl rfl rfl rfl rfl rfl rfl rfl rfl rfl hz6 (by simp only [Option.getD_some] <;> omega) (by simp only [Option.getD_some] <;> omega) (fun q hq => by cases hq) (by omega) (by omega) (fun hh => by cases hh) (fun a3 c4 h5 => ?_)
  obtain ⟨y_1, hc8, hm⟩ := bind_some hm
  refine WO_call0 (.int .i64 y_1) rfl rfl trivial rfl rfl rfl rfl St_closed ⟨41, #[], #[], rfl, callable_41, fun w hw => ⟨_, hw.sat, slices_Min_sint_walk h5 hc8⟩⟩ ?_
  refine WO_pure tbok 1 [(6, .int .i64 y_1)] rfl ⟨rfl, trivial⟩ ?_
  refine WO_end ?_
  cases hm
  exact WK_ret (ret_out (L := []) (RLc_tmp rfl RLc_nil) (List.nil_sublist _) rfl)
def seam_upward_Q (r : List (List Int)) : Value → Mu → List Ent → Prop := fun v m L => ∃ (a0 : Option Addr) (q0 c0 : Nat), v = .slice a0 q0 c0 ∧ SlR (RowE (FE (I1 .i64)) 1) 1 m (.slice a0 q0 c0) r
theorem seam_upward_walk {m : Mu} {p0 : List (List Int)} {p1 : Int → Int → Option Bool} {a_p0 : Option Addr} {q_p0 c_p0 : Nat} {p1v : Value} (h_p0 : SlR (RowE (FE (I1 .i64)) 1) 1 m (.slice a_p0 q_p0 c_p0) p0) (hp1 : ∀ (m1 : Mu), Le m m1 → ∀ (u1 : Int), ∀ (u2 : Int), ∀ (r : Bool), p1 u1 u2 = some r → SpecV Try.prog p1v [.int .i64 u1, .int .i64 u2] m1 (fun v _ _ => v = .bool r)) {r : List (List Int)} (hm : seam_upward p0 p1 = some r) :
    Go.E.Spec Try.prog 60 [.slice a_p0 q_p0 c_p0, p1v] m (seam_upward_Q r) := by
  refine Spec_enter Try.func60 rfl rfl rfl (fun w0 => ?_)
  refine WK.sub (e' := [(0, .slice a_p0 q_p0 c_p0), (1, p1v)]) ⟨rfl, rfl, trivial⟩ ?_
  obtain rfl := SlR.qlen h_p0
  refine WK.sub (e' := [(0, .slice a_p0 p0.length c_p0), (1, p1v)]) ⟨rfl, rfl, trivial⟩ ?_
  unfold seam_upward at hm
  refine WK_seq ?_
  refine WK_region ?_
  refine WO_pure tbok 1 [(0, .slice a_p0 p0.length c_p0), (1, p1v), (4, .slice none 0 0)] rfl ⟨rfl, rfl, rfl, trivial⟩ ?_
  refine WO_end ?_
  refine WK_seq ?_
  refine WK_region ?_
  refine WO_pure tbok 2 [(0, .slice a_p0 p0.length c_p0), (1, p1v), (4, .slice none 0 0), (12, .int .i64 (p0.length : Int))] rfl ⟨rfl, rfl, rfl, rfl, trivial⟩ ?_
  obtain ⟨hc2, hm⟩ := chk_some hm
  refine WO_makeT (E := (I1 .i64)) (k := 1) (T0 := 23) (T1 := 3) tbok rfl rfl trivial rfl rfl rfl rfl rfl rfl rfl rfl rfl rfl (mk_ok (by decide) hc2) (fun b3 c4 L5 hL5 => ?_)
  refine WO.cls (C' := St w0 m m [L5]) (fun _ h => h) ?_
  refine WO_pure tbok 1 [(0, .slice a_p0 p0.length c_p0), (1, p1v), (4, .slice none 0 0), (5, .slice (some ⟨b3, 0, none⟩) ((List.replicate ((p0.length : Int) : Int).toNat ([] : List Int)).length) c4)] rfl ⟨rfl, rfl, rfl, rfl, trivial⟩ ?_
  refine WO_end ?_
  refine WK_seq ?_
  refine WK_seq ?_
  refine WK_region ?_
  refine WO_pure tbok 4 [(0, .slice a_p0 p0.length c_p0), (1, p1v), (4, .slice none 0 0), (5, .slice (some ⟨b3, 0, none⟩) ((List.replicate ((p0.length : Int) : Int).toNat ([] : List Int)).length) c4), (6, .int .i64 (w64 ((p0.length : Int) - 1)))] rfl ⟨rfl, rfl, rfl, rfl, rfl, trivial⟩ ?_
  refine WO_end ?_
  obtain ⟨x13, hx14, hm⟩ := bind_some hm
  refine WK_join (β := (List (List Int)) × (List Value × List Ent)) (fun p => p.1 = x13 ∧ OwnT 23 3 1 (I1 .i64) (.slice (some ⟨b3, 0, none⟩) ((List.replicate ((p0.length : Int) : Int).toNat ([] : List Int)).length) c4) p.2.1 p.1 p.2.2) (fun p => [(4, .slice none 0 0), (5, .slice (some ⟨b3, 0, none⟩) ((List.replicate ((p0.length : Int) : Int).toNat ([] : List Int)).length) c4)]) (fun p => St w0 m m [p.2.2]) ?_ (fun hk15 => ?_)
  · rintro ⟨l_3, ⟨vs12, L11⟩⟩ ⟨hq21, hL11⟩
    subst hq21
    refine WK.sub (e' := [(4, .slice none 0 0), (5, .slice (some ⟨b3, 0, none⟩) ((List.replicate ((p0.length : Int) : Int).toNat ([] : List Int)).length) c4)]) ⟨rfl, rfl, trivial⟩ (WK.cls (C' := St w0 m m [L11]) (fun _ h => h) ?_)
    refine WK_seq ?_
    refine WK_region ?_
    refine WO_pure tbok 2 [(4, .slice (some ⟨b3, 0, none⟩) ((List.replicate ((p0.length : Int) : Int).toNat ([] : List Int)).length) c4)] rfl ⟨rfl, trivial⟩ ?_
    refine WO_end ?_
    cases hm
    refine WK_freeze 0 rfl (fun m22 hle23 hmm24 => ?_)
    refine WK.cls (C' := St w0 m m22 [[]]) (fun _ h => h) ?_
    exact WK_ret (ret_out (L := []) (RLc_tmp rfl RLc_nil) (List.nil_sublist _) ⟨(some ⟨b3, 0, none⟩), ((List.replicate ((p0.length : Int) : Int).toNat ([] : List Int)).length), c4, rfl, (OwnT.rd (E := (I1 .i64)) (k := 1) (fun _ => rfl) hL11 hmm24)⟩)
  · refine WK_block ?_
    refine WK_loop (S := List (List Int) × Int) (G := List Value × List Ent) (fun s => seam_upward_s1 p0 p1 s.1 s.2) (fun s g => [(0, .slice a_p0 p0.length c_p0), (1, p1v), (4, .slice none 0 0), (5, .slice (some ⟨b3, 0, none⟩) ((List.replicate ((p0.length : Int) : Int).toNat ([] : List Int)).length) c4), (6, .int .i64 s.2)]) (fun s g => St w0 m m [g.2]) (fun s g => OwnT 23 3 1 (I1 .i64) (.slice (some ⟨b3, 0, none⟩) ((List.replicate ((p0.length : Int) : Int).toNat ([] : List Int)).length) c4) g.1 s.1 g.2) FUEL ((List.replicate ((p0.length : Int) : Int).toNat ([] : List Int)), w64 ((p0.length : Int) - 1)) ((List.replicate ((p0.length : Int) : Int).toNat (Value.slice none 0 0)), L5) x13 hx14 hL5 ⟨rfl, rfl, rfl, rfl, rfl, trivial⟩ (fun _ h => h) ?_
    rintro ⟨l_1, s_2⟩ ⟨vs9, L8⟩ o17 fl18 hm16 hL8 hn19 hd20
    have hm16 : seam_upward_s1 p0 p1 l_1 s_2 = some o17 := hm16
    unfold seam_upward_s1 at hm16
    refine WK.sub (e' := [(0, .slice a_p0 p0.length c_p0), (1, p1v), (4, .slice none 0 0), (5, .slice (some ⟨b3, 0, none⟩) ((List.replicate ((p0.length : Int) : Int).toNat ([] : List Int)).length) c4), (6, .int .i64 s_2)]) ⟨rfl, rfl, rfl, rfl, rfl, trivial⟩ (WK.cls (C' := St w0 m m [L8]) (fun _ h => h) ?_)
    refine WK_seq ?_
    refine WK_seq ?_
    refine WK_region ?_
    refine WO_pure tbok 2 [(0, .slice a_p0 p0.length c_p0), (1, p1v), (4, .slice none 0 0), (5, .slice (some ⟨b3, 0, none⟩) ((List.replicate ((p0.length : Int) : Int).toNat ([] : List Int)).length) c4), (6, .int .i64 s_2), (18, .bool (decide (0 ≤ s_2)))] rfl ⟨rfl, rfl, rfl, rfl, rfl, rfl, trivial⟩ ?_
    refine WO_end ?_
    refine WK_cond (b := decide (0 ≤ s_2)) rfl (fun hb25 => ?_) (fun hb25 => ?_)
    · have hm16 := ifT hb25 hm16
      refine WK_skip ?_
      refine WK_seq ?_
      refine WK_block ?_
      refine WK_seq ?_
      refine WK_region ?_
      refine WO_pure tbok 2 [(0, .slice a_p0 p0.length c_p0), (1, p1v), (4, .slice none 0 0), (5, .slice (some ⟨b3, 0, none⟩) ((List.replicate ((p0.length : Int) : Int).toNat ([] : List Int)).length) c4), (6, .int .i64 s_2), (21, .slice a_p0 p0.length c_p0), (22, .int .i64 s_2)] rfl ⟨rfl, rfl, rfl, rfl, rfl, rfl, rfl, trivial⟩ ?_
      obtain ⟨v_4, hy26, hm16⟩ := bind_some hm16
      obtain ⟨hc27, hy26⟩ := ix_some hy26
      refine WO_index tbok rfl rfl rfl rfl rfl rfl rfl rfl (SlR.addr h_p0) hc27 ?_
      refine WO_loadR tbok rfl rfl rfl rfl (fun _ h => St.sat h) h_p0 hy26 rfl rfl (fun a28 c29 h30 => ?_)
      refine WO_pure tbok 2 [(0, .slice a_p0 p0.length c_p0), (1, p1v), (4, .slice none 0 0), (5, .slice (some ⟨b3, 0, none⟩) ((List.replicate ((p0.length : Int) : Int).toNat ([] : List Int)).length) c4), (6, .int .i64 s_2), (24, .slice a28 ((v_4).length) c29), (25, .int .i64 ((v_4).length : Int)), (26, .int .i64 0)] rfl ⟨rfl, rfl, rfl, rfl, rfl, rfl, rfl, rfl, trivial⟩ ?_
      refine WO_end ?_
      obtain ⟨x38, hx39, hm16⟩ := bind_some hm16
      refine WK_join (β := (List (List Int)) × (List Value × List Ent)) (fun p => p.1 = x38 ∧ OwnT 23 3 1 (I1 .i64) (.slice (some ⟨b3, 0, none⟩) ((List.replicate ((p0.length : Int) : Int).toNat ([] : List Int)).length) c4) p.2.1 p.1 p.2.2) (fun p => [(0, .slice a_p0 p0.length c_p0), (1, p1v), (4, .slice none 0 0), (5, .slice (some ⟨b3, 0, none⟩) ((List.replicate ((p0.length : Int) : Int).toNat ([] : List Int)).length) c4), (6, .int .i64 s_2)]) (fun p => St w0 m m [p.2.2]) ?_ (fun hk40 => ?_)
      · rintro ⟨l_7, ⟨vs37, L36⟩⟩ ⟨hq46, hL36⟩
        subst hq46
        refine WK.sub (e' := [(0, .slice a_p0 p0.length c_p0), (1, p1v), (4, .slice none 0 0), (5, .slice (some ⟨b3, 0, none⟩) ((List.replicate ((p0.length : Int) : Int).toNat ([] : List Int)).length) c4), (6, .int .i64 s_2)]) ⟨rfl, rfl, rfl, rfl, rfl, trivial⟩ (WK.cls (C' := St w0 m m [L36]) (fun _ h => h) ?_)
        refine WK_blk ?_
        refine WK_region ?_
        refine WO_pure tbok 3 [(0, .slice a_p0 p0.length c_p0), (1, p1v), (4, .slice none 0 0), (5, .slice (some ⟨b3, 0, none⟩) ((List.replicate ((p0.length : Int) : Int).toNat ([] : List Int)).length) c4), (6, .int .i64 (w64 (s_2 - 1)))] rfl ⟨rfl, rfl, rfl, rfl, rfl, trivial⟩ ?_
        refine WO_end ?_
        cases hm16
        refine WK.sub ?_ (WK.cls (fun _ h => h) (hn19 _ (vs37, L36) rfl hL36))
        exact ⟨rfl, rfl, rfl, rfl, rfl, trivial⟩
      · refine WK_block ?_
        refine WK_loop (S := List (List Int) × Int) (G := List Value × List Ent) (fun s => seam_upward_s2 p0 p1 s_2 v_4 s.1 s.2) (fun s g => [(0, .slice a_p0 p0.length c_p0), (1, p1v), (4, .slice none 0 0), (5, .slice (some ⟨b3, 0, none⟩) ((List.replicate ((p0.length : Int) : Int).toNat ([] : List Int)).length) c4), (6, .int .i64 s_2), (24, .slice a28 ((v_4).length) c29), (25, .int .i64 ((v_4).length : Int)), (26, .int .i64 s.2)]) (fun s g => St w0 m m [g.2]) (fun s g => OwnT 23 3 1 (I1 .i64) (.slice (some ⟨b3, 0, none⟩) ((List.replicate ((p0.length : Int) : Int).toNat ([] : List Int)).length) c4) g.1 s.1 g.2) FUEL (l_1, 0) (vs9, L8) x38 hx39 hL8 ⟨rfl, rfl, rfl, rfl, rfl, rfl, rfl, rfl, trivial⟩ (fun _ h => h) ?_
        rintro ⟨l_5, s_6⟩ ⟨vs34, L33⟩ o42 fl43 hm41 hL33 hn44 hd45
        have hm41 : seam_upward_s2 p0 p1 s_2 v_4 l_5 s_6 = some o42 := hm41
        unfold seam_upward_s2 at hm41
        refine WK.sub (e' := [(0, .slice a_p0 p0.length c_p0), (1, p1v), (4, .slice none 0 0), (5, .slice (some ⟨b3, 0, none⟩) ((List.replicate ((p0.length : Int) : Int).toNat ([] : List Int)).length) c4), (6, .int .i64 s_2), (24, .slice a28 ((v_4).length) c29), (25, .int .i64 ((v_4).length : Int)), (26, .int .i64 s_6)]) ⟨rfl, rfl, rfl, rfl, rfl, rfl, rfl, rfl, trivial⟩ (WK.cls (C' := St w0 m m [L33]) (fun _ h => h) ?_)
        refine WK_seq ?_
        refine WK_region ?_
        refine WO_pure tbok 1 [(0, .slice a_p0 p0.length c_p0), (1, p1v), (4, .slice none 0 0), (5, .slice (some ⟨b3, 0, none⟩) ((List.replicate ((p0.length : Int) : Int).toNat ([] : List Int)).length) c4), (6, .int .i64 s_2), (24, .slice a28 ((v_4).length) c29), (25, .int .i64 ((v_4).length : Int)), (26, .int .i64 s_6), (27, .bool (decide (s_6 < ((v_4).length : Int))))] rfl ⟨rfl, rfl, rfl, rfl, rfl, rfl, rfl, rfl, rfl, trivial⟩ ?_
        refine WO_end ?_
        refine WK_seq ?_
        refine WK_cond (b := decide (s_6 < ((v_4).length : Int))) rfl (fun hb47 => ?_) (fun hb47 => ?_)
        · have hm41 := ifT hb47 hm41
          refine WK_skip ?_
          refine WK_seq ?_
          refine WK_block ?_
          refine WK_seq ?_
          refine WK_region ?_
          refine WO_pure tbok 1 [(0, .slice a_p0 p0.length c_p0), (1, p1v), (4, .slice none 0 0), (5, .slice (some ⟨b3, 0, none⟩) ((List.replicate ((p0.length : Int) : Int).toNat ([] : List Int)).length) c4), (6, .int .i64 s_2), (24, .slice a28 ((v_4).length) c29), (25, .int .i64 ((v_4).length : Int)), (26, .int .i64 s_6), (28, .int .i64 s_6)] rfl ⟨rfl, rfl, rfl, rfl, rfl, rfl, rfl, rfl, rfl, trivial⟩ ?_
          obtain ⟨v_8, hy48, hm41⟩ := bind_some hm41
          obtain ⟨hc49, hy48⟩ := ix_some hy48
          refine WO_index tbok rfl rfl rfl rfl rfl rfl rfl rfl (SlR.addr h30) hc49 ?_
          refine WO_loadE tbok rfl rfl rfl rfl (fun _ h => St.sat h) h30 hy48 rfl ?_
          refine WO_pure tbok 2 [(0, .slice a_p0 p0.length c_p0), (1, p1v), (4, .slice none 0 0), (5, .slice (some ⟨b3, 0, none⟩) ((List.replicate ((p0.length : Int) : Int).toNat ([] : List Int)).length) c4), (6, .int .i64 s_2), (7, .int .i64 s_6), (8, .int .i64 v_8), (24, .slice a28 ((v_4).length) c29), (25, .int .i64 ((v_4).length : Int)), (26, .int .i64 s_6)] rfl ⟨rfl, rfl, rfl, rfl, rfl, rfl, rfl, rfl, rfl, rfl, trivial⟩ ?_
          refine WO_end ?_
          refine WK_seq ?_
          refine WK_seq ?_
          refine WK_region ?_
          refine WO_pure tbok 3 [(0, .slice a_p0 p0.length c_p0), (1, p1v), (4, .slice none 0 0), (5, .slice (some ⟨b3, 0, none⟩) ((List.replicate ((p0.length : Int) : Int).toNat ([] : List Int)).length) c4), (6, .int .i64 s_2), (7, .int .i64 s_6), (8, .int .i64 v_8), (24, .slice a28 ((v_4).length) c29), (25, .int .i64 ((v_4).length : Int)), (26, .int .i64 s_6), (31, p1v), (32, .int .i64 s_2), (33, .int .i64 s_6)] rfl ⟨rfl, rfl, rfl, rfl, rfl, rfl, rfl, rfl, rfl, rfl, rfl, rfl, rfl, trivial⟩ ?_
          obtain ⟨y_9, hc50, hm41⟩ := bind_some hm41
          obtain ⟨f0, first0, cap0, hf0, hcal0, hsp0⟩ := hp1 _ (Le.refl _) s_2 s_6 _ hc50
          refine WO_call0 (.bool y_9) rfl rfl trivial rfl rfl rfl rfl St_closed ⟨f0, first0, cap0, hf0, hcal0, fun w hw => ⟨m, hw.sat, hsp0⟩⟩ ?_
          refine WO_pure tbok 1 [(0, .slice a_p0 p0.length c_p0), (1, p1v), (4, .slice none 0 0), (5, .slice (some ⟨b3, 0, none⟩) ((List.replicate ((p0.length : Int) : Int).toNat ([] : List Int)).length) c4), (6, .int .i64 s_2), (7, .int .i64 s_6), (8, .int .i64 v_8), (24, .slice a28 ((v_4).length) c29), (25, .int .i64 ((v_4).length : Int)), (26, .int .i64 s_6), (35, .bool (!y_9))] rfl ⟨rfl, rfl, rfl, rfl, rfl, rfl, rfl, rfl, rfl, rfl, rfl, trivial⟩ ?_
          refine WO_end ?_
          obtain ⟨s_10, hx51, hm41⟩ := bind_some hm41
          refine WK_meet [(0, .slice a_p0 p0.length c_p0), (1, p1v), (4, .slice none 0 0), (5, .slice (some ⟨b3, 0, none⟩) ((List.replicate ((p0.length : Int) : Int).toNat ([] : List Int)).length) c4), (6, .int .i64 s_2), (7, .int .i64 s_6), (8, .int .i64 s_10), (24, .slice a28 ((v_4).length) c29), (25, .int .i64 ((v_4).length : Int)), (26, .int .i64 s_6)] (St w0 m m [L33]) ?_ (fun hk52 => ?_)
          · refine WK_seq ?_
            refine WK_seq ?_
            refine WK_region ?_
            refine WO_pure tbok 5 [(0, .slice a_p0 p0.length c_p0), (1, p1v), (4, .slice none 0 0), (5, .slice (some ⟨b3, 0, none⟩) ((List.replicate ((p0.length : Int) : Int).toNat ([] : List Int)).length) c4), (6, .int .i64 s_2), (7, .int .i64 s_6), (8, .int .i64 s_10), (24, .slice a28 ((v_4).length) c29), (25, .int .i64 ((v_4).length : Int)), (26, .int .i64 s_6), (40, .bool (decide ((w64 (s_2 + 1)) < (p0.length : Int))))] rfl ⟨rfl, rfl, rfl, rfl, rfl, rfl, rfl, rfl, rfl, rfl, rfl, trivial⟩ ?_
            refine WO_end ?_
            obtain ⟨s_11, hx53, hm41⟩ := bind_some hm41
            refine WK_meet [(0, .slice a_p0 p0.length c_p0), (1, p1v), (4, .slice none 0 0), (5, .slice (some ⟨b3, 0, none⟩) ((List.replicate ((p0.length : Int) : Int).toNat ([] : List Int)).length) c4), (6, .int .i64 s_2), (8, .int .i64 s_11), (24, .slice a28 ((v_4).length) c29), (25, .int .i64 ((v_4).length : Int)), (26, .int .i64 s_6)] (St w0 m m [L33]) ?_ (fun hk54 => ?_)
            · refine WK_region ?_
              refine WO_pure tbok 4 [(0, .slice a_p0 p0.length c_p0), (1, p1v), (4, .slice none 0 0), (5, .slice (some ⟨b3, 0, none⟩) ((List.replicate ((p0.length : Int) : Int).toNat ([] : List Int)).length) c4), (6, .int .i64 s_2), (8, .int .i64 s_11), (24, .slice a28 ((v_4).length) c29), (25, .int .i64 ((v_4).length : Int)), (26, .int .i64 s_6), (61, .slice (some ⟨b3, 0, none⟩) ((List.replicate ((p0.length : Int) : Int).toNat ([] : List Int)).length) c4), (62, .int .i64 s_2), (63, .slice (some ⟨b3, 0, none⟩) ((List.replicate ((p0.length : Int) : Int).toNat ([] : List Int)).length) c4), (64, .int .i64 s_2)] rfl ⟨rfl, rfl, rfl, rfl, rfl, rfl, rfl, rfl, rfl, rfl, rfl, rfl, rfl, trivial⟩ ?_
              obtain ⟨v_12, hy55, hm41⟩ := bind_some hm41
              obtain ⟨hc56, hy55⟩ := ix_some hy55
              refine WO_index tbok rfl rfl rfl rfl rfl rfl rfl rfl (OwnT.addr hL33) (by simpa using hc56) ?_
              refine WO_loadT tbok 0 rfl rfl rfl rfl (fun _ h => h) hL33 rfl hy55 rfl rfl (fun a57 c58 L59 hv60 hr61 => ?_)
              refine WO_pure tbok 1 [(0, .slice a_p0 p0.length c_p0), (1, p1v), (4, .slice none 0 0), (5, .slice (some ⟨b3, 0, none⟩) ((List.replicate ((p0.length : Int) : Int).toNat ([] : List Int)).length) c4), (6, .int .i64 s_2), (24, .slice a28 ((v_4).length) c29), (25, .int .i64 ((v_4).length : Int)), (26, .int .i64 s_6), (61, .slice (some ⟨b3, 0, none⟩) ((List.replicate ((p0.length : Int) : Int).toNat ([] : List Int)).length) c4), (62, .int .i64 s_2), (66, .slice a57 v_12.length c58), (67, .int .i64 s_11)] rfl ⟨rfl, rfl, rfl, rfl, rfl, rfl, rfl, rfl, rfl, rfl, rfl, rfl, trivial⟩ ?_
              refine WO_bslice (E := (I1 .i64)) tbok (fun _ => rfl) (by decide) [.int .i64 s_11] ([s_11] : List Int) rfl rfl trivial rfl rfl rfl rfl rfl rfl rfl rfl rfl rfl rfl rfl (fun b63 hb63 => ?_)
              refine WO.cls (C' := St w0 m m [L33, [⟨b63, 3, ([s_11] : List Int).flatMap (I1 .i64)⟩]]) (fun _ h => h) ?_
              refine WO_takeT (E := (I1 .i64)) (k := 1) 0 hL33 rfl hv60 hy55 (fun L65 L66 hL65 hL66 => ?_)
              refine WO.cls (C' := St w0 m m [L65, [⟨b63, 3, ([s_11] : List Int).flatMap (I1 .i64)⟩], L66]) (fun _ h => h) ?_
              obtain ⟨hc69, hm41⟩ := chk_some hm41
              refine WO_append (E := (I1 .i64)) tbok (fun _ => rfl) 2 ([s_11] : List Int) (fun _ _ => rfl) rfl rfl rfl rfl rfl rfl rfl rfl rfl rfl rfl rfl hL66 rfl (src_seg (j := 1) rfl) (ap_ok (by decide) hc69) (ap_max hc69) (fun a70 c71 L72 hL72 => ?_)
              refine WO.cls (C' := St w0 m m [L65, [⟨b63, 3, ([s_11] : List Int).flatMap (I1 .i64)⟩], L72]) (fun _ h => h) ?_
              obtain ⟨hc74, hm41⟩ := chk_some hm41
              refine WO_index tbok rfl rfl rfl rfl rfl rfl rfl rfl (OwnH.addr hL65) (by simpa using hc74) ?_
              refine WO_storeTH tbok 0 2 rfl rfl rfl rfl rfl hL65 rfl hL72 rfl rfl (by simpa using idx_lt hc74) rfl rfl rfl rfl (fun L75 hL75 => ?_)
              refine WO.cls (C' := St w0 m m [L75, [⟨b63, 3, ([s_11] : List Int).flatMap (I1 .i64)⟩], []]) (fun _ h => h) ?_
              refine WO_end ?_
              refine WK_blk ?_
              refine WK_region ?_
              refine WO_pure tbok 2 [(0, .slice a_p0 p0.length c_p0), (1, p1v), (4, .slice none 0 0), (5, .slice (some ⟨b3, 0, none⟩) ((List.replicate ((p0.length : Int) : Int).toNat ([] : List Int)).length) c4), (6, .int .i64 s_2), (24, .slice a28 ((v_4).length) c29), (25, .int .i64 ((v_4).length : Int)), (26, .int .i64 (w64 (s_6 + 1)))] rfl ⟨rfl, rfl, rfl, rfl, rfl, rfl, rfl, rfl, trivial⟩ ?_
              refine WO_end ?_
              cases hm41
              refine WK.sub ?_ (WK.cls (fun _ h => St.take 1 h) (hn44 _ ((vs34.set s_2.toNat (.slice a70 ((v_12 ++ ([s_11] : List Int)).length) c71)), L75) rfl hL75))
              exact ⟨rfl, rfl, rfl, rfl, rfl, rfl, rfl, rfl, trivial⟩
            · refine WK_cond (b := decide ((w64 (s_2 + 1)) < (p0.length : Int))) rfl (fun hb77 => ?_) (fun hb77 => ?_)
              · have hx53 := ifT hb77 hx53
                refine WK_seq ?_
                refine WK_region ?_
                refine WO_pure tbok 3 [(0, .slice a_p0 p0.length c_p0), (1, p1v), (4, .slice none 0 0), (5, .slice (some ⟨b3, 0, none⟩) ((List.replicate ((p0.length : Int) : Int).toNat ([] : List Int)).length) c4), (6, .int .i64 s_2), (8, .int .i64 s_10), (24, .slice a28 ((v_4).length) c29), (25, .int .i64 ((v_4).length : Int)), (26, .int .i64 s_6), (42, .int .i64 s_6), (43, .slice a_p0 p0.length c_p0), (44, .int .i64 s_2)] rfl ⟨rfl, rfl, rfl, rfl, rfl, rfl, rfl, rfl, rfl, rfl, rfl, rfl, trivial⟩ ?_
                obtain ⟨v_13, hy78, hx53⟩ := bind_some hx53
                obtain ⟨hc79, hy78⟩ := ix_some hy78
                refine WO_index tbok rfl rfl rfl rfl rfl rfl rfl rfl (SlR.addr h_p0) hc79 ?_
                refine WO_loadR tbok rfl rfl rfl rfl (fun _ h => St.sat h) h_p0 hy78 rfl rfl (fun a80 c81 h82 => ?_)
                refine WO_pure tbok 1 [(0, .slice a_p0 p0.length c_p0), (1, p1v), (4, .slice none 0 0), (5, .slice (some ⟨b3, 0, none⟩) ((List.replicate ((p0.length : Int) : Int).toNat ([] : List Int)).length) c4), (6, .int .i64 s_2), (8, .int .i64 s_10), (24, .slice a28 ((v_4).length) c29), (25, .int .i64 ((v_4).length : Int)), (26, .int .i64 s_6), (42, .int .i64 s_6), (47, .int .i64 ((v_13).length : Int))] rfl ⟨rfl, rfl, rfl, rfl, rfl, rfl, rfl, rfl, rfl, rfl, rfl, trivial⟩ ?_
                obtain ⟨⟨y_14, y_15⟩, hc84, hx53⟩ := bind_some hx53
                refine WO_call0 (.tuple #[.int .i64 y_14, .int .i64 y_15]) rfl rfl trivial rfl rfl rfl rfl St_closed ⟨57, #[], #[], rfl, callable_57, fun w hw => ⟨_, hw.sat, seam_near_walk hc84⟩⟩ ?_
                refine WO_pure tbok 5 [(0, .slice a_p0 p0.length c_p0), (1, p1v), (4, .slice none 0 0), (5, .slice (some ⟨b3, 0, none⟩) ((List.replicate ((p0.length : Int) : Int).toNat ([] : List Int)).length) c4), (6, .int .i64 s_2), (8, .int .i64 s_10), (9, .int .i64 y_14), (10, .int .i64 y_15), (24, .slice a28 ((v_4).length) c29), (25, .int .i64 ((v_4).length : Int)), (26, .int .i64 s_6)] rfl ⟨rfl, rfl, rfl, rfl, rfl, rfl, rfl, rfl, rfl, rfl, rfl, trivial⟩ ?_
                refine WO_end ?_
                refine WK_region ?_
                refine WO_pure tbok 4 [(0, .slice a_p0 p0.length c_p0), (1, p1v), (4, .slice none 0 0), (5, .slice (some ⟨b3, 0, none⟩) ((List.replicate ((p0.length : Int) : Int).toNat ([] : List Int)).length) c4), (6, .int .i64 s_2), (8, .int .i64 s_10), (9, .int .i64 y_14), (10, .int .i64 y_15), (24, .slice a28 ((v_4).length) c29), (25, .int .i64 ((v_4).length : Int)), (26, .int .i64 s_6), (51, .int .i64 s_10), (52, .slice (some ⟨b3, 0, none⟩) ((List.replicate ((p0.length : Int) : Int).toNat ([] : List Int)).length) c4), (54, .int .i64 (w64 (s_2 + 1)))] rfl ⟨rfl, rfl, rfl, rfl, rfl, rfl, rfl, rfl, rfl, rfl, rfl, rfl, rfl, rfl, trivial⟩ ?_
                obtain ⟨v_16, hy85, hx53⟩ := bind_some hx53
                obtain ⟨hc86, hy85⟩ := ix_some hy85
                refine WO_index tbok rfl rfl rfl rfl rfl rfl rfl rfl (OwnT.addr hL33) (by simpa using hc86) ?_
                refine WO_loadT tbok 0 rfl rfl rfl rfl (fun _ h => h) hL33 rfl hy85 rfl rfl (fun a87 c88 L89 hv90 hr91 => ?_)
                refine WO_pure tbok 2 [(0, .slice a_p0 p0.length c_p0), (1, p1v), (4, .slice none 0 0), (5, .slice (some ⟨b3, 0, none⟩) ((List.replicate ((p0.length : Int) : Int).toNat ([] : List Int)).length) c4), (6, .int .i64 s_2), (8, .int .i64 s_10), (24, .slice a28 ((v_4).length) c29), (25, .int .i64 ((v_4).length : Int)), (26, .int .i64 s_6), (51, .int .i64 s_10), (56, .slice a87 v_16.length c88), (57, .int .i64 y_14), (58, .int .i64 y_15)] rfl ⟨rfl, rfl, rfl, rfl, rfl, rfl, rfl, rfl, rfl, rfl, rfl, rfl, rfl, trivial⟩ ?_
                obtain ⟨y_17, hc93, hx53⟩ := bind_some hx53
                refine WO_call0 (.int .i64 y_17) rfl rfl trivial rfl rfl rfl rfl St_closed ⟨59, #[], #[], rfl, callable_59, fun w hw => ⟨_, hw.satV, seam_least_walk (OwnT.rowrd (E := (I1 .i64)) (fun _ => rfl) hL33 hv90 hy85 (fun _ hx => hw.memV (i := 0) rfl hx)) hc93⟩⟩ ?_
                refine WO_pure tbok 2 [(0, .slice a_p0 p0.length c_p0), (1, p1v), (4, .slice none 0 0), (5, .slice (some ⟨b3, 0, none⟩) ((List.replicate ((p0.length : Int) : Int).toNat ([] : List Int)).length) c4), (6, .int .i64 s_2), (8, .int .i64 (w64 (s_10 + y_17))), (24, .slice a28 ((v_4).length) c29), (25, .int .i64 ((v_4).length : Int)), (26, .int .i64 s_6)] rfl ⟨rfl, rfl, rfl, rfl, rfl, rfl, rfl, rfl, rfl, trivial⟩ ?_
                refine WO_end ?_
                cases hx53
                refine WK.sub ?_ (WK.cls (fun _ h => h) hk54)
                exact ⟨rfl, rfl, rfl, rfl, rfl, rfl, rfl, rfl, rfl, trivial⟩
              · have hx53 := ifF hb77 hx53
                refine WK_skip ?_
                cases hx53
                refine WK.sub ?_ (WK.cls (fun _ h => h) hk54)
                exact ⟨rfl, rfl, rfl, rfl, rfl, rfl, rfl, rfl, rfl, trivial⟩
          · refine WK_cond (b := !y_9) rfl (fun hb94 => ?_) (fun hb94 => ?_)
            · have hx51 := ifT hb94 hx51
              refine WK_region ?_
              refine WO_pure tbok 1 [(0, .slice a_p0 p0.length c_p0), (1, p1v), (4, .slice none 0 0), (5, .slice (some ⟨b3, 0, none⟩) ((List.replicate ((p0.length : Int) : Int).toNat ([] : List Int)).length) c4), (6, .int .i64 s_2), (7, .int .i64 s_6), (8, .int .i64 1099511627776), (24, .slice a28 ((v_4).length) c29), (25, .int .i64 ((v_4).length : Int)), (26, .int .i64 s_6)] rfl ⟨rfl, rfl, rfl, rfl, rfl, rfl, rfl, rfl, rfl, rfl, trivial⟩ ?_
              refine WO_end ?_
              cases hx51
              refine WK.sub ?_ (WK.cls (fun _ h => h) hk52)
              exact ⟨rfl, rfl, rfl, rfl, rfl, rfl, rfl, rfl, rfl, rfl, trivial⟩
            · have hx51 := ifF hb94 hx51
              refine WK_skip ?_
              cases hx51
              refine WK.sub ?_ (WK.cls (fun _ h => h) hk52)
              exact ⟨rfl, rfl, rfl, rfl, rfl, rfl, rfl, rfl, rfl, rfl, trivial⟩
        · have hm41 := ifF hb47 hm41
          refine WK_exit rfl ?_
          cases hm41
          refine WK.sub ?_ (WK.cls (fun _ h => h) (hk40 (l_5, (vs34, L33)) ⟨(hd45 _ rfl), hL33⟩))
          exact ⟨rfl, rfl, rfl, rfl, rfl, trivial⟩
    · have hm16 := ifF hb25 hm16
      refine WK_exit rfl ?_
      cases hm16
      refine WK.sub ?_ (WK.cls (fun _ h => h) (hk15 (l_1, (vs9, L8)) ⟨(hd20 _ rfl), hL8⟩))
      exact ⟨rfl, rfl, trivial⟩
def seam_first_Q (r : List Int × Int) : Value → List Ent → Prop := fun v L => ∃ (a0 : Option Addr) (q0 c0 : Nat), v = .tuple #[.slice a0 q0 c0, .int .i64 r.2] ∧ OwnE 3 1 (I1 .i64) (.slice a0 q0 c0) r.1 L
theorem seam_first_walk {m : Mu} {p0 : List (List Int)} {p1 : Int → Int → Option Bool} {a_p0 : Option Addr} {q_p0 c_p0 : Nat} {p1v : Value} (h_p0 : SlR (RowE (FE (I1 .i64)) 1) 1 m (.slice a_p0 q_p0 c_p0) p0) (hp1 : ∀ (m1 : Mu), Le m m1 → ∀ (u1 : Int), ∀ (u2 : Int), ∀ (r : Bool), p1 u1 u2 = some r → SpecV Try.prog p1v [.int .i64 u1, .int .i64 u2] m1 (fun v _ _ => v = .bool r)) {r : List Int × Int} (hm : seam_first p0 p1 = some r) :
    Go.E.Spec Try.prog 44 [.slice a_p0 q_p0 c_p0, p1v] m (fun v _ L => seam_first_Q r v L) := by
  refine Spec_enter Try.func44 rfl rfl rfl (fun w0 => ?_)
  refine WK.sub (e' := [(0, .slice a_p0 q_p0 c_p0), (1, p1v)]) ⟨rfl, rfl, trivial⟩ ?_
  obtain rfl := SlR.qlen h_p0
  refine WK.sub (e' := [(0, .slice a_p0 p0.length c_p0), (1, p1v)]) ⟨rfl, rfl, trivial⟩ ?_
  unfold seam_first at hm
  refine WK_seq ?_
  refine WK_region ?_
  refine WO_pure tbok 2 [(0, .slice a_p0 p0.length c_p0), (1, p1v), (4, .slice none 0 0), (5, .int .i64 0)] rfl ⟨rfl, rfl, rfl, rfl, trivial⟩ ?_
  refine WO_end ?_
  refine WK_seq ?_
  refine WK_region ?_
  refine WO_pure tbok 2 [(0, .slice a_p0 p0.length c_p0), (4, .slice none 0 0), (5, .int .i64 0), (14, .slice a_p0 p0.length c_p0), (15, p1v)] rfl ⟨rfl, rfl, rfl, rfl, rfl, trivial⟩ ?_
  obtain ⟨y_1, hc2, hm⟩ := bind_some hm
  refine WO_call2 (seam_upward_Q y_1) rfl rfl trivial rfl rfl rfl rfl ⟨60, #[], #[], rfl, callable_60, seam_upward_walk h_p0 hp1 hc2⟩ (fun v7 m8 L6 hle9 hq => ?_)
  obtain ⟨a3, qa3, c4, rfl, h10⟩ := hq
  obtain rfl := SlR.qlen h10
  refine WO.cls (C' := St w0 m m8 [L6]) (fun _ h => h.sub (by simp)) ?_
  refine WO_pure tbok 1 [(0, .slice a_p0 p0.length c_p0), (4, .slice none 0 0), (5, .int .i64 0), (6, .slice a3 ((y_1).length) c4)] rfl ⟨rfl, rfl, rfl, rfl, trivial⟩ ?_
  refine WO_end ?_
  refine WK_seq ?_
  refine WK_draw 7 [0, 1, 2, 3, 4, 5, 6] follows_ok (by kernel_rfl) St_closed ?_
  refine WO_pure tbok 1 [(4, .slice none 0 0), (5, .int .i64 0), (6, .slice a3 ((y_1).length) c4), (17, .slice a_p0 p0.length c_p0)] rfl ⟨rfl, rfl, rfl, rfl, trivial⟩ ?_
  obtain ⟨v_2, hy11, hm⟩ := bind_some hm
  obtain ⟨hc12, hy11⟩ := ix_some hy11
  refine WO_index tbok rfl rfl rfl rfl rfl rfl rfl rfl (SlR.addr (h_p0.mono (mono_RowE (mono_FE _) _) hle9)) hc12 ?_
  refine WO_loadR tbok rfl rfl rfl rfl (fun _ h => St.sat h) (h_p0.mono (mono_RowE (mono_FE _) _) hle9) hy11 rfl rfl (fun a13 c14 h15 => ?_)
  refine WO_pure tbok 4 [(4, .slice none 0 0), (5, .int .i64 0), (6, .slice a3 ((y_1).length) c4), (7, .int .i64 0), (8, .int .i64 (w64 (((v_2).length : Int) - 1)))] rfl ⟨rfl, rfl, rfl, rfl, rfl, trivial⟩ ?_
  refine WO_tail ?_
  refine WO_end ?_
  refine WK_seq ?_
  refine WK_region ?_
  refine WO_pure tbok 1 [(4, .slice none 0 0), (5, .int .i64 0), (6, .slice a3 ((y_1).length) c4), (7, .int .i64 0), (8, .int .i64 (w64 (((v_2).length : Int) - 1))), (9, .slice none 0 0)] rfl ⟨rfl, rfl, rfl, rfl, rfl, rfl, trivial⟩ ?_
  refine WO_end ?_
  refine WK_seq ?_
  refine WK_seq ?_
  refine WK_region ?_
  refine WO_pure tbok 3 [(4, .slice none 0 0), (5, .int .i64 0), (6, .slice a3 ((y_1).length) c4), (7, .int .i64 0), (8, .int .i64 (w64 (((v_2).length : Int) - 1))), (9, .slice none 0 0), (22, .slice a3 ((y_1).length) c4), (23, .int .i64 ((y_1).length : Int)), (24, .int .i64 0)] rfl ⟨rfl, rfl, rfl, rfl, rfl, rfl, rfl, rfl, rfl, trivial⟩ ?_
  refine WO_end ?_
  refine WK_pad ?_
  obtain ⟨x28, hx29, hm⟩ := bind_some hm
  refine WK_join (β := (List Int) × (Option Addr × Nat × Nat × List Ent)) (fun p => p.1 = x28 ∧ OwnE 3 1 (I1 .i64) (.slice p.2.1 p.2.2.1 p.2.2.2.1) p.1 p.2.2.2.2) (fun p => [(4, .slice none 0 0), (5, .int .i64 0), (6, .slice a3 ((y_1).length) c4), (9, .slice p.2.1 p.2.2.1 p.2.2.2.1)]) (fun p => St w0 m m8 [L6, p.2.2.2.2]) ?_ (fun hk30 => ?_)
  · rintro ⟨l_7, ⟨a25, q26, c27, L24⟩⟩ ⟨hq36, hL24⟩
    subst hq36
    have hqq : q26 = l_7.length := OwnE.qlen hL24
    subst hqq
    refine WK.sub (e' := [(4, .slice none 0 0), (5, .int .i64 0), (6, .slice a3 ((y_1).length) c4), (9, .slice a25 ((l_7).length) c27)]) ⟨rfl, rfl, rfl, rfl, trivial⟩ (WK.cls (C' := St w0 m m8 [L6, L24]) (fun _ h => h) ?_)
    refine WK_seq ?_
    refine WK_draw 11 [0, 1, 2, 3, 4, 5, 6, 7, 8, 9, 10] follows_ok (by kernel_rfl) St_closed ?_
    refine WO_pure tbok 2 [(4, .slice none 0 0), (5, .int .i64 0), (9, .slice a25 ((l_7).length) c27), (57, .slice a25 ((l_7).length) c27), (58, .slice a3 ((y_1).length) c4)] rfl ⟨rfl, rfl, rfl, rfl, rfl, trivial⟩ ?_
    obtain ⟨v_8, hy37, hm⟩ := bind_some hm
    obtain ⟨hc38, hy37⟩ := ix_some hy37
    refine WO_index tbok rfl rfl rfl rfl rfl rfl rfl rfl (SlR.addr h10) hc38 ?_
    refine WO_loadR tbok rfl rfl rfl rfl (fun _ h => St.sat h) h10 hy37 rfl rfl (fun a39 c40 h41 => ?_)
    refine WO_pure tbok 1 [(4, .slice none 0 0), (5, .int .i64 0), (57, .slice a25 ((l_7).length) c27), (60, .slice a39 ((v_8).length) c40), (61, .slice a25 ((l_7).length) c27)] rfl ⟨rfl, rfl, rfl, rfl, rfl, trivial⟩ ?_
    obtain ⟨v_9, hy43, hm⟩ := bind_some hm
    obtain ⟨hc44, hy43⟩ := ix_some hy43
    refine WO_index tbok rfl rfl rfl rfl rfl rfl rfl rfl (OwnE.addr hL24) (by simpa using hc44) ?_
    refine WO_loadO (E := (I1 .i64)) tbok (fun _ => rfl) 1 rfl rfl rfl rfl (fun _ h => h) hL24 rfl hy43 rfl ?_
    obtain ⟨v_10, hy45, hm⟩ := bind_some hm
    obtain ⟨hc46, hy45⟩ := ix_some hy45
    refine WO_index tbok rfl rfl rfl rfl rfl rfl rfl rfl (SlR.addr h41) hc46 ?_
    refine WO_loadE tbok rfl rfl rfl rfl (fun _ h => St.sat h) h41 hy45 rfl ?_
    refine WO_pure tbok 2 [(4, .slice a25 ((l_7).length) c27), (5, .int .i64 v_10)] rfl ⟨rfl, rfl, trivial⟩ ?_
    refine WO_tail ?_
    refine WO_end ?_
    cases hm
    exact WK_ret (ret_out (L := L24) (RLc_tmp rfl (RLc_tmp rfl RLc_nil)) (seg_sub 1 rfl) ⟨a25, _, c27, rfl, hL24⟩)
  · refine WK_block ?_
    refine WK_loop (S := List Int × Int × Int × Int) (G := Option Addr × Nat × Nat × List Ent) (fun s => seam_first_s1 y_1 s.1 s.2.1 s.2.2.1 s.2.2.2) (fun s g => [(4, .slice none 0 0), (5, .int .i64 0), (6, .slice a3 ((y_1).length) c4), (7, .int .i64 s.2.1), (8, .int .i64 s.2.2.1), (9, .slice g.1 g.2.1 g.2.2.1), (22, .slice a3 ((y_1).length) c4), (23, .int .i64 ((y_1).length : Int)), (24, .int .i64 s.2.2.2)]) (fun s g => St w0 m m8 [L6, g.2.2.2]) (fun s g => OwnE 3 1 (I1 .i64) (.slice g.1 g.2.1 g.2.2.1) s.1 g.2.2.2) FUEL (([] : List Int), 0, w64 (((v_2).length : Int) - 1), 0) (none, 0, 0, []) x28 hx29 (OwnE.nil (T := 3) (k := 1) (E := (I1 .i64)) none) ⟨rfl, rfl, rfl, rfl, rfl, rfl, rfl, rfl, rfl, trivial⟩ (fun _ h => h) ?_
    rintro ⟨l_3, s_4, s_5, s_6⟩ ⟨a20, q21, c22, L19⟩ o32 fl33 hm31 hL19 hn34 hd35
    have hm31 : seam_first_s1 y_1 l_3 s_4 s_5 s_6 = some o32 := hm31
    unfold seam_first_s1 at hm31
    have hqq : q21 = l_3.length := OwnE.qlen hL19
    subst hqq
    refine WK.sub (e' := [(4, .slice none 0 0), (5, .int .i64 0), (6, .slice a3 ((y_1).length) c4), (7, .int .i64 s_4), (8, .int .i64 s_5), (9, .slice a20 ((l_3).length) c22), (22, .slice a3 ((y_1).length) c4), (23, .int .i64 ((y_1).length : Int)), (24, .int .i64 s_6)]) ⟨rfl, rfl, rfl, rfl, rfl, rfl, rfl, rfl, rfl, trivial⟩ (WK.cls (C' := St w0 m m8 [L6, L19]) (fun _ h => h) ?_)
    refine WK_seq ?_
    refine WK_region ?_
    refine WO_pure tbok 1 [(4, .slice none 0 0), (5, .int .i64 0), (6, .slice a3 ((y_1).length) c4), (7, .int .i64 s_4), (8, .int .i64 s_5), (9, .slice a20 ((l_3).length) c22), (22, .slice a3 ((y_1).length) c4), (23, .int .i64 ((y_1).length : Int)), (24, .int .i64 s_6), (25, .bool (decide (s_6 < ((y_1).length : Int))))] rfl ⟨rfl, rfl, rfl, rfl, rfl, rfl, rfl, rfl, rfl, rfl, trivial⟩ ?_
    refine WO_end ?_
    refine WK_seq ?_
    refine WK_cond (b := decide (s_6 < ((y_1).length : Int))) rfl (fun hb47 => ?_) (fun hb47 => ?_)
    · have hm31 := ifT hb47 hm31
      refine WK_skip ?_
      refine WK_seq ?_
      refine WK_block ?_
      refine WK_seq ?_
      refine WK_region ?_
      obtain ⟨v_11, hy48, hm31⟩ := bind_some hm31
      obtain ⟨hc49, hy48⟩ := ix_some hy48
      refine WO_index tbok rfl rfl rfl rfl rfl rfl rfl rfl (SlR.addr h10) hc49 ?_
      refine WO_loadR tbok rfl rfl rfl rfl (fun _ h => St.sat h) h10 hy48 rfl rfl (fun a50 c51 h52 => ?_)
      refine WO_pure tbok 1 [(4, .slice none 0 0), (5, .int .i64 0), (6, .slice a3 ((y_1).length) c4), (7, .int .i64 s_4), (8, .int .i64 s_5), (9, .slice a20 ((l_3).length) c22), (11, .slice a50 ((v_11).length) c51), (22, .slice a3 ((y_1).length) c4), (23, .int .i64 ((y_1).length : Int)), (24, .int .i64 s_6)] rfl ⟨rfl, rfl, rfl, rfl, rfl, rfl, rfl, rfl, rfl, rfl, trivial⟩ ?_
      refine WO_end ?_
      refine WK_seq ?_
      refine WK_region ?_
      refine WO_pure tbok 2 [(4, .slice none 0 0), (5, .int .i64 0), (6, .slice a3 ((y_1).length) c4), (7, .int .i64 s_4), (8, .int .i64 s_5), (9, .slice a20 ((l_3).length) c22), (11, .slice a50 ((v_11).length) c51), (12, .int .i64 s_4), (22, .slice a3 ((y_1).length) c4), (23, .int .i64 ((y_1).length : Int)), (24, .int .i64 s_6)] rfl ⟨rfl, rfl, rfl, rfl, rfl, rfl, rfl, rfl, rfl, rfl, rfl, trivial⟩ ?_
      refine WO_end ?_
      refine WK_seq ?_
      refine WK_seq ?_
      refine WK_region ?_
      refine WO_pure tbok 2 [(4, .slice none 0 0), (5, .int .i64 0), (6, .slice a3 ((y_1).length) c4), (7, .int .i64 s_4), (8, .int .i64 s_5), (9, .slice a20 ((l_3).length) c22), (11, .slice a50 ((v_11).length) c51), (12, .int .i64 s_4), (13, .int .i64 s_4), (22, .slice a3 ((y_1).length) c4), (23, .int .i64 ((y_1).length : Int)), (24, .int .i64 s_6)] rfl ⟨rfl, rfl, rfl, rfl, rfl, rfl, rfl, rfl, rfl, rfl, rfl, rfl, trivial⟩ ?_
      refine WO_end ?_
      obtain ⟨x54, hx55, hm31⟩ := bind_some hm31
      refine WK_join (β := Int × Unit) (fun p => p.1 = x54) (fun p => [(4, .slice none 0 0), (5, .int .i64 0), (6, .slice a3 ((y_1).length) c4), (7, .int .i64 s_4), (8, .int .i64 s_5), (9, .slice a20 ((l_3).length) c22), (11, .slice a50 ((v_11).length) c51), (12, .int .i64 p.1), (22, .slice a3 ((y_1).length) c4), (23, .int .i64 ((y_1).length : Int)), (24, .int .i64 s_6)]) (fun p => St w0 m m8 [L6, L19]) ?_ (fun hk56 => ?_)
      · rintro ⟨s_14, ⟨⟩⟩ hq62
        subst hq62
        refine WK.sub (e' := [(4, .slice none 0 0), (5, .int .i64 0), (6, .slice a3 ((y_1).length) c4), (7, .int .i64 s_4), (8, .int .i64 s_5), (9, .slice a20 ((l_3).length) c22), (11, .slice a50 ((v_11).length) c51), (12, .int .i64 s_14), (22, .slice a3 ((y_1).length) c4), (23, .int .i64 ((y_1).length : Int)), (24, .int .i64 s_6)]) ⟨rfl, rfl, rfl, rfl, rfl, rfl, rfl, rfl, rfl, rfl, rfl, trivial⟩ (WK.cls (C' := St w0 m m8 [L6, L19]) (fun _ h => h) ?_)
        refine WK_seq ?_
        refine WK_region ?_
        refine WO_pure tbok 2 [(4, .slice none 0 0), (5, .int .i64 0), (6, .slice a3 ((y_1).length) c4), (7, .int .i64 s_4), (8, .int .i64 s_5), (9, .slice a20 ((l_3).length) c22), (11, .slice a50 ((v_11).length) c51), (12, .int .i64 s_14), (22, .slice a3 ((y_1).length) c4), (23, .int .i64 ((y_1).length : Int)), (24, .int .i64 s_6), (45, .slice a20 ((l_3).length) c22), (46, .int .i64 s_14)] rfl ⟨rfl, rfl, rfl, rfl, rfl, rfl, rfl, rfl, rfl, rfl, rfl, rfl, rfl, trivial⟩ ?_
        refine WO_bslice (E := (I1 .i64)) tbok (fun _ => rfl) (by decide) [.int .i64 s_14] ([s_14] : List Int) rfl rfl trivial rfl rfl rfl rfl rfl rfl rfl rfl rfl rfl rfl rfl (fun b63 hb63 => ?_)
        refine WO.cls (C' := St w0 m m8 [L6, L19, [⟨b63, 3, ([s_14] : List Int).flatMap (I1 .i64)⟩]]) (fun _ h => h) ?_
        obtain ⟨hc65, hm31⟩ := chk_some hm31
        refine WO_append (E := (I1 .i64)) tbok (fun _ => rfl) 1 ([s_14] : List Int) (fun _ _ => rfl) rfl rfl rfl rfl rfl rfl rfl rfl rfl rfl rfl rfl hL19 rfl (src_seg (j := 2) rfl) (ap_ok (by decide) hc65) (ap_max hc65) (fun a66 c67 L68 hL68 => ?_)
        refine WO.cls (C' := St w0 m m8 [L6, L68, [⟨b63, 3, ([s_14] : List Int).flatMap (I1 .i64)⟩]]) (fun _ h => h) ?_
        refine WO_pure tbok 1 [(4, .slice none 0 0), (5, .int .i64 0), (6, .slice a3 ((y_1).length) c4), (7, .int .i64 s_4), (8, .int .i64 s_5), (9, .slice a66 ((l_3 ++ ([s_14] : List Int)).length) c67), (11, .slice a50 ((v_11).length) c51), (12, .int .i64 s_14), (22, .slice a3 ((y_1).length) c4), (23, .int .i64 ((y_1).length : Int)), (24, .int .i64 s_6)] rfl ⟨rfl, rfl, rfl, rfl, rfl, rfl, rfl, rfl, rfl, rfl, rfl, trivial⟩ ?_
        refine WO_end ?_
        refine WK_region ?_
        refine WO_pure tbok 3 [(4, .slice none 0 0), (5, .int .i64 0), (6, .slice a3 ((y_1).length) c4), (7, .int .i64 s_4), (8, .int .i64 s_5), (9, .slice a66 ((l_3 ++ ([s_14] : List Int)).length) c67), (22, .slice a3 ((y_1).length) c4), (23, .int .i64 ((y_1).length : Int)), (24, .int .i64 s_6), (50, .int .i64 s_14), (52, .int .i64 ((v_11).length : Int))] rfl ⟨rfl, rfl, rfl, rfl, rfl, rfl, rfl, rfl, rfl, rfl, rfl, trivial⟩ ?_
        obtain ⟨⟨y_15, y_16⟩, hc70, hm31⟩ := bind_some hm31
        refine WO_call0 (.tuple #[.int .i64 y_15, .int .i64 y_16]) rfl rfl trivial rfl rfl rfl rfl St_closed ⟨57, #[], #[], rfl, callable_57, fun w hw => ⟨_, hw.sat, seam_near_walk hc70⟩⟩ ?_
        refine WO_pure tbok 5 [(4, .slice none 0 0), (5, .int .i64 0), (6, .slice a3 ((y_1).length) c4), (7, .int .i64 y_15), (8, .int .i64 y_16), (9, .slice a66 ((l_3 ++ ([s_14] : List Int)).length) c67), (22, .slice a3 ((y_1).length) c4), (23, .int .i64 ((y_1).length : Int)), (24, .int .i64 s_6)] rfl ⟨rfl, rfl, rfl, rfl, rfl, rfl, rfl, rfl, rfl, trivial⟩ ?_
        refine WO_end ?_
        refine WK_blk ?_
        refine WK_region ?_
        refine WO_pure tbok 2 [(4, .slice none 0 0), (5, .int .i64 0), (6, .slice a3 ((y_1).length) c4), (7, .int .i64 y_15), (8, .int .i64 y_16), (9, .slice a66 ((l_3 ++ ([s_14] : List Int)).length) c67), (22, .slice a3 ((y_1).length) c4), (23, .int .i64 ((y_1).length : Int)), (24, .int .i64 (w64 (s_6 + 1)))] rfl ⟨rfl, rfl, rfl, rfl, rfl, rfl, rfl, rfl, rfl, trivial⟩ ?_
        refine WO_end ?_
        cases hm31
        refine WK.sub ?_ (WK.cls (fun _ h => St.take 2 h) (hn34 _ (a66, (l_3 ++ ([s_14] : List Int)).length, c67, L68) rfl hL68))
        exact ⟨rfl, rfl, rfl, rfl, rfl, rfl, rfl, rfl, rfl, trivial⟩
      · refine WK_block ?_
        refine WK_loop (S := Int × Int) (G := Unit) (fun s => seam_first_s2 s_5 v_11 s.1 s.2) (fun s g => [(4, .slice none 0 0), (5, .int .i64 0), (6, .slice a3 ((y_1).length) c4), (7, .int .i64 s_4), (8, .int .i64 s_5), (9, .slice a20 ((l_3).length) c22), (11, .slice a50 ((v_11).length) c51), (12, .int .i64 s.2), (13, .int .i64 s.1), (22, .slice a3 ((y_1).length) c4), (23, .int .i64 ((y_1).length : Int)), (24, .int .i64 s_6)]) (fun s g => St w0 m m8 [L6, L19]) (fun s g => True) FUEL (s_4, s_4) () x54 hx55 trivial ⟨rfl, rfl, rfl, rfl, rfl, rfl, rfl, rfl, rfl, rfl, rfl, rfl, trivial⟩ (fun _ h => h) ?_
        rintro ⟨s_12, s_13⟩ ⟨⟩ o58 fl59 hm57 - hn60 hd61
        have hm57 : seam_first_s2 s_5 v_11 s_12 s_13 = some o58 := hm57
        unfold seam_first_s2 at hm57
        refine WK.sub (e' := [(4, .slice none 0 0), (5, .int .i64 0), (6, .slice a3 ((y_1).length) c4), (7, .int .i64 s_4), (8, .int .i64 s_5), (9, .slice a20 ((l_3).length) c22), (11, .slice a50 ((v_11).length) c51), (12, .int .i64 s_13), (13, .int .i64 s_12), (22, .slice a3 ((y_1).length) c4), (23, .int .i64 ((y_1).length : Int)), (24, .int .i64 s_6)]) ⟨rfl, rfl, rfl, rfl, rfl, rfl, rfl, rfl, rfl, rfl, rfl, rfl, trivial⟩ (WK.cls (C' := St w0 m m8 [L6, L19]) (fun _ h => h) ?_)
        refine WK_seq ?_
        refine WK_seq ?_
        refine WK_region ?_
        refine WO_pure tbok 3 [(4, .slice none 0 0), (5, .int .i64 0), (6, .slice a3 ((y_1).length) c4), (7, .int .i64 s_4), (8, .int .i64 s_5), (9, .slice a20 ((l_3).length) c22), (11, .slice a50 ((v_11).length) c51), (12, .int .i64 s_13), (13, .int .i64 s_12), (22, .slice a3 ((y_1).length) c4), (23, .int .i64 ((y_1).length : Int)), (24, .int .i64 s_6), (32, .bool (decide (s_12 ≤ s_5)))] rfl ⟨rfl, rfl, rfl, rfl, rfl, rfl, rfl, rfl, rfl, rfl, rfl, rfl, rfl, trivial⟩ ?_
        refine WO_end ?_
        refine WK_cond (b := decide (s_12 ≤ s_5)) rfl (fun hb71 => ?_) (fun hb71 => ?_)
        · have hm57 := ifT hb71 hm57
          refine WK_skip ?_
          refine WK_seq ?_
          refine WK_block ?_
          refine WK_seq ?_
          refine WK_draw 9 [0, 1, 2, 3, 4, 5, 6, 7, 8] follows_ok (by kernel_rfl) St_closed ?_
          refine WO_pure tbok 2 [(4, .slice none 0 0), (5, .int .i64 0), (6, .slice a3 ((y_1).length) c4), (7, .int .i64 s_4), (8, .int .i64 s_5), (9, .slice a20 ((l_3).length) c22), (11, .slice a50 ((v_11).length) c51), (12, .int .i64 s_13), (13, .int .i64 s_12), (22, .slice a3 ((y_1).length) c4), (23, .int .i64 ((y_1).length : Int)), (24, .int .i64 s_6), (35, .slice a50 ((v_11).length) c51), (36, .int .i64 s_12)] rfl ⟨rfl, rfl, rfl, rfl, rfl, rfl, rfl, rfl, rfl, rfl, rfl, rfl, rfl, rfl, trivial⟩ ?_
          obtain ⟨v_17, hy72, hm57⟩ := bind_some hm57
          obtain ⟨hc73, hy72⟩ := ix_some hy72
          refine WO_index tbok rfl rfl rfl rfl rfl rfl rfl rfl (SlR.addr h52) hc73 ?_
          refine WO_loadE tbok rfl rfl rfl rfl (fun _ h => St.sat h) h52 hy72 rfl ?_
          refine WO_pure tbok 2 [(4, .slice none 0 0), (5, .int .i64 0), (6, .slice a3 ((y_1).length) c4), (7, .int .i64 s_4), (8, .int .i64 s_5), (9, .slice a20 ((l_3).length) c22), (11, .slice a50 ((v_11).length) c51), (12, .int .i64 s_13), (13, .int .i64 s_12), (22, .slice a3 ((y_1).length) c4), (23, .int .i64 ((y_1).length : Int)), (24, .int .i64 s_6), (38, .int .i64 v_17), (39, .slice a50 ((v_11).length) c51), (40, .int .i64 s_13)] rfl ⟨rfl, rfl, rfl, rfl, rfl, rfl, rfl, rfl, rfl, rfl, rfl, rfl, rfl, rfl, rfl, trivial⟩ ?_
          obtain ⟨v_18, hy74, hm57⟩ := bind_some hm57
          obtain ⟨hc75, hy74⟩ := ix_some hy74
          refine WO_index tbok rfl rfl rfl rfl rfl rfl rfl rfl (SlR.addr h52) hc75 ?_
          refine WO_loadE tbok rfl rfl rfl rfl (fun _ h => St.sat h) h52 hy74 rfl ?_
          refine WO_pure tbok 1 [(4, .slice none 0 0), (5, .int .i64 0), (6, .slice a3 ((y_1).length) c4), (7, .int .i64 s_4), (8, .int .i64 s_5), (9, .slice a20 ((l_3).length) c22), (11, .slice a50 ((v_11).length) c51), (12, .int .i64 s_13), (13, .int .i64 s_12), (22, .slice a3 ((y_1).length) c4), (23, .int .i64 ((y_1).length : Int)), (24, .int .i64 s_6), (43, .bool (decide (v_17 < v_18)))] rfl ⟨rfl, rfl, rfl, rfl, rfl, rfl, rfl, rfl, rfl, rfl, rfl, rfl, rfl, trivial⟩ ?_
          refine WO_tail ?_
          refine WO_end ?_
          obtain ⟨s_19, hx76, hm57⟩ := bind_some hm57
          refine WK_meet [(4, .slice none 0 0), (5, .int .i64 0), (6, .slice a3 ((y_1).length) c4), (7, .int .i64 s_4), (8, .int .i64 s_5), (9, .slice a20 ((l_3).length) c22), (11, .slice a50 ((v_11).length) c51), (12, .int .i64 s_19), (13, .int .i64 s_12), (22, .slice a3 ((y_1).length) c4), (23, .int .i64 ((y_1).length : Int)), (24, .int .i64 s_6)] (St w0 m m8 [L6, L19]) ?_ (fun hk77 => ?_)
          · refine WK_blk ?_
            refine WK_region ?_
            refine WO_pure tbok 3 [(4, .slice none 0 0), (5, .int .i64 0), (6, .slice a3 ((y_1).length) c4), (7, .int .i64 s_4), (8, .int .i64 s_5), (9, .slice a20 ((l_3).length) c22), (11, .slice a50 ((v_11).length) c51), (12, .int .i64 s_19), (13, .int .i64 (w64 (s_12 + 1))), (22, .slice a3 ((y_1).length) c4), (23, .int .i64 ((y_1).length : Int)), (24, .int .i64 s_6)] rfl ⟨rfl, rfl, rfl, rfl, rfl, rfl, rfl, rfl, rfl, rfl, rfl, rfl, trivial⟩ ?_
            refine WO_end ?_
            cases hm57
            refine WK.sub ?_ (WK.cls (fun _ h => h) (hn60 _ () rfl trivial))
            exact ⟨rfl, rfl, rfl, rfl, rfl, rfl, rfl, rfl, rfl, rfl, rfl, rfl, trivial⟩
          · refine WK_cond (b := decide (v_17 < v_18)) rfl (fun hb78 => ?_) (fun hb78 => ?_)
            · have hx76 := ifT hb78 hx76
              refine WK_region ?_
              refine WO_pure tbok 2 [(4, .slice none 0 0), (5, .int .i64 0), (6, .slice a3 ((y_1).length) c4), (7, .int .i64 s_4), (8, .int .i64 s_5), (9, .slice a20 ((l_3).length) c22), (11, .slice a50 ((v_11).length) c51), (12, .int .i64 s_12), (13, .int .i64 s_12), (22, .slice a3 ((y_1).length) c4), (23, .int .i64 ((y_1).length : Int)), (24, .int .i64 s_6)] rfl ⟨rfl, rfl, rfl, rfl, rfl, rfl, rfl, rfl, rfl, rfl, rfl, rfl, trivial⟩ ?_
              refine WO_end ?_
              cases hx76
              refine WK.sub ?_ (WK.cls (fun _ h => h) hk77)
              exact ⟨rfl, rfl, rfl, rfl, rfl, rfl, rfl, rfl, rfl, rfl, rfl, rfl, trivial⟩
            · have hx76 := ifF hb78 hx76
              refine WK_skip ?_
              cases hx76
              refine WK.sub ?_ (WK.cls (fun _ h => h) hk77)
              exact ⟨rfl, rfl, rfl, rfl, rfl, rfl, rfl, rfl, rfl, rfl, rfl, rfl, trivial⟩
        · have hm57 := ifF hb71 hm57
          refine WK_exit rfl ?_
          cases hm57
          refine WK.sub ?_ (WK.cls (fun _ h => h) (hk56 (s_13, ()) (hd61 _ rfl)))
          exact ⟨rfl, rfl, rfl, rfl, rfl, rfl, rfl, rfl, rfl, rfl, rfl, trivial⟩
    · have hm31 := ifF hb47 hm31
      refine WK_exit rfl ?_
      cases hm31
      refine WK.sub ?_ (WK.cls (fun _ h => h) (hk30 (l_3, (a20, _, c22, L19)) ⟨(hd35 _ rfl), hL19⟩))
      exact ⟨rfl, rfl, rfl, rfl, trivial⟩
theorem seam_Find_c1_walk {m : Mu} {p0 : Int} {p1 : Int}   {r : Bool} (hm : seam_Find_c1 p0 p1 = some r) :
    Go.E.Spec Try.prog 45 [.int .i64 p0, .int .i64 p1] m (fun v _ _ => v = .bool r) := by
  refine Spec_enter Try.func45 rfl rfl rfl (fun w0 => ?_)
  refine WK.sub (e' := []) trivial ?_
  refine WK.sub (e' := []) trivial ?_
  unfold seam_Find_c1 at hm
  refine WK_seq ?_
  refine WK_region ?_
  refine WO_pure tbok 1 [(4, .bool false)] rfl ⟨rfl, trivial⟩ ?_
  refine WO_end ?_
  refine WK_seq ?_
  refine WK_region ?_
  refine WO_pure tbok 1 [(4, .bool true)] rfl ⟨rfl, trivial⟩ ?_
  refine WO_end ?_
  cases hm
  exact WK_ret (ret_out (L := []) (RLc_tmp rfl RLc_nil) (List.nil_sublist _) rfl)
def slices_Clone_sint_Q (r : List Int) : Value → List Ent → Prop := fun v L => ∃ (a0 : Option Addr) (q0 c0 : Nat), v = .slice a0 q0 c0 ∧ OwnE 3 1 (I1 .i64) (.slice a0 q0 c0) r L
theorem slices_Clone_sint_walk {m : Mu} {p0 : List Int} {a_p0 : Option Addr} {q_p0 c_p0 : Nat} (h_p0 : SlR (FE (I1 .i64)) 1 m (.slice a_p0 q_p0 c_p0) p0) {r : List Int} (hm : slices_Clone_sint p0 = some r) :
    Go.E.Spec Try.prog 18 [.slice a_p0 q_p0 c_p0] m (fun v _ L => slices_Clone_sint_Q r v L) := by
  refine Spec_enter Try.func18 rfl rfl rfl (fun w0 => ?_)
  refine WK.sub (e' := [(0, .slice a_p0 q_p0 c_p0)]) ⟨rfl, trivial⟩ ?_
  obtain rfl := SlR.qlen h_p0
  refine WK.sub (e' := [(0, .slice a_p0 p0.length c_p0)]) ⟨rfl, trivial⟩ ?_
  cases a_p0 with
  | none =>
    obtain ⟨hx, _, hc⟩ := SlR.none_nil h_p0
    subst hx
    subst hc
    unfold slices_Clone_sint at hm
    obtain ⟨_, hm⟩ := chk_some hm
    refine WK_seq ?_
    refine WK_region ?_
    refine WO_pure tbok 1 [(0, .slice none 0 0), (2, .slice none 0 0)] rfl ⟨rfl, rfl, trivial⟩ ?_
    refine WO_end ?_
    refine WK_seq ?_
    refine WK_seq ?_
    refine WK_region ?_
    refine WO_pure tbok 1 [(0, .slice none 0 0), (2, .slice none 0 0), (3, .slice none 0 0)] rfl ⟨rfl, rfl, rfl, trivial⟩ ?_
    refine WO_eqnil tbok rfl rfl rfl rfl rfl rfl rfl ?_
    refine WO_end ?_
    refine WK_condT rfl ?_
    refine WK_seq ?_
    refine WK_region ?_
    refine WO_pure tbok 1 [(0, .slice none 0 0), (2, .slice none 0 0)] rfl ⟨rfl, rfl, trivial⟩ ?_
    refine WO_end ?_
    cases hm
    exact WK_ret (ret_out (L := []) (RLc_tmp rfl RLc_nil) (List.nil_sublist _) ⟨none, 0, 0, rfl, (OwnE.nil none)⟩)
  | some ad =>
    unfold slices_Clone_sint at hm
    refine WK_seq ?_
    refine WK_region ?_
    refine WO_pure tbok 1 [(0, .slice (some ad) p0.length c_p0), (2, .slice none 0 0)] rfl ⟨rfl, rfl, trivial⟩ ?_
    refine WO_end ?_
    refine WK_seq ?_
    refine WK_seq ?_
    refine WK_region ?_
    refine WO_pure tbok 1 [(0, .slice (some ad) p0.length c_p0), (2, .slice none 0 0), (3, .slice (some ad) p0.length c_p0)] rfl ⟨rfl, rfl, rfl, trivial⟩ ?_
    refine WO_eqnil tbok rfl rfl rfl rfl rfl rfl rfl ?_
    refine WO_end ?_
    refine WK_condF rfl ?_
    refine WK_skip ?_
    refine WK_seq ?_
    refine WK_region ?_
    refine WO_bslice (E := (I1 .i64)) tbok (fun _ => rfl) (by decide) [] ([] : List Int) rfl rfl trivial rfl rfl rfl rfl rfl rfl rfl rfl rfl rfl rfl rfl (fun b2 hb2 => ?_)
    refine WO.cls (C' := St w0 m m [[⟨b2, 3, ([] : List Int).flatMap (I1 .i64)⟩]]) (fun _ h => h) ?_
    refine WO_pure tbok 1 [(2, .slice none 0 0), (5, .slice (some ⟨b2, 0, none⟩) 0 0), (6, .slice (some ad) p0.length c_p0)] rfl ⟨rfl, rfl, rfl, trivial⟩ ?_
    obtain ⟨hc4, hm⟩ := chk_some hm
    refine WO_appendS (E := (I1 .i64)) tbok (fun _ => rfl) (by decide) (fun _ => rfl) 0 p0 rfl rfl rfl rfl rfl rfl rfl rfl rfl rfl rfl rfl hb2 rfl (fun w hw => ⟨_, hw.sat, h_p0⟩) (ap_ok (by decide) hc4) (ap_max hc4) (fun a5 c6 L7 hL7 => ?_)
    refine WO.cls (C' := St w0 m m [L7]) (fun _ h => h) ?_
    refine WO_pure tbok 1 [(2, .slice a5 ((([] : List Int) ++ p0).length) c6)] rfl ⟨rfl, trivial⟩ ?_
    refine WO_end ?_
    cases hm
    exact WK_ret (ret_out (L := L7) (RLc_tmp rfl RLc_nil) (seg_sub 0 rfl) ⟨a5, ((([] : List Int) ++ p0).length), c6, rfl, hL7⟩)
def seam_downward_Q (r : List (List Int)) : Value → Mu → List Ent → Prop := fun v m L => ∃ (a0 : Option Addr) (q0 c0 : Nat), v = .slice a0 q0 c0 ∧ SlR (RowE (FE (I1 .i64)) 1) 1 m (.slice a0 q0 c0) r
theorem seam_downward_walk {m : Mu} {p0 : List (List Int)} {a_p0 : Option Addr} {q_p0 c_p0 : Nat} (h_p0 : SlR (RowE (FE (I1 .i64)) 1) 1 m (.slice a_p0 q_p0 c_p0) p0) {r : List (List Int)} (hm : seam_downward p0 = some r) :
    Go.E.Spec Try.prog 46 [.slice a_p0 q_p0 c_p0] m (seam_downward_Q r) := by
  refine Spec_enter Try.func46 rfl rfl rfl (fun w0 => ?_)
  refine WK.sub (e' := [(0, .slice a_p0 q_p0 c_p0)]) ⟨rfl, trivial⟩ ?_
  obtain rfl := SlR.qlen h_p0
  refine WK.sub (e' := [(0, .slice a_p0 p0.length c_p0)]) ⟨rfl, trivial⟩ ?_
  unfold seam_downward at hm
  refine WK_seq ?_
  refine WK_region ?_
  refine WO_pure tbok 1 [(0, .slice a_p0 p0.length c_p0), (2, .slice none 0 0)] rfl ⟨rfl, rfl, trivial⟩ ?_
  refine WO_end ?_
  refine WK_seq ?_
  refine WK_region ?_
  refine WO_pure tbok 1 [(0, .slice a_p0 p0.length c_p0), (2, .slice none 0 0), (10, .slice a_p0 p0.length c_p0)] rfl ⟨rfl, rfl, rfl, trivial⟩ ?_
  obtain ⟨v_1, hy2, hm⟩ := bind_some hm
  obtain ⟨hc3, hy2⟩ := ix_some hy2
  refine WO_index tbok rfl rfl rfl rfl rfl rfl rfl rfl (SlR.addr h_p0) hc3 ?_
  refine WO_loadR tbok rfl rfl rfl rfl (fun _ h => St.sat h) h_p0 hy2 rfl rfl (fun a4 c5 h6 => ?_)
  obtain ⟨y_2, hc8, hm⟩ := bind_some hm
  refine WO_call1 (slices_Clone_sint_Q y_2) rfl rfl trivial rfl rfl rfl rfl ⟨18, #[], #[], rfl, callable_18, fun w hw => ⟨_, hw.sat, slices_Clone_sint_walk h6 hc8⟩⟩ (fun v13 L12 hq => ?_)
  obtain ⟨a9, qa9, c10, rfl, hL12⟩ := hq
  obtain rfl := OwnE.qlen hL12
  refine WO.cls (C' := St w0 m m [L12]) (fun _ h => h) ?_
  refine WO_freeze 0 rfl (fun m15 hle16 hmm17 => ?_)
  refine WO.cls (C' := St w0 m m15 [[]]) (fun _ h => h) ?_
  refine WO_bsliceX (E := V1) (El := (RowE (FE (I1 .i64)) 1)) tbok (fun _ => rfl) (by decide) [.slice a9 ((y_2).length) c10] [.slice a9 ((y_2).length) c10] ([y_2] : List (List Int)) rfl rfl trivial rfl rfl rfl rfl rfl rfl rfl rfl rfl rfl rfl rfl ⟨⟨_, rfl, (OwnE.rd (E := (I1 .i64)) (k := 1) (fun _ => rfl) hL12 hmm17)⟩, trivial⟩ (fun b14 hb14 => ?_)
  refine WO.cls (C' := St w0 m m15 [[], [⟨b14, 23, [.slice a9 ((y_2).length) c10]⟩]]) (fun _ h => h) ?_
  refine WO_pure tbok 1 [(0, .slice a_p0 p0.length c_p0), (2, .slice none 0 0), (3, .slice (some ⟨b14, 0, none⟩) 1 1)] rfl ⟨rfl, rfl, rfl, trivial⟩ ?_
  refine WO_end ?_
  refine WK_seq ?_
  refine WK_seq ?_
  refine WK_region ?_
  refine WO_pure tbok 1 [(0, .slice a_p0 p0.length c_p0), (2, .slice none 0 0), (3, .slice (some ⟨b14, 0, none⟩) 1 1), (4, .int .i64 1)] rfl ⟨rfl, rfl, rfl, rfl, trivial⟩ ?_
  refine WO_end ?_
  obtain ⟨x33, hx34, hm⟩ := bind_some hm
  refine WK_join (β := (List (List Int)) × (Mu × Option Addr × Nat × Nat × List Ent)) (fun p => p.1 = x33 ∧ Le m15 p.2.1 ∧ OwnX 23 1 V1 (RowE (FE (I1 .i64)) 1) p.2.1 (.slice p.2.2.1 p.2.2.2.1 p.2.2.2.2.1) p.1 p.2.2.2.2.2) (fun p => [(2, .slice none 0 0), (3, .slice p.2.2.1 p.2.2.2.1 p.2.2.2.2.1)]) (fun p => St w0 m p.2.1 [[], p.2.2.2.2.2]) ?_ (fun hk35 => ?_)
  · rintro ⟨l_5, ⟨m26, a30, q31, c32, L29⟩⟩ ⟨hq41, hle27, hL29⟩
    subst hq41
    have hqq : q31 = l_5.length := OwnX.qlen hL29
    subst hqq
    refine WK.sub (e' := [(2, .slice none 0 0), (3, .slice a30 ((l_5).length) c32)]) ⟨rfl, rfl, trivial⟩ (WK.cls (C' := St w0 m m26 [[], L29]) (fun _ h => h) ?_)
    refine WK_seq ?_
    refine WK_region ?_
    refine WO_pure tbok 2 [(2, .slice a30 ((l_5).length) c32)] rfl ⟨rfl, trivial⟩ ?_
    refine WO_end ?_
    cases hm
    refine WK_freeze 1 rfl (fun m42 hle43 hmm44 => ?_)
    refine WK.cls (C' := St w0 m m42 [[], []]) (fun _ h => h) ?_
    exact WK_ret (ret_out (L := []) (RLc_tmp rfl RLc_nil) (List.nil_sublist _) ⟨a30, _, c32, rfl, (OwnX.rd (E := V1) (k := 1) (fun _ => rfl) hL29 (mono_RowE (mono_FE _) _) hle43 hmm44)⟩)
  · refine WK_block ?_
    refine WK_loop (S := List (List Int) × Int) (G := Mu × Option Addr × Nat × Nat × List Ent) (fun s => seam_downward_s1 p0 s.1 s.2) (fun s g => [(0, .slice a_p0 p0.length c_p0), (2, .slice none 0 0), (3, .slice g.2.1 g.2.2.1 g.2.2.2.1), (4, .int .i64 s.2)]) (fun s g => St w0 m g.1 [[], g.2.2.2.2]) (fun s g => Le m15 g.1 ∧ OwnX 23 1 V1 (RowE (FE (I1 .i64)) 1) g.1 (.slice g.2.1 g.2.2.1 g.2.2.2.1) s.1 g.2.2.2.2) FUEL (([y_2] : List (List Int)), 1) (m15, some ⟨b14, 0, none⟩, 1, 1, [⟨b14, 23, [.slice a9 ((y_2).length) c10]⟩]) x33 hx34 ⟨(Le.refl _), hb14⟩ ⟨rfl, rfl, rfl, rfl, trivial⟩ (fun _ h => h) ?_
    rintro ⟨l_3, s_4⟩ ⟨m19, a23, q24, c25, L22⟩ o37 fl38 hm36 ⟨hle20, hL22⟩ hn39 hd40
    have hm36 : seam_downward_s1 p0 l_3 s_4 = some o37 := hm36
    unfold seam_downward_s1 at hm36
    have hqq : q24 = l_3.length := OwnX.qlen hL22
    subst hqq
    refine WK.sub (e' := [(0, .slice a_p0 p0.length c_p0), (2, .slice none 0 0), (3, .slice a23 ((l_3).length) c25), (4, .int .i64 s_4)]) ⟨rfl, rfl, rfl, rfl, trivial⟩ (WK.cls (C' := St w0 m m19 [[], L22]) (fun _ h => h) ?_)
    refine WK_seq ?_
    refine WK_seq ?_
    refine WK_region ?_
    refine WO_pure tbok 4 [(0, .slice a_p0 p0.length c_p0), (2, .slice none 0 0), (3, .slice a23 ((l_3).length) c25), (4, .int .i64 s_4), (18, .bool (decide (s_4 < (p0.length : Int))))] rfl ⟨rfl, rfl, rfl, rfl, rfl, trivial⟩ ?_
    refine WO_end ?_
    refine WK_cond (b := decide (s_4 < (p0.length : Int))) rfl (fun hb45 => ?_) (fun hb45 => ?_)
    · have hm36 := ifT hb45 hm36
      refine WK_skip ?_
      refine WK_seq ?_
      refine WK_block ?_
      refine WK_seq ?_
      refine WK_region ?_
      refine WO_pure tbok 2 [(0, .slice a_p0 p0.length c_p0), (2, .slice none 0 0), (3, .slice a23 ((l_3).length) c25), (4, .int .i64 s_4), (21, .slice a_p0 p0.length c_p0), (22, .int .i64 s_4)] rfl ⟨rfl, rfl, rfl, rfl, rfl, rfl, trivial⟩ ?_
      obtain ⟨v_6, hy46, hm36⟩ := bind_some hm36
      obtain ⟨hc47, hy46⟩ := ix_some hy46
      refine WO_index tbok rfl rfl rfl rfl rfl rfl rfl rfl (SlR.addr ((h_p0.mono (mono_RowE (mono_FE _) _) hle16).mono (mono_RowE (mono_FE _) _) hle20)) hc47 ?_
      refine WO_loadR tbok rfl rfl rfl rfl (fun _ h => St.sat h) ((h_p0.mono (mono_RowE (mono_FE _) _) hle16).mono (mono_RowE (mono_FE _) _) hle20) hy46 rfl rfl (fun a48 c49 h50 => ?_)
      refine WO_pure tbok 1 [(0, .slice a_p0 p0.length c_p0), (2, .slice none 0 0), (3, .slice a23 ((l_3).length) c25), (4, .int .i64 s_4), (25, .int .i64 ((v_6).length : Int))] rfl ⟨rfl, rfl, rfl, rfl, rfl, trivial⟩ ?_
      obtain ⟨hc52, hm36⟩ := chk_some hm36
      refine WO_make (E := (I1 .i64)) tbok (fun _ => rfl) (by decide) (0 : Int) rfl rfl trivial rfl rfl rfl rfl rfl rfl rfl rfl rfl (mk_ok (by decide) hc52) (fun b53 c54 L55 hL55 => ?_)
      refine WO.cls (C' := St w0 m m19 [[], L22, L55]) (fun _ h => h) ?_
      refine WO_pure tbok 1 [(0, .slice a_p0 p0.length c_p0), (2, .slice none 0 0), (3, .slice a23 ((l_3).length) c25), (4, .int .i64 s_4), (5, .slice (some ⟨b53, 0, none⟩) (([] : List Int).length) c54)] rfl ⟨rfl, rfl, rfl, rfl, rfl, trivial⟩ ?_
      refine WO_end ?_
      refine WK_seq ?_
      refine WK_seq ?_
      refine WK_region ?_
      refine WO_pure tbok 2 [(0, .slice a_p0 p0.length c_p0), (2, .slice none 0 0), (3, .slice a23 ((l_3).length) c25), (4, .int .i64 s_4), (5, .slice (some ⟨b53, 0, none⟩) (([] : List Int).length) c54), (27, .slice a_p0 p0.length c_p0), (28, .int .i64 s_4)] rfl ⟨rfl, rfl, rfl, rfl, rfl, rfl, rfl, trivial⟩ ?_
      obtain ⟨v_7, hy57, hm36⟩ := bind_some hm36
      obtain ⟨hc58, hy57⟩ := ix_some hy57
      refine WO_index tbok rfl rfl rfl rfl rfl rfl rfl rfl (SlR.addr ((h_p0.mono (mono_RowE (mono_FE _) _) hle16).mono (mono_RowE (mono_FE _) _) hle20)) hc58 ?_
      refine WO_loadR tbok rfl rfl rfl rfl (fun _ h => St.sat h) ((h_p0.mono (mono_RowE (mono_FE _) _) hle16).mono (mono_RowE (mono_FE _) _) hle20) hy57 rfl rfl (fun a59 c60 h61 => ?_)
      refine WO_pure tbok 2 [(0, .slice a_p0 p0.length c_p0), (2, .slice none 0 0), (3, .slice a23 ((l_3).length) c25), (4, .int .i64 s_4), (5, .slice (some ⟨b53, 0, none⟩) (([] : List Int).length) c54), (30, .slice a59 ((v_7).length) c60), (31, .int .i64 ((v_7).length : Int)), (32, .int .i64 0)] rfl ⟨rfl, rfl, rfl, rfl, rfl, rfl, rfl, rfl, trivial⟩ ?_
      refine WO_end ?_
      obtain ⟨x73, hx74, hm36⟩ := bind_some hm36
      refine WK_join (β := (List Int) × (Option Addr × Nat × Nat × List Ent)) (fun p => p.1 = x73 ∧ OwnE 3 1 (I1 .i64) (.slice p.2.1 p.2.2.1 p.2.2.2.1) p.1 p.2.2.2.2) (fun p => [(0, .slice a_p0 p0.length c_p0), (2, .slice none 0 0), (3, .slice a23 ((l_3).length) c25), (4, .int .i64 s_4), (5, .slice p.2.1 p.2.2.1 p.2.2.2.1)]) (fun p => St w0 m m19 [[], L22, p.2.2.2.2]) ?_ (fun hk75 => ?_)
      · rintro ⟨l_10, ⟨a70, q71, c72, L69⟩⟩ ⟨hq81, hL69⟩
        subst hq81
        have hqq : q71 = l_10.length := OwnE.qlen hL69
        subst hqq
        refine WK.sub (e' := [(0, .slice a_p0 p0.length c_p0), (2, .slice none 0 0), (3, .slice a23 ((l_3).length) c25), (4, .int .i64 s_4), (5, .slice a70 ((l_10).length) c72)]) ⟨rfl, rfl, rfl, rfl, rfl, trivial⟩ (WK.cls (C' := St w0 m m19 [[], L22, L69]) (fun _ h => h) ?_)
        refine WK_region ?_
        refine WO_pure tbok 2 [(0, .slice a_p0 p0.length c_p0), (2, .slice none 0 0), (3, .slice a23 ((l_3).length) c25), (4, .int .i64 s_4), (61, .slice a23 ((l_3).length) c25), (62, .slice a70 ((l_10).length) c72)] rfl ⟨rfl, rfl, rfl, rfl, rfl, rfl, trivial⟩ ?_
        refine WO_freeze 2 rfl (fun m83 hle84 hmm85 => ?_)
        refine WO.cls (C' := St w0 m m83 [[], L22, []]) (fun _ h => h) ?_
        refine WO_bsliceX (E := V1) (El := (RowE (FE (I1 .i64)) 1)) tbok (fun _ => rfl) (by decide) [.slice a70 ((l_10).length) c72] [.slice a70 ((l_10).length) c72] ([l_10] : List (List Int)) rfl rfl trivial rfl rfl rfl rfl rfl rfl rfl rfl rfl rfl rfl rfl ⟨⟨_, rfl, (OwnE.rd (E := (I1 .i64)) (k := 1) (fun _ => rfl) hL69 hmm85)⟩, trivial⟩ (fun b82 hb82 => ?_)
        refine WO.cls (C' := St w0 m m83 [[], L22, [], [⟨b82, 23, [.slice a70 ((l_10).length) c72]⟩]]) (fun _ h => h) ?_
        obtain ⟨hc87, hm36⟩ := chk_some hm36
        refine WO_appendX (E := V1) (El := (RowE (FE (I1 .i64)) 1)) tbok (fun _ => rfl) 1 [.slice a70 ((l_10).length) c72] ([l_10] : List (List Int)) (one_lit rfl) rfl rfl rfl rfl rfl rfl rfl rfl rfl rfl rfl rfl (hL22.mono (mono_RowE (mono_FE _) _) hle84) rfl (src_seg (j := 3) rfl) ⟨⟨_, rfl, (OwnE.rd (E := (I1 .i64)) (k := 1) (fun _ => rfl) hL69 hmm85)⟩, trivial⟩ (ap_ok (by decide) hc87) (ap_max hc87) (fun a88 c89 L90 hL90 => ?_)
        refine WO.cls (C' := St w0 m m83 [[], L90, [], [⟨b82, 23, [.slice a70 ((l_10).length) c72]⟩]]) (fun _ h => h) ?_
        refine WO_pure tbok 1 [(0, .slice a_p0 p0.length c_p0), (2, .slice none 0 0), (3, .slice a88 ((l_3 ++ ([l_10] : List (List Int))).length) c89), (4, .int .i64 s_4)] rfl ⟨rfl, rfl, rfl, rfl, trivial⟩ ?_
        refine WO_end ?_
        refine WK_blk ?_
        refine WK_region ?_
        refine WO_pure tbok 3 [(0, .slice a_p0 p0.length c_p0), (2, .slice none 0 0), (3, .slice a88 ((l_3 ++ ([l_10] : List (List Int))).length) c89), (4, .int .i64 (w64 (s_4 + 1)))] rfl ⟨rfl, rfl, rfl, rfl, trivial⟩ ?_
        refine WO_end ?_
        cases hm36
        refine WK.sub ?_ (WK.cls (fun _ h => St.take 2 h) (hn39 _ (m83, a88, (l_3 ++ ([l_10] : List (List Int))).length, c89, L90) rfl ⟨(hle20.trans hle84), hL90⟩))
        exact ⟨rfl, rfl, rfl, rfl, trivial⟩
      · refine WK_block ?_
        refine WK_loop (S := List Int × Int) (G := Option Addr × Nat × Nat × List Ent) (fun s => seam_downward_s2 p0 l_3 s_4 v_7 s.1 s.2) (fun s g => [(0, .slice a_p0 p0.length c_p0), (2, .slice none 0 0), (3, .slice a23 ((l_3).length) c25), (4, .int .i64 s_4), (5, .slice g.1 g.2.1 g.2.2.1), (30, .slice a59 ((v_7).length) c60), (31, .int .i64 ((v_7).length : Int)), (32, .int .i64 s.2)]) (fun s g => St w0 m m19 [[], L22, g.2.2.2]) (fun s g => OwnE 3 1 (I1 .i64) (.slice g.1 g.2.1 g.2.2.1) s.1 g.2.2.2) FUEL (([] : List Int), 0) (some ⟨b53, 0, none⟩, ([] : List Int).length, c54, L55) x73 hx74 hL55 ⟨rfl, rfl, rfl, rfl, rfl, rfl, rfl, rfl, trivial⟩ (fun _ h => h) ?_
        rintro ⟨l_8, s_9⟩ ⟨a65, q66, c67, L64⟩ o77 fl78 hm76 hL64 hn79 hd80
        have hm76 : seam_downward_s2 p0 l_3 s_4 v_7 l_8 s_9 = some o77 := hm76
        unfold seam_downward_s2 at hm76
        have hqq : q66 = l_8.length := OwnE.qlen hL64
        subst hqq
        refine WK.sub (e' := [(0, .slice a_p0 p0.length c_p0), (2, .slice none 0 0), (3, .slice a23 ((l_3).length) c25), (4, .int .i64 s_4), (5, .slice a65 ((l_8).length) c67), (30, .slice a59 ((v_7).length) c60), (31, .int .i64 ((v_7).length : Int)), (32, .int .i64 s_9)]) ⟨rfl, rfl, rfl, rfl, rfl, rfl, rfl, rfl, trivial⟩ (WK.cls (C' := St w0 m m19 [[], L22, L64]) (fun _ h => h) ?_)
        refine WK_seq ?_
        refine WK_region ?_
        refine WO_pure tbok 1 [(0, .slice a_p0 p0.length c_p0), (2, .slice none 0 0), (3, .slice a23 ((l_3).length) c25), (4, .int .i64 s_4), (5, .slice a65 ((l_8).length) c67), (30, .slice a59 ((v_7).length) c60), (31, .int .i64 ((v_7).length : Int)), (32, .int .i64 s_9), (33, .bool (decide (s_9 < ((v_7).length : Int))))] rfl ⟨rfl, rfl, rfl, rfl, rfl, rfl, rfl, rfl, rfl, trivial⟩ ?_
        refine WO_end ?_
        refine WK_seq ?_
        refine WK_cond (b := decide (s_9 < ((v_7).length : Int))) rfl (fun hb92 => ?_) (fun hb92 => ?_)
        · have hm76 := ifT hb92 hm76
          refine WK_skip ?_
          refine WK_seq ?_
          refine WK_block ?_
          refine WK_seq ?_
          refine WK_region ?_
          refine WO_pure tbok 1 [(0, .slice a_p0 p0.length c_p0), (2, .slice none 0 0), (3, .slice a23 ((l_3).length) c25), (4, .int .i64 s_4), (5, .slice a65 ((l_8).length) c67), (30, .slice a59 ((v_7).length) c60), (31, .int .i64 ((v_7).length : Int)), (32, .int .i64 s_9), (34, .int .i64 s_9)] rfl ⟨rfl, rfl, rfl, rfl, rfl, rfl, rfl, rfl, rfl, trivial⟩ ?_
          obtain ⟨v_11, hy93, hm76⟩ := bind_some hm76
          obtain ⟨hc94, hy93⟩ := ix_some hy93
          refine WO_index tbok rfl rfl rfl rfl rfl rfl rfl rfl (SlR.addr h61) hc94 ?_
          refine WO_loadE tbok rfl rfl rfl rfl (fun _ h => St.sat h) h61 hy93 rfl ?_
          refine WO_pure tbok 2 [(0, .slice a_p0 p0.length c_p0), (2, .slice none 0 0), (3, .slice a23 ((l_3).length) c25), (4, .int .i64 s_4), (5, .slice a65 ((l_8).length) c67), (6, .int .i64 s_9), (7, .int .i64 v_11), (30, .slice a59 ((v_7).length) c60), (31, .int .i64 ((v_7).length : Int)), (32, .int .i64 s_9)] rfl ⟨rfl, rfl, rfl, rfl, rfl, rfl, rfl, rfl, rfl, rfl, trivial⟩ ?_
          refine WO_end ?_
          refine WK_seq ?_
          refine WK_region ?_
          refine WO_pure tbok 3 [(0, .slice a_p0 p0.length c_p0), (2, .slice none 0 0), (3, .slice a23 ((l_3).length) c25), (4, .int .i64 s_4), (5, .slice a65 ((l_8).length) c67), (7, .int .i64 v_11), (30, .slice a59 ((v_7).length) c60), (31, .int .i64 ((v_7).length : Int)), (32, .int .i64 s_9), (38, .int .i64 s_9), (39, .slice a_p0 p0.length c_p0), (40, .int .i64 s_4)] rfl ⟨rfl, rfl, rfl, rfl, rfl, rfl, rfl, rfl, rfl, rfl, rfl, rfl, trivial⟩ ?_
          obtain ⟨v_12, hy95, hm76⟩ := bind_some hm76
          obtain ⟨hc96, hy95⟩ := ix_some hy95
          refine WO_index tbok rfl rfl rfl rfl rfl rfl rfl rfl (SlR.addr ((h_p0.mono (mono_RowE (mono_FE _) _) hle16).mono (mono_RowE (mono_FE _) _) hle20)) hc96 ?_
          refine WO_loadR tbok rfl rfl rfl rfl (fun _ h => St.sat h) ((h_p0.mono (mono_RowE (mono_FE _) _) hle16).mono (mono_RowE (mono_FE _) _) hle20) hy95 rfl rfl (fun a97 c98 h99 => ?_)
          refine WO_pure tbok 1 [(0, .slice a_p0 p0.length c_p0), (2, .slice none 0 0), (3, .slice a23 ((l_3).length) c25), (4, .int .i64 s_4), (5, .slice a65 ((l_8).length) c67), (7, .int .i64 v_11), (30, .slice a59 ((v_7).length) c60), (31, .int .i64 ((v_7).length : Int)), (32, .int .i64 s_9), (38, .int .i64 s_9), (43, .int .i64 ((v_12).length : Int))] rfl ⟨rfl, rfl, rfl, rfl, rfl, rfl, rfl, rfl, rfl, rfl, rfl, trivial⟩ ?_
          obtain ⟨⟨y_13, y_14⟩, hc101, hm76⟩ := bind_some hm76
          refine WO_call0 (.tuple #[.int .i64 y_13, .int .i64 y_14]) rfl rfl trivial rfl rfl rfl rfl St_closed ⟨57, #[], #[], rfl, callable_57, fun w hw => ⟨_, hw.sat, seam_near_walk hc101⟩⟩ ?_
          refine WO_pure tbok 5 [(0, .slice a_p0 p0.length c_p0), (2, .slice none 0 0), (3, .slice a23 ((l_3).length) c25), (4, .int .i64 s_4), (5, .slice a65 ((l_8).length) c67), (7, .int .i64 v_11), (8, .int .i64 y_13), (9, .int .i64 y_14), (30, .slice a59 ((v_7).length) c60), (31, .int .i64 ((v_7).length : Int)), (32, .int .i64 s_9)] rfl ⟨rfl, rfl, rfl, rfl, rfl, rfl, rfl, rfl, rfl, rfl, rfl, trivial⟩ ?_
          refine WO_end ?_
          refine WK_region ?_
          refine WO_pure tbok 5 [(0, .slice a_p0 p0.length c_p0), (2, .slice none 0 0), (3, .slice a23 ((l_3).length) c25), (4, .int .i64 s_4), (5, .slice a65 ((l_8).length) c67), (8, .int .i64 y_13), (9, .int .i64 y_14), (30, .slice a59 ((v_7).length) c60), (31, .int .i64 ((v_7).length : Int)), (32, .int .i64 s_9), (47, .slice a65 ((l_8).length) c67), (48, .int .i64 v_11), (49, .slice a23 ((l_3).length) c25), (51, .int .i64 (w64 (s_4 - 1)))] rfl ⟨rfl, rfl, rfl, rfl, rfl, rfl, rfl, rfl, rfl, rfl, rfl, rfl, rfl, rfl, trivial⟩ ?_
          obtain ⟨v_15, hy102, hm76⟩ := bind_some hm76
          obtain ⟨hc103, hy102⟩ := ix_some hy102
          refine WO_index tbok rfl rfl rfl rfl rfl rfl rfl rfl (OwnX.addr hL22) (by simpa using hc103) ?_
          refine WO_loadOX (E := V1) tbok (fun _ => rfl) 1 rfl rfl rfl rfl (fun _ h => h) hL22 rfl hy102 (fun cs hcs => ?_)
          obtain ⟨v0, rfl, h106⟩ := hcs
          obtain ⟨a104, c105, rfl, _⟩ := SlR.len h106
          refine ⟨_, rfl, ?_⟩
          refine WO_pure tbok 2 [(0, .slice a_p0 p0.length c_p0), (2, .slice none 0 0), (3, .slice a23 ((l_3).length) c25), (4, .int .i64 s_4), (5, .slice a65 ((l_8).length) c67), (30, .slice a59 ((v_7).length) c60), (31, .int .i64 ((v_7).length : Int)), (32, .int .i64 s_9), (47, .slice a65 ((l_8).length) c67), (48, .int .i64 v_11), (53, .slice a104 ((v_15).length) c105), (54, .int .i64 y_13), (55, .int .i64 y_14)] rfl ⟨rfl, rfl, rfl, rfl, rfl, rfl, rfl, rfl, rfl, rfl, rfl, rfl, rfl, trivial⟩ ?_
          obtain ⟨y_16, hc108, hm76⟩ := bind_some hm76
          refine WO_call0 (.int .i64 y_16) rfl rfl trivial rfl rfl rfl rfl St_closed ⟨59, #[], #[], rfl, callable_59, fun w hw => ⟨_, hw.sat, seam_least_walk h106 hc108⟩⟩ ?_
          refine WO_pure tbok 1 [(0, .slice a_p0 p0.length c_p0), (2, .slice none 0 0), (3, .slice a23 ((l_3).length) c25), (4, .int .i64 s_4), (5, .slice a65 ((l_8).length) c67), (30, .slice a59 ((v_7).length) c60), (31, .int .i64 ((v_7).length : Int)), (32, .int .i64 s_9), (47, .slice a65 ((l_8).length) c67), (57, .int .i64 (w64 (v_11 + y_16)))] rfl ⟨rfl, rfl, rfl, rfl, rfl, rfl, rfl, rfl, rfl, rfl, trivial⟩ ?_
          refine WO_bslice (E := (I1 .i64)) tbok (fun _ => rfl) (by decide) [.int .i64 (w64 (v_11 + y_16))] ([w64 (v_11 + y_16)] : List Int) rfl rfl trivial rfl rfl rfl rfl rfl rfl rfl rfl rfl rfl rfl rfl (fun b109 hb109 => ?_)
          refine WO.cls (C' := St w0 m m19 [[], L22, L64, [⟨b109, 3, ([w64 (v_11 + y_16)] : List Int).flatMap (I1 .i64)⟩]]) (fun _ h => h) ?_
          obtain ⟨hc111, hm76⟩ := chk_some hm76
          refine WO_append (E := (I1 .i64)) tbok (fun _ => rfl) 2 ([w64 (v_11 + y_16)] : List Int) (fun _ _ => rfl) rfl rfl rfl rfl rfl rfl rfl rfl rfl rfl rfl rfl hL64 rfl (src_seg (j := 3) rfl) (ap_ok (by decide) hc111) (ap_max hc111) (fun a112 c113 L114 hL114 => ?_)
          refine WO.cls (C' := St w0 m m19 [[], L22, L114, [⟨b109, 3, ([w64 (v_11 + y_16)] : List Int).flatMap (I1 .i64)⟩]]) (fun _ h => h) ?_
          refine WO_pure tbok 1 [(0, .slice a_p0 p0.length c_p0), (2, .slice none 0 0), (3, .slice a23 ((l_3).length) c25), (4, .int .i64 s_4), (5, .slice a112 ((l_8 ++ ([w64 (v_11 + y_16)] : List Int)).length) c113), (30, .slice a59 ((v_7).length) c60), (31, .int .i64 ((v_7).length : Int)), (32, .int .i64 s_9)] rfl ⟨rfl, rfl, rfl, rfl, rfl, rfl, rfl, rfl, trivial⟩ ?_
          refine WO_end ?_
          refine WK_blk ?_
          refine WK_region ?_
          refine WO_pure tbok 2 [(0, .slice a_p0 p0.length c_p0), (2, .slice none 0 0), (3, .slice a23 ((l_3).length) c25), (4, .int .i64 s_4), (5, .slice a112 ((l_8 ++ ([w64 (v_11 + y_16)] : List Int)).length) c113), (30, .slice a59 ((v_7).length) c60), (31, .int .i64 ((v_7).length : Int)), (32, .int .i64 (w64 (s_9 + 1)))] rfl ⟨rfl, rfl, rfl, rfl, rfl, rfl, rfl, rfl, trivial⟩ ?_
          refine WO_end ?_
          cases hm76
          refine WK.sub ?_ (WK.cls (fun _ h => St.take 3 h) (hn79 _ (a112, (l_8 ++ ([w64 (v_11 + y_16)] : List Int)).length, c113, L114) rfl hL114))
          exact ⟨rfl, rfl, rfl, rfl, rfl, rfl, rfl, rfl, trivial⟩
        · have hm76 := ifF hb92 hm76
          refine WK_exit rfl ?_
          cases hm76
          refine WK.sub ?_ (WK.cls (fun _ h => h) (hk75 (l_8, (a65, _, c67, L64)) ⟨(hd80 _ rfl), hL64⟩))
          exact ⟨rfl, rfl, rfl, rfl, rfl, trivial⟩
    · have hm36 := ifF hb45 hm36
      refine WK_exit rfl ?_
      cases hm36
      refine WK.sub ?_ (WK.cls (fun _ h => h) (hk35 (l_3, (m19, a23, _, c25, L22)) ⟨(hd40 _ rfl), hle20, hL22⟩))
      exact ⟨rfl, rfl, trivial⟩
def seam_Find_Q (r : List Int × Int × List (List Int) × Int) : Value → Mu → List Ent → Prop := fun v m L => ∃ (a0 : Option Addr) (q0 c0 : Nat) (a1 : Option Addr) (q1 c1 : Nat), v = .tuple #[.agg #[.slice a0 q0 c0, .int .i64 r.2.1, .slice a1 q1 c1], .int .i64 r.2.2.2] ∧ SlR (FE (I1 .i64)) 1 m (.slice a0 q0 c0) r.1 ∧ SlR (RowE (FE (I1 .i64)) 1) 1 m (.slice a1 q1 c1) r.2.2.1
theorem seam_Find_walk {m : Mu} {p0 : List (List Int)} {a_p0 : Option Addr} {q_p0 c_p0 : Nat} (h_p0 : SlR (RowE (FE (I1 .i64)) 1) 1 m (.slice a_p0 q_p0 c_p0) p0) {r : List Int × Int × List (List Int) × Int} (hm : seam_Find p0 = some r) :
    Go.E.Spec Try.prog 19 [.slice a_p0 q_p0 c_p0] m (seam_Find_Q r) := by
  refine Spec_enter Try.func19 rfl rfl rfl (fun w0 => ?_)
  refine WK.sub (e' := [(0, .slice a_p0 q_p0 c_p0)]) ⟨rfl, trivial⟩ ?_
  obtain rfl := SlR.qlen h_p0
  refine WK.sub (e' := [(0, .slice a_p0 p0.length c_p0)]) ⟨rfl, trivial⟩ ?_
  unfold seam_Find at hm
  refine WK_seq ?_
  refine WK_region ?_
  refine WO_alloc tbok [.slice none 0 0, .int .i64 0, .slice none 0 0] rfl rfl trivial rfl rfl rfl rfl (fun b2 => ?_)
  refine WO.cls (C' := St w0 m m [[⟨b2, 25, [.slice none 0 0, .int .i64 0, .slice none 0 0]⟩]]) (fun _ h => h) ?_
  refine WO_pure tbok 1 [(0, .slice a_p0 p0.length c_p0), (2, .pointer (some ⟨b2, 0, none⟩)), (3, .int .i64 0)] rfl ⟨rfl, rfl, rfl, trivial⟩ ?_
  refine WO_end ?_
  refine WK_seq ?_
  refine WK_seq ?_
  refine WK_region ?_
  refine WO_pure tbok 1 [(0, .slice a_p0 p0.length c_p0), (2, .pointer (some ⟨b2, 0, none⟩)), (3, .int .i64 0), (7, .slice a_p0 p0.length c_p0)] rfl ⟨rfl, rfl, rfl, rfl, trivial⟩ ?_
  obtain ⟨y_1, hc3, hm⟩ := bind_some hm
  refine WO_call0 (.int .i64 y_1) rfl rfl trivial rfl rfl rfl rfl St_closed ⟨25, #[], #[], rfl, callable_25, fun w hw => ⟨_, hw.sat, seam_Check_walk h_p0 hc3⟩⟩ ?_
  refine WO_pure tbok 1 [(0, .slice a_p0 p0.length c_p0), (2, .pointer (some ⟨b2, 0, none⟩)), (3, .int .i64 0), (4, .int .i64 y_1)] rfl ⟨rfl, rfl, rfl, rfl, trivial⟩ ?_
  refine WO_end ?_
  refine WK_seq ?_
  refine WK_region ?_
  refine WO_pure tbok 2 [(0, .slice a_p0 p0.length c_p0), (2, .pointer (some ⟨b2, 0, none⟩)), (3, .int .i64 0), (4, .int .i64 y_1), (10, .bool (y_1 != 0))] rfl ⟨rfl, rfl, rfl, rfl, rfl, trivial⟩ ?_
  refine WO_end ?_
  refine WK_cond (b := y_1 != 0) rfl (fun hb4 => ?_) (fun hb4 => ?_)
  · have hm := ifT hb4 hm
    refine WK_seq ?_
    refine WK_region ?_
    refine WO_pure tbok 2 [(0, .slice a_p0 p0.length c_p0), (2, .pointer (some ⟨b2, 0, none⟩)), (3, .int .i64 0), (11, .agg #[.slice none 0 0, .int .i64 0, .slice none 0 0]), (12, .int .i64 y_1)] rfl ⟨rfl, rfl, rfl, rfl, rfl, trivial⟩ ?_
    refine WO_storeB tbok 0 [.slice none 0 0, .int .i64 0, .slice none 0 0] rfl rfl rfl rfl rfl rfl rfl ?_
    refine WO.cls (C' := St w0 m m [[⟨b2, 25, [.slice none 0 0, .int .i64 0, .slice none 0 0]⟩]]) (fun _ h => h) ?_
    refine WO_pure tbok 1 [(0, .slice a_p0 p0.length c_p0), (2, .pointer (some ⟨b2, 0, none⟩)), (3, .int .i64 y_1)] rfl ⟨rfl, rfl, rfl, trivial⟩ ?_
    refine WO_end ?_
    cases hm
    exact WK_ret (ret_out (L := []) (RLc_cell tbok 0 rfl rfl rfl (RLc_tmp rfl RLc_nil)) (List.nil_sublist _) ⟨none, 0, 0, none, 0, 0, rfl, SlR_nil, SlR_nil⟩)
  · have hm := ifF hb4 hm
    refine WK_skip ?_
    refine WK_seq ?_
    refine WK_region ?_
    refine WO_pure tbok 1 [(0, .slice a_p0 p0.length c_p0), (2, .pointer (some ⟨b2, 0, none⟩)), (3, .int .i64 0), (14, .slice a_p0 p0.length c_p0)] rfl ⟨rfl, rfl, rfl, rfl, trivial⟩ ?_
    obtain ⟨⟨y_4, y_5⟩, hc5, hm⟩ := bind_some hm
    refine WO_call1 (seam_first_Q (y_4, y_5)) rfl rfl trivial rfl rfl rfl rfl ⟨44, #[], #[], rfl, callable_44, fun w hw => ⟨_, hw.sat, seam_first_walk h_p0 (fun m1 hm1 z_2 z_3 _ h => specV_cap callable_45 (seam_Find_c1_walk h)) hc5⟩⟩ (fun v10 L9 hq => ?_)
    obtain ⟨a6, qa6, c7, rfl, hL9⟩ := hq
    obtain rfl := OwnE.qlen hL9
    refine WO.cls (C' := St w0 m m [[⟨b2, 25, [.slice none 0 0, .int .i64 0, .slice none 0 0]⟩], L9]) (fun _ h => h) ?_
    refine WO_pure tbok 5 [(0, .slice a_p0 p0.length c_p0), (2, .pointer (some ⟨b2, 0, none⟩)), (3, .int .i64 0), (5, .slice a6 ((y_4).length) c7), (6, .int .i64 y_5)] rfl ⟨rfl, rfl, rfl, rfl, rfl, trivial⟩ ?_
    refine WO_end ?_
    refine WK_seq ?_
    refine WK_region ?_
    refine WO_pure tbok 3 [(2, .pointer (some ⟨b2, 0, none⟩)), (3, .int .i64 0), (18, .slice a6 ((y_4).length) c7), (19, .int .i64 y_5), (20, .slice a_p0 p0.length c_p0)] rfl ⟨rfl, rfl, rfl, rfl, rfl, trivial⟩ ?_
    obtain ⟨y_6, hc11, hm⟩ := bind_some hm
    refine WO_call2 (seam_downward_Q y_6) rfl rfl trivial rfl rfl rfl rfl ⟨46, #[], #[], rfl, callable_46, seam_downward_walk h_p0 hc11⟩ (fun v16 m17 L15 hle18 hq => ?_)
    obtain ⟨a12, qa12, c13, rfl, h19⟩ := hq
    obtain rfl := SlR.qlen h19
    refine WO.cls (C' := St w0 m m17 [[⟨b2, 25, [.slice none 0 0, .int .i64 0, .slice none 0 0]⟩], L9, L15]) (fun _ h => h.sub (by simp)) ?_
    refine WO_pure tbok 1 [(2, .pointer (some ⟨b2, 0, none⟩)), (3, .int .i64 0), (22, .agg #[.slice a6 ((y_4).length) c7, .int .i64 y_5, .slice a12 ((y_6).length) c13])] rfl ⟨rfl, rfl, rfl, trivial⟩ ?_
    refine WO_storeB tbok 0 [.slice a6 ((y_4).length) c7, .int .i64 y_5, .slice a12 ((y_6).length) c13] rfl rfl rfl rfl rfl rfl rfl ?_
    refine WO.cls (C' := St w0 m m17 [[⟨b2, 25, [.slice a6 ((y_4).length) c7, .int .i64 y_5, .slice a12 ((y_6).length) c13]⟩], L9, L15]) (fun _ h => h) ?_
    refine WO_pure tbok 1 [(2, .pointer (some ⟨b2, 0, none⟩)), (3, .int .i64 0)] rfl ⟨rfl, rfl, trivial⟩ ?_
    refine WO_end ?_
    cases hm
    refine WK_freeze 1 rfl (fun m20 hle21 hmm22 => ?_)
    refine WK.cls (C' := St w0 m m20 [[⟨b2, 25, [.slice a6 ((y_4).length) c7, .int .i64 y_5, .slice a12 ((y_6).length) c13]⟩], [], L15]) (fun _ h => h) ?_
    exact WK_ret (ret_out (L := []) (RLc_cell tbok 0 rfl rfl rfl (RLc_tmp rfl RLc_nil)) (List.nil_sublist _) ⟨a6, _, c7, a12, _, c13, rfl, (OwnE.rd (E := (I1 .i64)) (k := 1) (fun _ => rfl) hL9 hmm22), (h19.mono (mono_RowE (mono_FE _) _) hle21)⟩)
theorem raster_Check_c1_walk {m : Mu} {p0 : Int} {q0_0 : Int} {q0_1 : Int} {q0_2 : Int} {q0_3 : List Int} {a_q0_3 : Option Addr} {q_q0_3 c_q0_3 : Nat} {b_q0 : Nat} (hb_q0 : m b_q0 = some (Ent.obj ⟨b_q0, 50, [.int .i64 q0_0, .int .i64 q0_1, .int .i64 q0_2, .slice a_q0_3 q_q0_3 c_q0_3]⟩)) (h_q0_3 : SlR (FE (I1 .i64)) 1 m (.slice a_q0_3 q_q0_3 c_q0_3) q0_3) {r : Bool} (hm : raster_Check_c1 p0 q0_0 q0_1 q0_2 q0_3 = some r) :
    Go.E.Spec Try.prog 62 [.int .i64 p0, .pointer (some ⟨b_q0, 0, none⟩)] m (fun v _ _ => v = .bool r) := by
  refine Spec_enter Try.func62 rfl rfl rfl (fun w0 => ?_)
  refine WK.sub (e' := [(0, .int .i64 p0), (1, .pointer (some ⟨b_q0, 0, none⟩))]) ⟨rfl, rfl, trivial⟩ ?_
  obtain rfl := SlR.qlen h_q0_3
  refine WK.sub (e' := [(0, .int .i64 p0), (1, .pointer (some ⟨b_q0, 0, none⟩))]) ⟨rfl, rfl, trivial⟩ ?_
  unfold raster_Check_c1 at hm
  refine WK_seq ?_
  refine WK_region ?_
  refine WO_pure tbok 1 [(0, .int .i64 p0), (1, .pointer (some ⟨b_q0, 0, none⟩)), (3, .bool false)] rfl ⟨rfl, rfl, rfl, trivial⟩ ?_
  refine WO_end ?_
  refine WK_seq ?_
  refine WK_region ?_
  refine WO_pure tbok 3 [(0, .int .i64 p0), (1, .pointer (some ⟨b_q0, 0, none⟩)), (3, .bool false), (6, .bool (decide (p0 < 0)))] rfl ⟨rfl, rfl, rfl, rfl, trivial⟩ ?_
  refine WO_split (d := 6) (b := decide (p0 < 0)) rfl (fun hb2 => ?_) (fun hb2 => ?_)
  · have hm := ifT hb2 hm
    refine WO_pure tbok 6 [(3, .bool true)] rfl ⟨rfl, trivial⟩ ?_
    refine WO_end ?_
    cases hm
    exact WK_ret (ret_out (L := []) (RLc_tmp rfl RLc_nil) (List.nil_sublist _) rfl)
  · have hm := ifF hb2 hm
    refine WO_pure tbok 2 [(3, .bool false), (6, .bool false), (7, .int .i64 p0), (8, .pointer (some ⟨b_q0, 2, none⟩))] rfl ⟨rfl, rfl, rfl, rfl, trivial⟩ ?_
    refine WO_loadM tbok rfl rfl rfl rfl (fun _ h => St.sat h) hb_q0 rfl ?_
    refine WO_pure tbok 3 [(3, .bool (decide (q0_2 < p0)))] rfl ⟨rfl, trivial⟩ ?_
    refine WO_end ?_
    cases hm
    exact WK_ret (ret_out (L := []) (RLc_tmp rfl RLc_nil) (List.nil_sublist _) rfl)
theorem raster_Check_walk {m : Mu} {p0_0 : Int} {p0_1 : Int} {p0_2 : Int} {p0_3 : List Int} {a_p0_3 : Option Addr} {q_p0_3 c_p0_3 : Nat} (h_p0_3 : SlR (FE (I1 .i64)) 1 m (.slice a_p0_3 q_p0_3 c_p0_3) p0_3) {r : Int} (hm : raster_Check p0_0 p0_1 p0_2 p0_3 = some r) :
    Go.E.Spec Try.prog 61 [.agg #[.int .i64 p0_0, .int .i64 p0_1, .int .i64 p0_2, .slice a_p0_3 q_p0_3 c_p0_3]] m (fun v _ _ => v = .int .i64 r) := by
  refine Spec_enter Try.func61 rfl rfl rfl (fun w0 => ?_)
  refine WK.sub (e' := [(0, .agg #[.int .i64 p0_0, .int .i64 p0_1, .int .i64 p0_2, .slice a_p0_3 q_p0_3 c_p0_3])]) ⟨rfl, trivial⟩ ?_
  obtain rfl := SlR.qlen h_p0_3
  refine WK.sub (e' := [(0, .agg #[.int .i64 p0_0, .int .i64 p0_1, .int .i64 p0_2, .slice a_p0_3 p0_3.length c_p0_3])]) ⟨rfl, trivial⟩ ?_
  unfold raster_Check at hm
  refine WK_seq ?_
  refine WK_region ?_
  refine WO_box [.int .i64 p0_0, .int .i64 p0_1, .int .i64 p0_2, .slice a_p0_3 p0_3.length c_p0_3] rfl rfl trivial rfl rfl rfl (fun b2 => ?_)
  refine WO.cls (C' := St w0 m m [[⟨b2, 50, [.int .i64 p0_0, .int .i64 p0_1, .int .i64 p0_2, .slice a_p0_3 p0_3.length c_p0_3]⟩]]) (fun _ h => h) ?_
  refine WO_pure tbok 1 [(1, .pointer (some ⟨b2, 0, none⟩)), (2, .int .i64 0)] rfl ⟨rfl, rfl, trivial⟩ ?_
  refine WO_end ?_
  refine WK_seq ?_
  refine WK_seq ?_
  obtain ⟨s_1, hx3, hm⟩ := bind_some hm
  refine WK_meet [(1, .pointer (some ⟨b2, 0, none⟩)), (2, .int .i64 0), (34, .bool s_1)] (St w0 m m [[⟨b2, 50, [.int .i64 p0_0, .int .i64 p0_1, .int .i64 p0_2, .slice a_p0_3 p0_3.length c_p0_3]⟩]]) ?_ (fun hk4 => ?_)
  · refine WK_cond (b := s_1) rfl (fun hb5 => ?_) (fun hb5 => ?_)
    · have hm := ifT hb5 hm
      refine WK_seq ?_
      refine WK_region ?_
      refine WO_pure tbok 1 [(1, .pointer (some ⟨b2, 0, none⟩)), (2, .int .i64 1)] rfl ⟨rfl, rfl, trivial⟩ ?_
      refine WO_end ?_
      cases hm
      exact WK_ret (ret_out (L := []) (RLc_tmp rfl RLc_nil) (List.nil_sublist _) rfl)
    · have hm := ifF hb5 hm
      refine WK_skip ?_
      refine WK_seq ?_
      refine WK_seq ?_
      refine WK_region ?_
      refine WO_pure tbok 1 [(1, .pointer (some ⟨b2, 0, none⟩)), (2, .int .i64 0), (35, .pointer (some ⟨b2, 3, none⟩))] rfl ⟨rfl, rfl, rfl, trivial⟩ ?_
      refine WO_loadB tbok 0 rfl rfl rfl rfl (fun _ h => h) rfl rfl ?_
      refine WO_pure tbok 1 [(2, .int .i64 0), (36, .slice a_p0_3 p0_3.length c_p0_3), (37, .func (.func 62) #[] #[.pointer (some ⟨b2, 0, none⟩)])] rfl ⟨rfl, rfl, rfl, trivial⟩ ?_
      obtain ⟨y_3, hc6, hm⟩ := bind_some hm
      refine WO_call0 (.bool y_3) rfl rfl trivial rfl rfl rfl rfl St_closed ⟨13, #[], #[], rfl, callable_13, fun w hw => ⟨_, hw.satV, slices_ContainsFunc_sint_walk (h_p0_3.mono (mono_FE _) hw.leV) (fun m1 hm1 z_2 _ h => specV_cap callable_62 (raster_Check_c1_walk (hm1 _ _ (hw.memV (i := 0) rfl (List.mem_singleton.2 rfl))) ((h_p0_3.mono (mono_FE _) hw.leV).mono (mono_FE _) hm1) h)) hc6⟩⟩ ?_
      refine WO_end ?_
      refine WK_cond (b := y_3) rfl (fun hb7 => ?_) (fun hb7 => ?_)
      · have hm := ifT hb7 hm
        refine WK_seq ?_
        refine WK_region ?_
        refine WO_pure tbok 1 [(2, .int .i64 1)] rfl ⟨rfl, trivial⟩ ?_
        refine WO_end ?_
        cases hm
        exact WK_ret (ret_out (L := []) (RLc_tmp rfl RLc_nil) (List.nil_sublist _) rfl)
      · have hm := ifF hb7 hm
        refine WK_skip ?_
        refine WK_seq ?_
        refine WK_region ?_
        refine WO_pure tbok 1 [(2, .int .i64 0)] rfl ⟨rfl, trivial⟩ ?_
        refine WO_end ?_
        cases hm
        exact WK_ret (ret_out (L := []) (RLc_tmp rfl RLc_nil) (List.nil_sublist _) rfl)
  · refine WK_region ?_
    refine WO_pure tbok 1 [(1, .pointer (some ⟨b2, 0, none⟩)), (2, .int .i64 0), (3, .pointer (some ⟨b2, 0, none⟩))] rfl ⟨rfl, rfl, rfl, trivial⟩ ?_
    refine WO_loadB tbok 0 rfl rfl rfl rfl (fun _ h => h) rfl rfl ?_
    refine WO_pure tbok 1 [(1, .pointer (some ⟨b2, 0, none⟩)), (2, .int .i64 0), (4, .int .i64 p0_0), (5, .pointer (some ⟨b2, 1, none⟩))] rfl ⟨rfl, rfl, rfl, rfl, trivial⟩ ?_
    refine WO_loadB tbok 0 rfl rfl rfl rfl (fun _ h => h) rfl rfl ?_
    refine WO_pure tbok 1 [(1, .pointer (some ⟨b2, 0, none⟩)), (2, .int .i64 0), (4, .int .i64 p0_0), (6, .int .i64 p0_1), (7, .pointer (some ⟨b2, 2, none⟩))] rfl ⟨rfl, rfl, rfl, rfl, rfl, trivial⟩ ?_
    refine WO_loadB tbok 0 rfl rfl rfl rfl (fun _ h => h) rfl rfl ?_
    refine WO_pure tbok 3 [(1, .pointer (some ⟨b2, 0, none⟩)), (2, .int .i64 0), (11, .bool (decide ((if p0_2 < (if p0_1 < p0_0 then p0_1 else p0_0) then p0_2 else (if p0_1 < p0_0 then p0_1 else p0_0)) < 1)))] rfl ⟨rfl, rfl, rfl, trivial⟩ ?_
    refine WO_split (d := 11) (b := decide ((if p0_2 < (if p0_1 < p0_0 then p0_1 else p0_0) then p0_2 else (if p0_1 < p0_0 then p0_1 else p0_0)) < 1)) rfl (fun hb8 => ?_) (fun hb8 => ?_)
    · have hx3 := ifT hb8 hx3
      refine WO_pure tbok 23 [(1, .pointer (some ⟨b2, 0, none⟩)), (2, .int .i64 0), (34, .bool true)] rfl ⟨rfl, rfl, rfl, trivial⟩ ?_
      refine WO_end ?_
      cases hx3
      refine WK.sub ?_ (WK.cls (fun _ h => h) hk4)
      exact ⟨rfl, rfl, rfl, trivial⟩
    · have hx3 := ifF hb8 hx3
      refine WO_pure tbok 1 [(1, .pointer (some ⟨b2, 0, none⟩)), (2, .int .i64 0), (11, .bool false), (12, .pointer (some ⟨b2, 0, none⟩))] rfl ⟨rfl, rfl, rfl, rfl, trivial⟩ ?_
      refine WO_loadB tbok 0 rfl rfl rfl rfl (fun _ h => h) rfl rfl ?_
      refine WO_pure tbok 1 [(1, .pointer (some ⟨b2, 0, none⟩)), (2, .int .i64 0), (11, .bool false), (13, .int .i64 p0_0), (14, .pointer (some ⟨b2, 1, none⟩))] rfl ⟨rfl, rfl, rfl, rfl, rfl, trivial⟩ ?_
      refine WO_loadB tbok 0 rfl rfl rfl rfl (fun _ h => h) rfl rfl ?_
      refine WO_pure tbok 4 [(1, .pointer (some ⟨b2, 0, none⟩)), (2, .int .i64 0), (19, .bool (decide (64 < (if p0_0 < p0_1 then p0_1 else p0_0))))] rfl ⟨rfl, rfl, rfl, trivial⟩ ?_
      refine WO_split (d := 19) (b := decide (64 < (if p0_0 < p0_1 then p0_1 else p0_0))) rfl (fun hb9 => ?_) (fun hb9 => ?_)
      · have hx3 := ifT hb9 hx3
        refine WO_pure tbok 15 [(1, .pointer (some ⟨b2, 0, none⟩)), (2, .int .i64 0), (34, .bool true)] rfl ⟨rfl, rfl, rfl, trivial⟩ ?_
        refine WO_end ?_
        cases hx3
        refine WK.sub ?_ (WK.cls (fun _ h => h) hk4)
        exact ⟨rfl, rfl, rfl, trivial⟩
      · have hx3 := ifF hb9 hx3
        refine WO_pure tbok 1 [(1, .pointer (some ⟨b2, 0, none⟩)), (2, .int .i64 0), (19, .bool false), (20, .pointer (some ⟨b2, 2, none⟩))] rfl ⟨rfl, rfl, rfl, rfl, trivial⟩ ?_
        refine WO_loadB tbok 0 rfl rfl rfl rfl (fun _ h => h) rfl rfl ?_
        refine WO_pure tbok 3 [(1, .pointer (some ⟨b2, 0, none⟩)), (2, .int .i64 0), (24, .bool (decide (65535 < p0_2)))] rfl ⟨rfl, rfl, rfl, trivial⟩ ?_
        refine WO_split (d := 24) (b := decide (65535 < p0_2)) rfl (fun hb10 => ?_) (fun hb10 => ?_)
        · have hx3 := ifT hb10 hx3
          refine WO_pure tbok 10 [(1, .pointer (some ⟨b2, 0, none⟩)), (2, .int .i64 0), (34, .bool true)] rfl ⟨rfl, rfl, rfl, trivial⟩ ?_
          refine WO_end ?_
          cases hx3
          refine WK.sub ?_ (WK.cls (fun _ h => h) hk4)
          exact ⟨rfl, rfl, rfl, trivial⟩
        · have hx3 := ifF hb10 hx3
          refine WO_pure tbok 1 [(1, .pointer (some ⟨b2, 0, none⟩)), (2, .int .i64 0), (24, .bool false), (25, .pointer (some ⟨b2, 3, none⟩))] rfl ⟨rfl, rfl, rfl, rfl, trivial⟩ ?_
          refine WO_loadB tbok 0 rfl rfl rfl rfl (fun _ h => h) rfl rfl ?_
          refine WO_pure tbok 2 [(1, .pointer (some ⟨b2, 0, none⟩)), (2, .int .i64 0), (24, .bool false), (27, .int .i64 (p0_3.length : Int)), (28, .pointer (some ⟨b2, 0, none⟩))] rfl ⟨rfl, rfl, rfl, rfl, rfl, trivial⟩ ?_
          refine WO_loadB tbok 0 rfl rfl rfl rfl (fun _ h => h) rfl rfl ?_
          refine WO_pure tbok 1 [(1, .pointer (some ⟨b2, 0, none⟩)), (2, .int .i64 0), (24, .bool false), (27, .int .i64 (p0_3.length : Int)), (29, .int .i64 p0_0), (30, .pointer (some ⟨b2, 1, none⟩))] rfl ⟨rfl, rfl, rfl, rfl, rfl, rfl, trivial⟩ ?_
          refine WO_loadB tbok 0 rfl rfl rfl rfl (fun _ h => h) rfl rfl ?_
          refine WO_pure tbok 3 [(1, .pointer (some ⟨b2, 0, none⟩)), (2, .int .i64 0), (34, .bool ((p0_3.length : Int) != (w64 (p0_0 * p0_1))))] rfl ⟨rfl, rfl, rfl, trivial⟩ ?_
          refine WO_end ?_
          cases hx3
          refine WK.sub ?_ (WK.cls (fun _ h => h) hk4)
          exact ⟨rfl, rfl, rfl, trivial⟩
theorem seam_matched_walk {m : Mu} {p0_0 : Int} {p0_1 : Int} {p0_2 : Int} {p0_3 : List Int} {p1_0 : Int} {p1_1 : Int} {p1_2 : Int} {p1_3 : List Int} {a_p0_3 : Option Addr} {q_p0_3 c_p0_3 : Nat} {a_p1_3 : Option Addr} {q_p1_3 c_p1_3 : Nat} (h_p0_3 : SlR (FE (I1 .i64)) 1 m (.slice a_p0_3 q_p0_3 c_p0_3) p0_3) (h_p1_3 : SlR (FE (I1 .i64)) 1 m (.slice a_p1_3 q_p1_3 c_p1_3) p1_3) {r : Int} (hm : seam_matched p0_0 p0_1 p0_2 p0_3 p1_0 p1_1 p1_2 p1_3 = some r) :
    Go.E.Spec Try.prog 51 [.agg #[.int .i64 p0_0, .int .i64 p0_1, .int .i64 p0_2, .slice a_p0_3 q_p0_3 c_p0_3], .agg #[.int .i64 p1_0, .int .i64 p1_1, .int .i64 p1_2, .slice a_p1_3 q_p1_3 c_p1_3]] m (fun v _ _ => v = .int .i64 r) := by
  refine Spec_enter Try.func51 rfl rfl rfl (fun w0 => ?_)
  refine WK.sub (e' := [(0, .agg #[.int .i64 p0_0, .int .i64 p0_1, .int .i64 p0_2, .slice a_p0_3 q_p0_3 c_p0_3]), (1, .agg #[.int .i64 p1_0, .int .i64 p1_1, .int .i64 p1_2, .slice a_p1_3 q_p1_3 c_p1_3])]) ⟨rfl, rfl, trivial⟩ ?_
  obtain rfl := SlR.qlen h_p0_3
  obtain rfl := SlR.qlen h_p1_3
  refine WK.sub (e' := [(0, .agg #[.int .i64 p0_0, .int .i64 p0_1, .int .i64 p0_2, .slice a_p0_3 p0_3.length c_p0_3]), (1, .agg #[.int .i64 p1_0, .int .i64 p1_1, .int .i64 p1_2, .slice a_p1_3 p1_3.length c_p1_3])]) ⟨rfl, rfl, trivial⟩ ?_
  unfold seam_matched at hm
  refine WK_seq ?_
  refine WK_region ?_
  refine WO_box [.int .i64 p0_0, .int .i64 p0_1, .int .i64 p0_2, .slice a_p0_3 p0_3.length c_p0_3] rfl rfl trivial rfl rfl rfl (fun b3 => ?_)
  refine WO.cls (C' := St w0 m m [[⟨b3, 50, [.int .i64 p0_0, .int .i64 p0_1, .int .i64 p0_2, .slice a_p0_3 p0_3.length c_p0_3]⟩]]) (fun _ h => h) ?_
  refine WO_box [.int .i64 p1_0, .int .i64 p1_1, .int .i64 p1_2, .slice a_p1_3 p1_3.length c_p1_3] rfl rfl trivial rfl rfl rfl (fun b4 => ?_)
  refine WO.cls (C' := St w0 m m [[⟨b3, 50, [.int .i64 p0_0, .int .i64 p0_1, .int .i64 p0_2, .slice a_p0_3 p0_3.length c_p0_3]⟩], [⟨b4, 50, [.int .i64 p1_0, .int .i64 p1_1, .int .i64 p1_2, .slice a_p1_3 p1_3.length c_p1_3]⟩]]) (fun _ h => h) ?_
  refine WO_pure tbok 1 [(2, .pointer (some ⟨b3, 0, none⟩)), (3, .pointer (some ⟨b4, 0, none⟩)), (4, .int .i64 0)] rfl ⟨rfl, rfl, rfl, trivial⟩ ?_
  refine WO_end ?_
  refine WK_seq ?_
  refine WK_seq ?_
  refine WK_region ?_
  refine WO_loadB tbok 0 rfl rfl rfl rfl (fun _ h => h) rfl rfl ?_
  refine WO_loadB tbok 1 rfl rfl rfl rfl (fun _ h => h) rfl rfl ?_
  refine WO_bsliceX (E := V4) (El := El50) tbok (fun _ => rfl) (by decide) [.agg #[.int .i64 p0_0, .int .i64 p0_1, .int .i64 p0_2, .slice a_p0_3 p0_3.length c_p0_3], .agg #[.int .i64 p1_0, .int .i64 p1_1, .int .i64 p1_2, .slice a_p1_3 p1_3.length c_p1_3]] [(.int .i64 p0_0, .int .i64 p0_1, .int .i64 p0_2, .slice a_p0_3 p0_3.length c_p0_3), (.int .i64 p1_0, .int .i64 p1_1, .int .i64 p1_2, .slice a_p1_3 p1_3.length c_p1_3)] ([(p0_0, p0_1, p0_2, p0_3), (p1_0, p1_1, p1_2, p1_3)] : List (Int × Int × Int × List Int)) rfl rfl trivial rfl rfl rfl rfl rfl rfl rfl rfl rfl rfl rfl rfl ⟨⟨_, _, _, rfl, h_p0_3⟩, ⟨_, _, _, rfl, h_p1_3⟩, trivial⟩ (fun b5 hb5 => ?_)
  refine WO.cls (C' := St w0 m m [[⟨b3, 50, [.int .i64 p0_0, .int .i64 p0_1, .int .i64 p0_2, .slice a_p0_3 p0_3.length c_p0_3]⟩], [⟨b4, 50, [.int .i64 p1_0, .int .i64 p1_1, .int .i64 p1_2, .slice a_p1_3 p1_3.length c_p1_3]⟩], [⟨b5, 50, [.int .i64 p0_0, .int .i64 p0_1, .int .i64 p0_2, .slice a_p0_3 p0_3.length c_p0_3, .int .i64 p1_0, .int .i64 p1_1, .int .i64 p1_2, .slice a_p1_3 p1_3.length c_p1_3]⟩]]) (fun _ h => h) ?_
  refine WO_pure tbok 2 [(2, .pointer (some ⟨b3, 0, none⟩)), (3, .pointer (some ⟨b4, 0, none⟩)), (4, .int .i64 0), (10, .slice (some ⟨b5, 0, none⟩) 2 2), (11, .int .i64 2), (12, .int .i64 0)] rfl ⟨rfl, rfl, rfl, rfl, rfl, rfl, trivial⟩ ?_
  refine WO_end ?_
  obtain ⟨x7, hx8, hm⟩ := bind_some hm
  refine WK_join (β := Unit × Unit) (fun p => Sum.inr p.1 = x7) (fun p => [(2, .pointer (some ⟨b3, 0, none⟩)), (3, .pointer (some ⟨b4, 0, none⟩)), (4, .int .i64 0)]) (fun p => St w0 m m [[⟨b3, 50, [.int .i64 p0_0, .int .i64 p0_1, .int .i64 p0_2, .slice a_p0_3 p0_3.length c_p0_3]⟩], [⟨b4, 50, [.int .i64 p1_0, .int .i64 p1_1, .int .i64 p1_2, .slice a_p1_3 p1_3.length c_p1_3]⟩], [⟨b5, 50, [.int .i64 p0_0, .int .i64 p0_1, .int .i64 p0_2, .slice a_p0_3 p0_3.length c_p0_3, .int .i64 p1_0, .int .i64 p1_1, .int .i64 p1_2, .slice a_p1_3 p1_3.length c_p1_3]⟩]]) ?_ (fun hk9 => ?_)
  · rintro ⟨⟨⟩, ⟨⟩⟩ hq15
    subst hq15
    refine WK.sub (e' := [(2, .pointer (some ⟨b3, 0, none⟩)), (3, .pointer (some ⟨b4, 0, none⟩)), (4, .int .i64 0)]) ⟨rfl, rfl, rfl, trivial⟩ (WK.cls (C' := St w0 m m [[⟨b3, 50, [.int .i64 p0_0, .int .i64 p0_1, .int .i64 p0_2, .slice a_p0_3 p0_3.length c_p0_3]⟩], [⟨b4, 50, [.int .i64 p1_0, .int .i64 p1_1, .int .i64 p1_2, .slice a_p1_3 p1_3.length c_p1_3]⟩], [⟨b5, 50, [.int .i64 p0_0, .int .i64 p0_1, .int .i64 p0_2, .slice a_p0_3 p0_3.length c_p0_3, .int .i64 p1_0, .int .i64 p1_1, .int .i64 p1_2, .slice a_p1_3 p1_3.length c_p1_3]⟩]]) (fun _ h => h) ?_)
    refine WK_seq ?_
    refine WK_seq ?_
    obtain ⟨s_2, hx16, hm⟩ := bind_some hm
    refine WK_meet [(4, .int .i64 0), (40, .bool s_2)] (St w0 m m [[⟨b3, 50, [.int .i64 p0_0, .int .i64 p0_1, .int .i64 p0_2, .slice a_p0_3 p0_3.length c_p0_3]⟩], [⟨b4, 50, [.int .i64 p1_0, .int .i64 p1_1, .int .i64 p1_2, .slice a_p1_3 p1_3.length c_p1_3]⟩], [⟨b5, 50, [.int .i64 p0_0, .int .i64 p0_1, .int .i64 p0_2, .slice a_p0_3 p0_3.length c_p0_3, .int .i64 p1_0, .int .i64 p1_1, .int .i64 p1_2, .slice a_p1_3 p1_3.length c_p1_3]⟩]]) ?_ (fun hk17 => ?_)
    · refine WK_cond (b := s_2) rfl (fun hb18 => ?_) (fun hb18 => ?_)
      · have hm := ifT hb18 hm
        refine WK_seq ?_
        refine WK_region ?_
        refine WO_pure tbok 1 [(4, .int .i64 4)] rfl ⟨rfl, trivial⟩ ?_
        refine WO_end ?_
        cases hm
        exact WK_ret (ret_out (L := []) (RLc_tmp rfl RLc_nil) (List.nil_sublist _) rfl)
      · have hm := ifF hb18 hm
        refine WK_skip ?_
        refine WK_seq ?_
        refine WK_region ?_
        refine WO_pure tbok 1 [(4, .int .i64 0)] rfl ⟨rfl, trivial⟩ ?_
        refine WO_end ?_
        cases hm
        exact WK_ret (ret_out (L := []) (RLc_tmp rfl RLc_nil) (List.nil_sublist _) rfl)
    · refine WK_region ?_
      refine WO_pure tbok 1 [(2, .pointer (some ⟨b3, 0, none⟩)), (3, .pointer (some ⟨b4, 0, none⟩)), (4, .int .i64 0), (22, .pointer (some ⟨b3, 0, none⟩))] rfl ⟨rfl, rfl, rfl, rfl, trivial⟩ ?_
      refine WO_loadB tbok 0 rfl rfl rfl rfl (fun _ h => h) rfl rfl ?_
      refine WO_pure tbok 1 [(2, .pointer (some ⟨b3, 0, none⟩)), (3, .pointer (some ⟨b4, 0, none⟩)), (4, .int .i64 0), (23, .int .i64 p0_0), (24, .pointer (some ⟨b4, 0, none⟩))] rfl ⟨rfl, rfl, rfl, rfl, rfl, trivial⟩ ?_
      refine WO_loadB tbok 1 rfl rfl rfl rfl (fun _ h => h) rfl rfl ?_
      refine WO_pure tbok 2 [(2, .pointer (some ⟨b3, 0, none⟩)), (3, .pointer (some ⟨b4, 0, none⟩)), (4, .int .i64 0), (27, .bool (p0_0 != p1_0))] rfl ⟨rfl, rfl, rfl, rfl, trivial⟩ ?_
      refine WO_split (d := 27) (b := p0_0 != p1_0) rfl (fun hb19 => ?_) (fun hb19 => ?_)
      · have hx16 := ifT hb19 hx16
        refine WO_pure tbok 13 [(4, .int .i64 0), (40, .bool true)] rfl ⟨rfl, rfl, trivial⟩ ?_
        refine WO_end ?_
        cases hx16
        refine WK.sub ?_ (WK.cls (fun _ h => h) hk17)
        exact ⟨rfl, rfl, trivial⟩
      · have hx16 := ifF hb19 hx16
        refine WO_pure tbok 1 [(2, .pointer (some ⟨b3, 0, none⟩)), (3, .pointer (some ⟨b4, 0, none⟩)), (4, .int .i64 0), (27, .bool false), (28, .pointer (some ⟨b3, 1, none⟩))] rfl ⟨rfl, rfl, rfl, rfl, rfl, trivial⟩ ?_
        refine WO_loadB tbok 0 rfl rfl rfl rfl (fun _ h => h) rfl rfl ?_
        refine WO_pure tbok 1 [(2, .pointer (some ⟨b3, 0, none⟩)), (3, .pointer (some ⟨b4, 0, none⟩)), (4, .int .i64 0), (27, .bool false), (29, .int .i64 p0_1), (30, .pointer (some ⟨b4, 1, none⟩))] rfl ⟨rfl, rfl, rfl, rfl, rfl, rfl, trivial⟩ ?_
        refine WO_loadB tbok 1 rfl rfl rfl rfl (fun _ h => h) rfl rfl ?_
        refine WO_pure tbok 3 [(2, .pointer (some ⟨b3, 0, none⟩)), (3, .pointer (some ⟨b4, 0, none⟩)), (4, .int .i64 0), (34, .bool (p0_1 != p1_1))] rfl ⟨rfl, rfl, rfl, rfl, trivial⟩ ?_
        refine WO_split (d := 34) (b := p0_1 != p1_1) rfl (fun hb20 => ?_) (fun hb20 => ?_)
        · have hx16 := ifT hb20 hx16
          refine WO_pure tbok 6 [(4, .int .i64 0), (40, .bool true)] rfl ⟨rfl, rfl, trivial⟩ ?_
          refine WO_end ?_
          cases hx16
          refine WK.sub ?_ (WK.cls (fun _ h => h) hk17)
          exact ⟨rfl, rfl, trivial⟩
        · have hx16 := ifF hb20 hx16
          refine WO_pure tbok 1 [(3, .pointer (some ⟨b4, 0, none⟩)), (4, .int .i64 0), (34, .bool false), (35, .pointer (some ⟨b3, 2, none⟩))] rfl ⟨rfl, rfl, rfl, rfl, trivial⟩ ?_
          refine WO_loadB tbok 0 rfl rfl rfl rfl (fun _ h => h) rfl rfl ?_
          refine WO_pure tbok 1 [(4, .int .i64 0), (34, .bool false), (36, .int .i64 p0_2), (37, .pointer (some ⟨b4, 2, none⟩))] rfl ⟨rfl, rfl, rfl, rfl, trivial⟩ ?_
          refine WO_loadB tbok 1 rfl rfl rfl rfl (fun _ h => h) rfl rfl ?_
          refine WO_pure tbok 2 [(4, .int .i64 0), (40, .bool (p0_2 != p1_2))] rfl ⟨rfl, rfl, trivial⟩ ?_
          refine WO_end ?_
          cases hx16
          refine WK.sub ?_ (WK.cls (fun _ h => h) hk17)
          exact ⟨rfl, rfl, trivial⟩
  · refine WK_block ?_
    refine WK_loop (S := Int) (G := Unit) (fun s => seam_matched_s1 p0_0 p0_1 p0_2 p0_3 p1_0 p1_1 p1_2 p1_3 s) (fun s g => [(2, .pointer (some ⟨b3, 0, none⟩)), (3, .pointer (some ⟨b4, 0, none⟩)), (4, .int .i64 0), (10, .slice (some ⟨b5, 0, none⟩) 2 2), (11, .int .i64 2), (12, .int .i64 s)]) (fun s g => St w0 m m [[⟨b3, 50, [.int .i64 p0_0, .int .i64 p0_1, .int .i64 p0_2, .slice a_p0_3 p0_3.length c_p0_3]⟩], [⟨b4, 50, [.int .i64 p1_0, .int .i64 p1_1, .int .i64 p1_2, .slice a_p1_3 p1_3.length c_p1_3]⟩], [⟨b5, 50, [.int .i64 p0_0, .int .i64 p0_1, .int .i64 p0_2, .slice a_p0_3 p0_3.length c_p0_3, .int .i64 p1_0, .int .i64 p1_1, .int .i64 p1_2, .slice a_p1_3 p1_3.length c_p1_3]⟩]]) (fun s g => True) FUEL 0 () x7 hx8 trivial ⟨rfl, rfl, rfl, rfl, rfl, rfl, trivial⟩ (fun _ h => h) ?_
    rintro s_1 ⟨⟩ o11 fl12 hm10 - hn13 hd14
    have hm10 : seam_matched_s1 p0_0 p0_1 p0_2 p0_3 p1_0 p1_1 p1_2 p1_3 s_1 = some o11 := hm10
    unfold seam_matched_s1 at hm10
    refine WK.sub (e' := [(2, .pointer (some ⟨b3, 0, none⟩)), (3, .pointer (some ⟨b4, 0, none⟩)), (4, .int .i64 0), (10, .slice (some ⟨b5, 0, none⟩) 2 2), (11, .int .i64 2), (12, .int .i64 s_1)]) ⟨rfl, rfl, rfl, rfl, rfl, rfl, trivial⟩ (WK.cls (C' := St w0 m m [[⟨b3, 50, [.int .i64 p0_0, .int .i64 p0_1, .int .i64 p0_2, .slice a_p0_3 p0_3.length c_p0_3]⟩], [⟨b4, 50, [.int .i64 p1_0, .int .i64 p1_1, .int .i64 p1_2, .slice a_p1_3 p1_3.length c_p1_3]⟩], [⟨b5, 50, [.int .i64 p0_0, .int .i64 p0_1, .int .i64 p0_2, .slice a_p0_3 p0_3.length c_p0_3, .int .i64 p1_0, .int .i64 p1_1, .int .i64 p1_2, .slice a_p1_3 p1_3.length c_p1_3]⟩]]) (fun _ h => h) ?_)
    refine WK_seq ?_
    refine WK_region ?_
    refine WO_pure tbok 1 [(2, .pointer (some ⟨b3, 0, none⟩)), (3, .pointer (some ⟨b4, 0, none⟩)), (4, .int .i64 0), (10, .slice (some ⟨b5, 0, none⟩) 2 2), (11, .int .i64 2), (12, .int .i64 s_1), (13, .bool (decide (s_1 < 2)))] rfl ⟨rfl, rfl, rfl, rfl, rfl, rfl, rfl, trivial⟩ ?_
    refine WO_end ?_
    refine WK_seq ?_
    refine WK_cond (b := decide (s_1 < 2)) rfl (fun hb21 => ?_) (fun hb21 => ?_)
    · have hm10 := ifT hb21 hm10
      refine WK_skip ?_
      refine WK_seq ?_
      refine WK_block ?_
      refine WK_seq ?_
      refine WK_region ?_
      obtain ⟨v_3, hy22, hm10⟩ := bind_some hm10
      obtain ⟨hc23, hy22⟩ := ix_some hy22
      refine WO_index tbok rfl rfl rfl rfl rfl rfl rfl rfl (OwnX.addr hb5) (by simpa using hc23) ?_
      refine WO_loadOX (E := V4) tbok (fun _ => rfl) 2 rfl rfl rfl rfl (fun _ h => h) hb5 rfl hy22 (fun cs hcs => ?_)
      obtain ⟨a24, qa24, c25, rfl, h26⟩ := hcs
      obtain rfl := SlR.qlen h26
      refine ⟨_, rfl, ?_⟩
      refine WO_alloc tbok [.int .i64 0, .int .i64 0, .int .i64 0, .slice none 0 0] rfl rfl trivial rfl rfl rfl rfl (fun b28 => ?_)
      refine WO.cls (C' := St w0 m m [[⟨b3, 50, [.int .i64 p0_0, .int .i64 p0_1, .int .i64 p0_2, .slice a_p0_3 p0_3.length c_p0_3]⟩], [⟨b4, 50, [.int .i64 p1_0, .int .i64 p1_1, .int .i64 p1_2, .slice a_p1_3 p1_3.length c_p1_3]⟩], [⟨b5, 50, [.int .i64 p0_0, .int .i64 p0_1, .int .i64 p0_2, .slice a_p0_3 p0_3.length c_p0_3, .int .i64 p1_0, .int .i64 p1_1, .int .i64 p1_2, .slice a_p1_3 p1_3.length c_p1_3]⟩], [⟨b28, 50, [.int .i64 0, .int .i64 0, .int .i64 0, .slice none 0 0]⟩]]) (fun _ h => h) ?_
      refine WO_storeB tbok 3 [.int .i64 v_3.1, .int .i64 v_3.2.1, .int .i64 v_3.2.2.1, .slice a24 ((v_3.2.2.2).length) c25] rfl rfl rfl rfl rfl rfl rfl ?_
      refine WO.cls (C' := St w0 m m [[⟨b3, 50, [.int .i64 p0_0, .int .i64 p0_1, .int .i64 p0_2, .slice a_p0_3 p0_3.length c_p0_3]⟩], [⟨b4, 50, [.int .i64 p1_0, .int .i64 p1_1, .int .i64 p1_2, .slice a_p1_3 p1_3.length c_p1_3]⟩], [⟨b5, 50, [.int .i64 p0_0, .int .i64 p0_1, .int .i64 p0_2, .slice a_p0_3 p0_3.length c_p0_3, .int .i64 p1_0, .int .i64 p1_1, .int .i64 p1_2, .slice a_p1_3 p1_3.length c_p1_3]⟩], [⟨b28, 50, [.int .i64 v_3.1, .int .i64 v_3.2.1, .int .i64 v_3.2.2.1, .slice a24 ((v_3.2.2.2).length) c25]⟩]]) (fun _ h => h) ?_
      refine WO_end ?_
      refine WK_seq ?_
      refine WK_region ?_
      refine WO_loadB tbok 3 rfl rfl rfl rfl (fun _ h => h) rfl rfl ?_
      obtain ⟨y_4, hc29, hm10⟩ := bind_some hm10
      refine WO_call0 (.int .i64 y_4) rfl rfl trivial rfl rfl rfl rfl St_closed ⟨61, #[], #[], rfl, callable_61, fun w hw => ⟨_, hw.sat, raster_Check_walk h26 hc29⟩⟩ ?_
      refine WO_pure tbok 1 [(2, .pointer (some ⟨b3, 0, none⟩)), (3, .pointer (some ⟨b4, 0, none⟩)), (4, .int .i64 0), (7, .int .i64 y_4), (10, .slice (some ⟨b5, 0, none⟩) 2 2), (11, .int .i64 2), (12, .int .i64 s_1)] rfl ⟨rfl, rfl, rfl, rfl, rfl, rfl, rfl, trivial⟩ ?_
      refine WO_end ?_
      refine WK_seq ?_
      refine WK_region ?_
      refine WO_pure tbok 2 [(2, .pointer (some ⟨b3, 0, none⟩)), (3, .pointer (some ⟨b4, 0, none⟩)), (4, .int .i64 0), (7, .int .i64 y_4), (10, .slice (some ⟨b5, 0, none⟩) 2 2), (11, .int .i64 2), (12, .int .i64 s_1), (19, .bool (y_4 != 0))] rfl ⟨rfl, rfl, rfl, rfl, rfl, rfl, rfl, rfl, trivial⟩ ?_
      refine WO_end ?_
      refine WK_cond (b := y_4 != 0) rfl (fun hb30 => ?_) (fun hb30 => ?_)
      · have hm10 := ifT hb30 hm10
        refine WK_seq ?_
        refine WK_region ?_
        refine WO_pure tbok 2 [(2, .pointer (some ⟨b3, 0, none⟩)), (3, .pointer (some ⟨b4, 0, none⟩)), (4, .int .i64 y_4), (10, .slice (some ⟨b5, 0, none⟩) 2 2), (11, .int .i64 2), (12, .int .i64 s_1)] rfl ⟨rfl, rfl, rfl, rfl, rfl, rfl, trivial⟩ ?_
        refine WO_end ?_
        cases hm10
        have hq := hd14 _ rfl
        subst hq
        have hm : some _ = some _ := hm
        cases hm
        exact WK_ret (ret_out (L := []) (RLc_tmp rfl RLc_nil) (List.nil_sublist _) rfl)
      · have hm10 := ifF hb30 hm10
        refine WK_skip ?_
        refine WK_blk ?_
        refine WK_region ?_
        refine WO_pure tbok 2 [(2, .pointer (some ⟨b3, 0, none⟩)), (3, .pointer (some ⟨b4, 0, none⟩)), (4, .int .i64 0), (10, .slice (some ⟨b5, 0, none⟩) 2 2), (11, .int .i64 2), (12, .int .i64 (w64 (s_1 + 1)))] rfl ⟨rfl, rfl, rfl, rfl, rfl, rfl, trivial⟩ ?_
        refine WO_end ?_
        cases hm10
        refine WK.sub ?_ (WK.cls (fun _ h => St.take 3 h) (hn13 _ () rfl trivial))
        exact ⟨rfl, rfl, rfl, rfl, rfl, rfl, trivial⟩
    · have hm10 := ifF hb21 hm10
      refine WK_exit rfl ?_
      cases hm10
      refine WK.sub ?_ (WK.cls (fun _ h => h) (hk9 ((), ()) (hd14 _ rfl)))
      exact ⟨rfl, rfl, rfl, trivial⟩
theorem seam_Mosaic_c1_walk {m : Mu} {p0 : Int} {q0_0 : Int} {q0_1 : Int} {q0_2 : Int} {q0_3 : List Int} {a_q0_3 : Option Addr} {q_q0_3 c_q0_3 : Nat} {b_q0 : Nat} (hb_q0 : m b_q0 = some (Ent.obj ⟨b_q0, 50, [.int .i64 q0_0, .int .i64 q0_1, .int .i64 q0_2, .slice a_q0_3 q_q0_3 c_q0_3]⟩)) (h_q0_3 : SlR (FE (I1 .i64)) 1 m (.slice a_q0_3 q_q0_3 c_q0_3) q0_3) {r : Bool} (hm : seam_Mosaic_c1 p0 q0_0 q0_1 q0_2 q0_3 = some r) :
    Go.E.Spec Try.prog 52 [.int .i64 p0, .pointer (some ⟨b_q0, 0, none⟩)] m (fun v _ _ => v = .bool r) := by
  refine Spec_enter Try.func52 rfl rfl rfl (fun w0 => ?_)
  refine WK.sub (e' := [(0, .int .i64 p0), (1, .pointer (some ⟨b_q0, 0, none⟩))]) ⟨rfl, rfl, trivial⟩ ?_
  obtain rfl := SlR.qlen h_q0_3
  refine WK.sub (e' := [(0, .int .i64 p0), (1, .pointer (some ⟨b_q0, 0, none⟩))]) ⟨rfl, rfl, trivial⟩ ?_
  unfold seam_Mosaic_c1 at hm
  refine WK_seq ?_
  refine WK_region ?_
  refine WO_pure tbok 1 [(0, .int .i64 p0), (1, .pointer (some ⟨b_q0, 0, none⟩)), (3, .bool false)] rfl ⟨rfl, rfl, rfl, trivial⟩ ?_
  refine WO_end ?_
  refine WK_seq ?_
  refine WK_region ?_
  refine WO_pure tbok 3 [(0, .int .i64 p0), (1, .pointer (some ⟨b_q0, 0, none⟩)), (3, .bool false), (6, .bool (decide (p0 < 0)))] rfl ⟨rfl, rfl, rfl, rfl, trivial⟩ ?_
  refine WO_split (d := 6) (b := decide (p0 < 0)) rfl (fun hb2 => ?_) (fun hb2 => ?_)
  · have hm := ifT hb2 hm
    refine WO_pure tbok 6 [(3, .bool true)] rfl ⟨rfl, trivial⟩ ?_
    refine WO_end ?_
    cases hm
    exact WK_ret (ret_out (L := []) (RLc_tmp rfl RLc_nil) (List.nil_sublist _) rfl)
  · have hm := ifF hb2 hm
    refine WO_pure tbok 2 [(3, .bool false), (6, .bool false), (7, .int .i64 p0), (8, .pointer (some ⟨b_q0, 0, none⟩))] rfl ⟨rfl, rfl, rfl, rfl, trivial⟩ ?_
    refine WO_loadM tbok rfl rfl rfl rfl (fun _ h => St.sat h) hb_q0 rfl ?_
    refine WO_pure tbok 3 [(3, .bool (decide (q0_0 < p0)))] rfl ⟨rfl, trivial⟩ ?_
    refine WO_end ?_
    cases hm
    exact WK_ret (ret_out (L := []) (RLc_tmp rfl RLc_nil) (List.nil_sublist _) rfl)
def seam_Mosaic_Q (r : Int × Int × Int × List Int × Int) : Value → List Ent → Prop := fun v L => ∃ (a0 : Option Addr) (q0 c0 : Nat), v = .tuple #[.agg #[.int .i64 r.1, .int .i64 r.2.1, .int .i64 r.2.2.1, .slice a0 q0 c0], .int .i64 r.2.2.2.2] ∧ OwnE 3 1 (I1 .i64) (.slice a0 q0 c0) r.2.2.2.1 L
theorem seam_Mosaic_walk {m : Mu} {p0_0 : Int} {p0_1 : Int} {p0_2 : Int} {p0_3 : List Int} {p1_0 : Int} {p1_1 : Int} {p1_2 : Int} {p1_3 : List Int} {p2 : List Int} {a_p0_3 : Option Addr} {q_p0_3 c_p0_3 : Nat} {a_p1_3 : Option Addr} {q_p1_3 c_p1_3 : Nat} {a_p2 : Option Addr} {q_p2 c_p2 : Nat} (h_p0_3 : SlR (FE (I1 .i64)) 1 m (.slice a_p0_3 q_p0_3 c_p0_3) p0_3) (h_p1_3 : SlR (FE (I1 .i64)) 1 m (.slice a_p1_3 q_p1_3 c_p1_3) p1_3) (h_p2 : SlR (FE (I1 .i64)) 1 m (.slice a_p2 q_p2 c_p2) p2) {r : Int × Int × Int × List Int × Int} (hm : seam_Mosaic p0_0 p0_1 p0_2 p0_3 p1_0 p1_1 p1_2 p1_3 p2 = some r) :
    Go.E.Spec Try.prog 30 [.agg #[.int .i64 p0_0, .int .i64 p0_1, .int .i64 p0_2, .slice a_p0_3 q_p0_3 c_p0_3], .agg #[.int .i64 p1_0, .int .i64 p1_1, .int .i64 p1_2, .slice a_p1_3 q_p1_3 c_p1_3], .slice a_p2 q_p2 c_p2] m (fun v _ L => seam_Mosaic_Q r v L) := by
  refine Spec_enter Try.func30 rfl rfl rfl (fun w0 => ?_)
  refine WK.sub (e' := [(0, .agg #[.int .i64 p0_0, .int .i64 p0_1, .int .i64 p0_2, .slice a_p0_3 q_p0_3 c_p0_3]), (1, .agg #[.int .i64 p1_0, .int .i64 p1_1, .int .i64 p1_2, .slice a_p1_3 q_p1_3 c_p1_3]), (2, .slice a_p2 q_p2 c_p2)]) ⟨rfl, rfl, rfl, trivial⟩ ?_
  obtain rfl := SlR.qlen h_p0_3
  obtain rfl := SlR.qlen h_p1_3
  obtain rfl := SlR.qlen h_p2
  refine WK.sub (e' := [(0, .agg #[.int .i64 p0_0, .int .i64 p0_1, .int .i64 p0_2, .slice a_p0_3 p0_3.length c_p0_3]), (1, .agg #[.int .i64 p1_0, .int .i64 p1_1, .int .i64 p1_2, .slice a_p1_3 p1_3.length c_p1_3]), (2, .slice a_p2 p2.length c_p2)]) ⟨rfl, rfl, rfl, trivial⟩ ?_
  unfold seam_Mosaic at hm
  refine WK_seq ?_
  refine WK_region ?_
  refine WO_box [.int .i64 p0_0, .int .i64 p0_1, .int .i64 p0_2, .slice a_p0_3 p0_3.length c_p0_3] rfl rfl trivial rfl rfl rfl (fun b4 => ?_)
  refine WO.cls (C' := St w0 m m [[⟨b4, 50, [.int .i64 p0_0, .int .i64 p0_1, .int .i64 p0_2, .slice a_p0_3 p0_3.length c_p0_3]⟩]]) (fun _ h => h) ?_
  refine WO_box [.int .i64 p1_0, .int .i64 p1_1, .int .i64 p1_2, .slice a_p1_3 p1_3.length c_p1_3] rfl rfl trivial rfl rfl rfl (fun b5 => ?_)
  refine WO.cls (C' := St w0 m m [[⟨b4, 50, [.int .i64 p0_0, .int .i64 p0_1, .int .i64 p0_2, .slice a_p0_3 p0_3.length c_p0_3]⟩], [⟨b5, 50, [.int .i64 p1_0, .int .i64 p1_1, .int .i64 p1_2, .slice a_p1_3 p1_3.length c_p1_3]⟩]]) (fun _ h => h) ?_
  refine WO_alloc tbok [.int .i64 0, .int .i64 0, .int .i64 0, .slice none 0 0] rfl rfl trivial rfl rfl rfl rfl (fun b6 => ?_)
  refine WO.cls (C' := St w0 m m [[⟨b4, 50, [.int .i64 p0_0, .int .i64 p0_1, .int .i64 p0_2, .slice a_p0_3 p0_3.length c_p0_3]⟩], [⟨b5, 50, [.int .i64 p1_0, .int .i64 p1_1, .int .i64 p1_2, .slice a_p1_3 p1_3.length c_p1_3]⟩], [⟨b6, 50, [.int .i64 0, .int .i64 0, .int .i64 0, .slice none 0 0]⟩]]) (fun _ h => h) ?_
  refine WO_pure tbok 1 [(2, .slice a_p2 p2.length c_p2), (3, .pointer (some ⟨b4, 0, none⟩)), (4, .pointer (some ⟨b5, 0, none⟩)), (6, .pointer (some ⟨b6, 0, none⟩)), (7, .int .i64 0)] rfl ⟨rfl, rfl, rfl, rfl, rfl, trivial⟩ ?_
  refine WO_end ?_
  refine WK_seq ?_
  refine WK_seq ?_
  refine WK_region ?_
  refine WO_loadB tbok 0 rfl rfl rfl rfl (fun _ h => h) rfl rfl ?_
  refine WO_loadB tbok 1 rfl rfl rfl rfl (fun _ h => h) rfl rfl ?_
  obtain ⟨y_1, hc7, hm⟩ := bind_some hm
  refine WO_call0 (.int .i64 y_1) rfl rfl trivial rfl rfl rfl rfl St_closed ⟨51, #[], #[], rfl, callable_51, fun w hw => ⟨_, hw.sat, seam_matched_walk h_p0_3 h_p1_3 hc7⟩⟩ ?_
  refine WO_pure tbok 1 [(2, .slice a_p2 p2.length c_p2), (3, .pointer (some ⟨b4, 0, none⟩)), (4, .pointer (some ⟨b5, 0, none⟩)), (6, .pointer (some ⟨b6, 0, none⟩)), (7, .int .i64 0), (8, .int .i64 y_1)] rfl ⟨rfl, rfl, rfl, rfl, rfl, rfl, trivial⟩ ?_
  refine WO_end ?_
  refine WK_seq ?_
  refine WK_region ?_
  refine WO_pure tbok 2 [(2, .slice a_p2 p2.length c_p2), (3, .pointer (some ⟨b4, 0, none⟩)), (4, .pointer (some ⟨b5, 0, none⟩)), (6, .pointer (some ⟨b6, 0, none⟩)), (7, .int .i64 0), (8, .int .i64 y_1), (16, .bool (y_1 != 0))] rfl ⟨rfl, rfl, rfl, rfl, rfl, rfl, rfl, trivial⟩ ?_
  refine WO_end ?_
  refine WK_cond (b := y_1 != 0) rfl (fun hb8 => ?_) (fun hb8 => ?_)
  · have hm := ifT hb8 hm
    refine WK_seq ?_
    refine WK_region ?_
    refine WO_pure tbok 2 [(2, .slice a_p2 p2.length c_p2), (3, .pointer (some ⟨b4, 0, none⟩)), (4, .pointer (some ⟨b5, 0, none⟩)), (6, .pointer (some ⟨b6, 0, none⟩)), (7, .int .i64 0), (17, .agg #[.int .i64 0, .int .i64 0, .int .i64 0, .slice none 0 0]), (18, .int .i64 y_1)] rfl ⟨rfl, rfl, rfl, rfl, rfl, rfl, rfl, trivial⟩ ?_
    refine WO_storeB tbok 2 [.int .i64 0, .int .i64 0, .int .i64 0, .slice none 0 0] rfl rfl rfl rfl rfl rfl rfl ?_
    refine WO.cls (C' := St w0 m m [[⟨b4, 50, [.int .i64 p0_0, .int .i64 p0_1, .int .i64 p0_2, .slice a_p0_3 p0_3.length c_p0_3]⟩], [⟨b5, 50, [.int .i64 p1_0, .int .i64 p1_1, .int .i64 p1_2, .slice a_p1_3 p1_3.length c_p1_3]⟩], [⟨b6, 50, [.int .i64 0, .int .i64 0, .int .i64 0, .slice none 0 0]⟩]]) (fun _ h => h) ?_
    refine WO_pure tbok 1 [(2, .slice a_p2 p2.length c_p2), (3, .pointer (some ⟨b4, 0, none⟩)), (4, .pointer (some ⟨b5, 0, none⟩)), (6, .pointer (some ⟨b6, 0, none⟩)), (7, .int .i64 y_1)] rfl ⟨rfl, rfl, rfl, rfl, rfl, trivial⟩ ?_
    refine WO_end ?_
    cases hm
    exact WK_ret (ret_out (L := []) (RLc_cell tbok 2 rfl rfl rfl (RLc_tmp rfl RLc_nil)) (List.nil_sublist _) ⟨none, 0, 0, rfl, (OwnE.nil none)⟩)
  · have hm := ifF hb8 hm
    refine WK_skip ?_
    refine WK_seq ?_
    refine WK_seq ?_
    obtain ⟨s_2, hx9, hm⟩ := bind_some hm
    refine WK_meet [(2, .slice a_p2 p2.length c_p2), (3, .pointer (some ⟨b4, 0, none⟩)), (4, .pointer (some ⟨b5, 0, none⟩)), (6, .pointer (some ⟨b6, 0, none⟩)), (7, .int .i64 0), (28, .bool s_2)] (St w0 m m [[⟨b4, 50, [.int .i64 p0_0, .int .i64 p0_1, .int .i64 p0_2, .slice a_p0_3 p0_3.length c_p0_3]⟩], [⟨b5, 50, [.int .i64 p1_0, .int .i64 p1_1, .int .i64 p1_2, .slice a_p1_3 p1_3.length c_p1_3]⟩], [⟨b6, 50, [.int .i64 0, .int .i64 0, .int .i64 0, .slice none 0 0]⟩]]) ?_ (fun hk10 => ?_)
    · refine WK_cond (b := s_2) rfl (fun hb11 => ?_) (fun hb11 => ?_)
      · have hm := ifT hb11 hm
        refine WK_seq ?_
        refine WK_region ?_
        refine WO_pure tbok 1 [(2, .slice a_p2 p2.length c_p2), (3, .pointer (some ⟨b4, 0, none⟩)), (4, .pointer (some ⟨b5, 0, none⟩)), (6, .pointer (some ⟨b6, 0, none⟩)), (7, .int .i64 0), (29, .agg #[.int .i64 0, .int .i64 0, .int .i64 0, .slice none 0 0])] rfl ⟨rfl, rfl, rfl, rfl, rfl, rfl, trivial⟩ ?_
        refine WO_storeB tbok 2 [.int .i64 0, .int .i64 0, .int .i64 0, .slice none 0 0] rfl rfl rfl rfl rfl rfl rfl ?_
        refine WO.cls (C' := St w0 m m [[⟨b4, 50, [.int .i64 p0_0, .int .i64 p0_1, .int .i64 p0_2, .slice a_p0_3 p0_3.length c_p0_3]⟩], [⟨b5, 50, [.int .i64 p1_0, .int .i64 p1_1, .int .i64 p1_2, .slice a_p1_3 p1_3.length c_p1_3]⟩], [⟨b6, 50, [.int .i64 0, .int .i64 0, .int .i64 0, .slice none 0 0]⟩]]) (fun _ h => h) ?_
        refine WO_pure tbok 1 [(2, .slice a_p2 p2.length c_p2), (3, .pointer (some ⟨b4, 0, none⟩)), (4, .pointer (some ⟨b5, 0, none⟩)), (6, .pointer (some ⟨b6, 0, none⟩)), (7, .int .i64 11)] rfl ⟨rfl, rfl, rfl, rfl, rfl, trivial⟩ ?_
        refine WO_end ?_
        cases hm
        exact WK_ret (ret_out (L := []) (RLc_cell tbok 2 rfl rfl rfl (RLc_tmp rfl RLc_nil)) (List.nil_sublist _) ⟨none, 0, 0, rfl, (OwnE.nil none)⟩)
      · have hm := ifF hb11 hm
        refine WK_skip ?_
        refine WK_seq ?_
        obtain ⟨⟨l_3, s_4, s_5, s_6⟩, hx16, hm⟩ := bind_some hm
        refine WK_join (β := Option Addr × Nat × List Ent × Nat) (fun p => OwnE 3 1 (I1 .i64) (.slice p.1 ((l_3).length) p.2.1) l_3 p.2.2.1) (fun p => [(2, .slice a_p2 p2.length c_p2), (3, .pointer (some ⟨b4, 0, none⟩)), (6, .pointer (some ⟨b6, 0, none⟩)), (7, .int .i64 0), (9, .pointer (some ⟨p.2.2.2, 0, none⟩))]) (fun p => St w0 m m [[⟨b4, 50, [.int .i64 p0_0, .int .i64 p0_1, .int .i64 p0_2, .slice a_p0_3 p0_3.length c_p0_3]⟩], [⟨b5, 50, [.int .i64 p1_0, .int .i64 p1_1, .int .i64 p1_2, .slice a_p1_3 p1_3.length c_p1_3]⟩], [⟨b6, 50, [.int .i64 0, .int .i64 0, .int .i64 0, .slice none 0 0]⟩], [⟨p.2.2.2, 50, [.int .i64 s_4, .int .i64 s_5, .int .i64 s_6, .slice p.1 ((l_3).length) p.2.1]⟩], p.2.2.1]) ?_ (fun hk17 => ?_)
        · rintro ⟨a12, c13, L14, b15⟩ hL14
          refine WK.sub (e' := [(2, .slice a_p2 p2.length c_p2), (3, .pointer (some ⟨b4, 0, none⟩)), (6, .pointer (some ⟨b6, 0, none⟩)), (7, .int .i64 0), (9, .pointer (some ⟨b15, 0, none⟩))]) ⟨rfl, rfl, rfl, rfl, rfl, trivial⟩ (WK.cls (C' := St w0 m m [[⟨b4, 50, [.int .i64 p0_0, .int .i64 p0_1, .int .i64 p0_2, .slice a_p0_3 p0_3.length c_p0_3]⟩], [⟨b5, 50, [.int .i64 p1_0, .int .i64 p1_1, .int .i64 p1_2, .slice a_p1_3 p1_3.length c_p1_3]⟩], [⟨b6, 50, [.int .i64 0, .int .i64 0, .int .i64 0, .slice none 0 0]⟩], [⟨b15, 50, [.int .i64 s_4, .int .i64 s_5, .int .i64 s_6, .slice a12 ((l_3).length) c13]⟩], L14]) (fun _ h => h) ?_)
          refine WK_seq ?_
          refine WK_seq ?_
          refine WK_region ?_
          refine WO_pure tbok 3 [(3, .pointer (some ⟨b4, 0, none⟩)), (6, .pointer (some ⟨b6, 0, none⟩)), (7, .int .i64 0), (9, .pointer (some ⟨b15, 0, none⟩)), (40, .slice a_p2 p2.length c_p2), (41, .int .i64 (p2.length : Int)), (42, .int .i64 0)] rfl ⟨rfl, rfl, rfl, rfl, rfl, rfl, rfl, trivial⟩ ?_
          refine WO_end ?_
          obtain ⟨x22, hx23, hm⟩ := bind_some hm
          refine WK_join (β := (List Int) × (List Ent)) (fun p => p.1 = x22 ∧ OwnE 3 1 (I1 .i64) (.slice a12 ((l_3).length) c13) p.1 p.2) (fun p => [(6, .pointer (some ⟨b6, 0, none⟩)), (7, .int .i64 0), (9, .pointer (some ⟨b15, 0, none⟩))]) (fun p => St w0 m m [[⟨b4, 50, [.int .i64 p0_0, .int .i64 p0_1, .int .i64 p0_2, .slice a_p0_3 p0_3.length c_p0_3]⟩], [⟨b5, 50, [.int .i64 p1_0, .int .i64 p1_1, .int .i64 p1_2, .slice a_p1_3 p1_3.length c_p1_3]⟩], [⟨b6, 50, [.int .i64 0, .int .i64 0, .int .i64 0, .slice none 0 0]⟩], [⟨b15, 50, [.int .i64 s_4, .int .i64 s_5, .int .i64 s_6, .slice a12 ((l_3).length) c13]⟩], p.2]) ?_ (fun hk24 => ?_)
          · rintro ⟨l_9, L21⟩ ⟨hq30, hL21⟩
            subst hq30
            refine WK.sub (e' := [(6, .pointer (some ⟨b6, 0, none⟩)), (7, .int .i64 0), (9, .pointer (some ⟨b15, 0, none⟩))]) ⟨rfl, rfl, rfl, trivial⟩ (WK.cls (C' := St w0 m m [[⟨b4, 50, [.int .i64 p0_0, .int .i64 p0_1, .int .i64 p0_2, .slice a_p0_3 p0_3.length c_p0_3]⟩], [⟨b5, 50, [.int .i64 p1_0, .int .i64 p1_1, .int .i64 p1_2, .slice a_p1_3 p1_3.length c_p1_3]⟩], [⟨b6, 50, [.int .i64 0, .int .i64 0, .int .i64 0, .slice none 0 0]⟩], [⟨b15, 50, [.int .i64 s_4, .int .i64 s_5, .int .i64 s_6, .slice a12 ((l_3).length) c13]⟩], L21]) (fun _ h => h) ?_)
            refine WK_seq ?_
            refine WK_region ?_
            refine WO_loadB tbok 3 rfl rfl rfl rfl (fun _ h => h) rfl rfl ?_
            refine WO_storeB tbok 2 [.int .i64 s_4, .int .i64 s_5, .int .i64 s_6, .slice a12 ((l_3).length) c13] rfl rfl rfl rfl rfl rfl rfl ?_
            refine WO.cls (C' := St w0 m m [[⟨b4, 50, [.int .i64 p0_0, .int .i64 p0_1, .int .i64 p0_2, .slice a_p0_3 p0_3.length c_p0_3]⟩], [⟨b5, 50, [.int .i64 p1_0, .int .i64 p1_1, .int .i64 p1_2, .slice a_p1_3 p1_3.length c_p1_3]⟩], [⟨b6, 50, [.int .i64 s_4, .int .i64 s_5, .int .i64 s_6, .slice a12 ((l_3).length) c13]⟩], [⟨b15, 50, [.int .i64 s_4, .int .i64 s_5, .int .i64 s_6, .slice a12 ((l_3).length) c13]⟩], L21]) (fun _ h => h) ?_
            refine WO_pure tbok 1 [(6, .pointer (some ⟨b6, 0, none⟩)), (7, .int .i64 0)] rfl ⟨rfl, rfl, trivial⟩ ?_
            refine WO_end ?_
            cases hm
            exact WK_ret (ret_out (L := L21) (RLc_cell tbok 2 rfl rfl rfl (RLc_tmp rfl RLc_nil)) (seg_sub 4 rfl) ⟨a12, _, c13, rfl, hL21⟩)
          · refine WK_block ?_
            refine WK_loop (S := List Int × Int) (G := List Ent) (fun s => seam_Mosaic_s1 p0_0 p0_3 p2 s.1 s.2) (fun s g => [(3, .pointer (some ⟨b4, 0, none⟩)), (6, .pointer (some ⟨b6, 0, none⟩)), (7, .int .i64 0), (9, .pointer (some ⟨b15, 0, none⟩)), (40, .slice a_p2 p2.length c_p2), (41, .int .i64 (p2.length : Int)), (42, .int .i64 s.2)]) (fun s g => St w0 m m [[⟨b4, 50, [.int .i64 p0_0, .int .i64 p0_1, .int .i64 p0_2, .slice a_p0_3 p0_3.length c_p0_3]⟩], [⟨b5, 50, [.int .i64 p1_0, .int .i64 p1_1, .int .i64 p1_2, .slice a_p1_3 p1_3.length c_p1_3]⟩], [⟨b6, 50, [.int .i64 0, .int .i64 0, .int .i64 0, .slice none 0 0]⟩], [⟨b15, 50, [.int .i64 s_4, .int .i64 s_5, .int .i64 s_6, .slice a12 ((l_3).length) c13]⟩], g]) (fun s g => OwnE 3 1 (I1 .i64) (.slice a12 ((l_3).length) c13) s.1 g) FUEL (l_3, 0) L14 x22 hx23 hL14 ⟨rfl, rfl, rfl, rfl, rfl, rfl, rfl, trivial⟩ (fun _ h => h) ?_
            rintro ⟨l_7, s_8⟩ L19 o26 fl27 hm25 hL19 hn28 hd29
            have hm25 : seam_Mosaic_s1 p0_0 p0_3 p2 l_7 s_8 = some o26 := hm25
            unfold seam_Mosaic_s1 at hm25
            refine WK.sub (e' := [(3, .pointer (some ⟨b4, 0, none⟩)), (6, .pointer (some ⟨b6, 0, none⟩)), (7, .int .i64 0), (9, .pointer (some ⟨b15, 0, none⟩)), (40, .slice a_p2 p2.length c_p2), (41, .int .i64 (p2.length : Int)), (42, .int .i64 s_8)]) ⟨rfl, rfl, rfl, rfl, rfl, rfl, rfl, trivial⟩ (WK.cls (C' := St w0 m m [[⟨b4, 50, [.int .i64 p0_0, .int .i64 p0_1, .int .i64 p0_2, .slice a_p0_3 p0_3.length c_p0_3]⟩], [⟨b5, 50, [.int .i64 p1_0, .int .i64 p1_1, .int .i64 p1_2, .slice a_p1_3 p1_3.length c_p1_3]⟩], [⟨b6, 50, [.int .i64 0, .int .i64 0, .int .i64 0, .slice none 0 0]⟩], [⟨b15, 50, [.int .i64 s_4, .int .i64 s_5, .int .i64 s_6, .slice a12 ((l_3).length) c13]⟩], L19]) (fun _ h => h) ?_)
            refine WK_seq ?_
            refine WK_region ?_
            refine WO_pure tbok 1 [(3, .pointer (some ⟨b4, 0, none⟩)), (6, .pointer (some ⟨b6, 0, none⟩)), (7, .int .i64 0), (9, .pointer (some ⟨b15, 0, none⟩)), (40, .slice a_p2 p2.length c_p2), (41, .int .i64 (p2.length : Int)), (42, .int .i64 s_8), (43, .bool (decide (s_8 < (p2.length : Int))))] rfl ⟨rfl, rfl, rfl, rfl, rfl, rfl, rfl, rfl, trivial⟩ ?_
            refine WO_end ?_
            refine WK_seq ?_
            refine WK_cond (b := decide (s_8 < (p2.length : Int))) rfl (fun hb31 => ?_) (fun hb31 => ?_)
            · have hm25 := ifT hb31 hm25
              refine WK_skip ?_
              refine WK_seq ?_
              refine WK_block ?_
              refine WK_seq ?_
              refine WK_region ?_
              refine WO_pure tbok 1 [(3, .pointer (some ⟨b4, 0, none⟩)), (6, .pointer (some ⟨b6, 0, none⟩)), (7, .int .i64 0), (9, .pointer (some ⟨b15, 0, none⟩)), (40, .slice a_p2 p2.length c_p2), (41, .int .i64 (p2.length : Int)), (42, .int .i64 s_8), (44, .int .i64 s_8)] rfl ⟨rfl, rfl, rfl, rfl, rfl, rfl, rfl, rfl, trivial⟩ ?_
              obtain ⟨v_10, hy32, hm25⟩ := bind_some hm25
              obtain ⟨hc33, hy32⟩ := ix_some hy32
              refine WO_index tbok rfl rfl rfl rfl rfl rfl rfl rfl (SlR.addr h_p2) hc33 ?_
              refine WO_loadE tbok rfl rfl rfl rfl (fun _ h => St.sat h) h_p2 hy32 rfl ?_
              refine WO_pure tbok 2 [(3, .pointer (some ⟨b4, 0, none⟩)), (6, .pointer (some ⟨b6, 0, none⟩)), (7, .int .i64 0), (9, .pointer (some ⟨b15, 0, none⟩)), (10, .int .i64 s_8), (11, .int .i64 v_10), (40, .slice a_p2 p2.length c_p2), (41, .int .i64 (p2.length : Int)), (42, .int .i64 s_8)] rfl ⟨rfl, rfl, rfl, rfl, rfl, rfl, rfl, rfl, rfl, trivial⟩ ?_
              refine WO_end ?_
              refine WK_draw 20 [0, 1, 2, 3, 4, 5, 6, 7, 8, 9, 10, 11, 12, 13, 14, 15, 16, 17, 18, 19] follows_ok (by kernel_rfl) St_closed ?_
              refine WO_pure tbok 1 [(3, .pointer (some ⟨b4, 0, none⟩)), (6, .pointer (some ⟨b6, 0, none⟩)), (7, .int .i64 0), (9, .pointer (some ⟨b15, 0, none⟩)), (10, .int .i64 s_8), (11, .int .i64 v_10), (40, .slice a_p2 p2.length c_p2), (41, .int .i64 (p2.length : Int)), (42, .int .i64 s_8), (47, .pointer (some ⟨b15, 3, none⟩))] rfl ⟨rfl, rfl, rfl, rfl, rfl, rfl, rfl, rfl, rfl, rfl, trivial⟩ ?_
              refine WO_loadB tbok 3 rfl rfl rfl rfl (fun _ h => h) rfl rfl ?_
              refine WO_pure tbok 2 [(3, .pointer (some ⟨b4, 0, none⟩)), (6, .pointer (some ⟨b6, 0, none⟩)), (7, .int .i64 0), (9, .pointer (some ⟨b15, 0, none⟩)), (10, .int .i64 s_8), (11, .int .i64 v_10), (40, .slice a_p2 p2.length c_p2), (41, .int .i64 (p2.length : Int)), (42, .int .i64 s_8), (48, .slice a12 ((l_3).length) c13), (49, .int .i64 s_8), (50, .pointer (some ⟨b4, 0, none⟩))] rfl ⟨rfl, rfl, rfl, rfl, rfl, rfl, rfl, rfl, rfl, rfl, rfl, rfl, trivial⟩ ?_
              refine WO_loadB tbok 0 rfl rfl rfl rfl (fun _ h => h) rfl rfl ?_
              refine WO_pure tbok 1 [(3, .pointer (some ⟨b4, 0, none⟩)), (6, .pointer (some ⟨b6, 0, none⟩)), (7, .int .i64 0), (9, .pointer (some ⟨b15, 0, none⟩)), (10, .int .i64 s_8), (11, .int .i64 v_10), (40, .slice a_p2 p2.length c_p2), (41, .int .i64 (p2.length : Int)), (42, .int .i64 s_8), (48, .slice a12 ((l_3).length) c13), (52, .int .i64 (w64 (s_8 * p0_0)))] rfl ⟨rfl, rfl, rfl, rfl, rfl, rfl, rfl, rfl, rfl, rfl, rfl, trivial⟩ ?_
              obtain ⟨hc34, hm25⟩ := chk_some hm25
              have hc34 : 0 ≤ (w64 (s_8 * p0_0) : Int) ∧ (w64 (s_8 * p0_0) : Int) ≤ (l_7.length : Int) ∧ (l_7.length : Int) ≤ (l_7.length : Int) := hc34
              have hz38 : OwnE 3 1 (I1 .i64) (.slice a12 ((l_3).length) c13) l_7 L19 := hL19
              refine WO_sliceV (E := (I1 .i64)) tbok (fun _ => rfl) (some (w64 (s_8 * p0_0) : Int)) none (w64 (s_8 * p0_0) : Int).toNat l_7.length rfl rfl rfl rfl rfl rfl rfl rfl rfl rfl hz38 (by simp only [Option.getD_some] <;> omega) (by have := OwnE.qlen hz38; simp only [Option.getD_none] <;> omega) (by omega) (by omega) (fun a35 c36 h37 h37d => ?_)
              refine WO_pure tbok 1 [(3, .pointer (some ⟨b4, 0, none⟩)), (6, .pointer (some ⟨b6, 0, none⟩)), (7, .int .i64 0), (9, .pointer (some ⟨b15, 0, none⟩)), (10, .int .i64 s_8), (11, .int .i64 v_10), (40, .slice a_p2 p2.length c_p2), (41, .int .i64 (p2.length : Int)), (42, .int .i64 s_8), (53, .slice a35 (((l_7.take l_7.length).drop (w64 (s_8 * p0_0) : Int).toNat).length) c36), (54, .pointer (some ⟨b4, 3, none⟩))] rfl ⟨rfl, rfl, rfl, rfl, rfl, rfl, rfl, rfl, rfl, rfl, rfl, trivial⟩ ?_
              refine WO_loadB tbok 0 rfl rfl rfl rfl (fun _ h => h) rfl rfl ?_
              refine WO_pure tbok 2 [(3, .pointer (some ⟨b4, 0, none⟩)), (6, .pointer (some ⟨b6, 0, none⟩)), (7, .int .i64 0), (9, .pointer (some ⟨b15, 0, none⟩)), (10, .int .i64 s_8), (11, .int .i64 v_10), (40, .slice a_p2 p2.length c_p2), (41, .int .i64 (p2.length : Int)), (42, .int .i64 s_8), (53, .slice a35 (((l_7.take l_7.length).drop (w64 (s_8 * p0_0) : Int).toNat).length) c36), (55, .slice a_p0_3 p0_3.length c_p0_3), (56, .int .i64 s_8), (57, .pointer (some ⟨b4, 0, none⟩))] rfl ⟨rfl, rfl, rfl, rfl, rfl, rfl, rfl, rfl, rfl, rfl, rfl, rfl, rfl, trivial⟩ ?_
              refine WO_loadB tbok 0 rfl rfl rfl rfl (fun _ h => h) rfl rfl ?_
              refine WO_pure tbok 3 [(3, .pointer (some ⟨b4, 0, none⟩)), (6, .pointer (some ⟨b6, 0, none⟩)), (7, .int .i64 0), (9, .pointer (some ⟨b15, 0, none⟩)), (11, .int .i64 v_10), (40, .slice a_p2 p2.length c_p2), (41, .int .i64 (p2.length : Int)), (42, .int .i64 s_8), (53, .slice a35 (((l_7.take l_7.length).drop (w64 (s_8 * p0_0) : Int).toNat).length) c36), (55, .slice a_p0_3 p0_3.length c_p0_3), (59, .int .i64 (w64 (s_8 * p0_0))), (60, .int .i64 s_8), (61, .pointer (some ⟨b4, 0, none⟩))] rfl ⟨rfl, rfl, rfl, rfl, rfl, rfl, rfl, rfl, rfl, rfl, rfl, rfl, rfl, trivial⟩ ?_
              refine WO_loadB tbok 0 rfl rfl rfl rfl (fun _ h => h) rfl rfl ?_
              refine WO_pure tbok 3 [(3, .pointer (some ⟨b4, 0, none⟩)), (6, .pointer (some ⟨b6, 0, none⟩)), (7, .int .i64 0), (9, .pointer (some ⟨b15, 0, none⟩)), (40, .slice a_p2 p2.length c_p2), (41, .int .i64 (p2.length : Int)), (42, .int .i64 s_8), (53, .slice a35 (((l_7.take l_7.length).drop (w64 (s_8 * p0_0) : Int).toNat).length) c36), (55, .slice a_p0_3 p0_3.length c_p0_3), (59, .int .i64 (w64 (s_8 * p0_0))), (65, .int .i64 (w64 ((w64 (s_8 * p0_0)) + v_10)))] rfl ⟨rfl, rfl, rfl, rfl, rfl, rfl, rfl, rfl, rfl, rfl, rfl, trivial⟩ ?_
              obtain ⟨hc40, hm25⟩ := chk_some hm25
              have hc40 : 0 ≤ (w64 (s_8 * p0_0) : Int) ∧ (w64 (s_8 * p0_0) : Int) ≤ (w64 ((w64 (s_8 * p0_0)) + v_10) : Int) ∧ (w64 ((w64 (s_8 * p0_0)) + v_10) : Int) ≤ (p0_3.length : Int) := hc40
              have hz44 : SlR (FE (I1 .i64)) 1 m (.slice a_p0_3 p0_3.length c_p0_3) p0_3 := h_p0_3
              refine WO_slice tbok (some (w64 (s_8 * p0_0) : Int)) (some (w64 ((w64 (s_8 * p0_0)) + v_10) : Int)) none (w64 (s_8 * p0_0) : Int).toNat (w64 ((w64 (s_8 * p0_0)) + v_10) : Int).toNat rfl rfl rfl rfl rfl rfl rfl rfl rfl rfl rfl hz44 (by simp only [Option.getD_some] <;> omega) (by simp only [Option.getD_some] <;> omega) (fun q hq => by cases hq) (by omega) (by omega) (fun hh => by cases hh) (fun a41 c42 h43 => ?_)
              refine WO_tail ?_
              have hz47 : OwnE 3 1 (I1 .i64) (.slice a12 ((l_3).length) c13) l_7 L19 := hL19
              refine WO_copy (E := (I1 .i64)) tbok (fun _ => rfl) (fun _ => rfl) 4 ((w64 (s_8 * p0_0) : Int).toNat) ((p0_3.take (w64 ((w64 (s_8 * p0_0)) + v_10) : Int).toNat).drop (w64 (s_8 * p0_0) : Int).toNat) (((l_7.take l_7.length).drop (w64 (s_8 * p0_0) : Int).toNat).length) rfl rfl rfl rfl rfl rfl rfl rfl rfl rfl hz47 rfl rfl (by rw [List.length_drop, List.length_take]; omega) h37d (fun w hw => ⟨_, hw.sat, h43⟩) (fun L46 hL46 => ?_)
              refine WO.cls (C' := St w0 m m [[⟨b4, 50, [.int .i64 p0_0, .int .i64 p0_1, .int .i64 p0_2, .slice a_p0_3 p0_3.length c_p0_3]⟩], [⟨b5, 50, [.int .i64 p1_0, .int .i64 p1_1, .int .i64 p1_2, .slice a_p1_3 p1_3.length c_p1_3]⟩], [⟨b6, 50, [.int .i64 0, .int .i64 0, .int .i64 0, .slice none 0 0]⟩], [⟨b15, 50, [.int .i64 s_4, .int .i64 s_5, .int .i64 s_6, .slice a12 ((l_3).length) c13]⟩], L46]) (fun _ h => h) ?_
              refine WO_end ?_
              refine WK_blk ?_
              refine WK_region ?_
              refine WO_pure tbok 2 [(3, .pointer (some ⟨b4, 0, none⟩)), (6, .pointer (some ⟨b6, 0, none⟩)), (7, .int .i64 0), (9, .pointer (some ⟨b15, 0, none⟩)), (40, .slice a_p2 p2.length c_p2), (41, .int .i64 (p2.length : Int)), (42, .int .i64 (w64 (s_8 + 1)))] rfl ⟨rfl, rfl, rfl, rfl, rfl, rfl, rfl, trivial⟩ ?_
              refine WO_end ?_
              cases hm25
              refine WK.sub ?_ (WK.cls (fun _ h => h) (hn28 _ L46 rfl hL46))
              exact ⟨rfl, rfl, rfl, rfl, rfl, rfl, rfl, trivial⟩
            · have hm25 := ifF hb31 hm25
              refine WK_exit rfl ?_
              cases hm25
              refine WK.sub ?_ (WK.cls (fun _ h => h) (hk24 (l_7, L19) ⟨(hd29 _ rfl), hL19⟩))
              exact ⟨rfl, rfl, rfl, trivial⟩
        · refine WK_plan 11 [0, 2, 4, 6] (.run [1, 3, 5, 7] (.alt 8 (.run [9, 10] .fin) (.alt 10 (.run [8, 9] .fin) .none))) follows_ok (by kernel_rfl) St_closed ?_
          refine WO_pure tbok 4 [(2, .slice a_p2 p2.length c_p2), (3, .pointer (some ⟨b4, 0, none⟩)), (6, .pointer (some ⟨b6, 0, none⟩)), (7, .int .i64 0), (30, .pointer (some ⟨b4, 0, none⟩)), (32, .pointer (some ⟨b4, 1, none⟩)), (34, .pointer (some ⟨b4, 2, none⟩)), (36, .pointer (some ⟨b5, 3, none⟩))] rfl ⟨rfl, rfl, rfl, rfl, rfl, rfl, rfl, rfl, trivial⟩ ?_
          refine WO_plan ?_
          refine WT_run ?_
          refine WO_loadB tbok 0 rfl rfl rfl rfl (fun _ h => h) rfl rfl ?_
          refine WO_loadB tbok 0 rfl rfl rfl rfl (fun _ h => h) rfl rfl ?_
          refine WO_loadB tbok 0 rfl rfl rfl rfl (fun _ h => h) rfl rfl ?_
          refine WO_loadB tbok 1 rfl rfl rfl rfl (fun _ h => h) rfl rfl ?_
          refine WO_tree rfl ?_
          refine WT_alt rfl ?_ ?_
          · obtain ⟨y_11, hc49, hx16⟩ := bind_some hx16
            refine WO_call1 (slices_Clone_sint_Q y_11) rfl rfl St_closed rfl rfl rfl rfl ⟨18, #[], #[], rfl, callable_18, fun w hw => ⟨_, hw.sat, slices_Clone_sint_walk h_p1_3 hc49⟩⟩ (fun v54 L53 hq => ?_)
            obtain ⟨a50, qa50, c51, rfl, hL53⟩ := hq
            obtain rfl := OwnE.qlen hL53
            refine WO.cls (C' := St w0 m m [[⟨b4, 50, [.int .i64 p0_0, .int .i64 p0_1, .int .i64 p0_2, .slice a_p0_3 p0_3.length c_p0_3]⟩], [⟨b5, 50, [.int .i64 p1_0, .int .i64 p1_1, .int .i64 p1_2, .slice a_p1_3 p1_3.length c_p1_3]⟩], [⟨b6, 50, [.int .i64 0, .int .i64 0, .int .i64 0, .slice none 0 0]⟩], L53]) (fun _ h => h) ?_
            refine WO_tree rfl ?_
            refine WT_run ?_
            refine WO_pure tbok 1 [(2, .slice a_p2 p2.length c_p2), (3, .pointer (some ⟨b4, 0, none⟩)), (6, .pointer (some ⟨b6, 0, none⟩)), (7, .int .i64 0), (39, .agg #[.int .i64 p0_0, .int .i64 p0_1, .int .i64 p0_2, .slice a50 ((y_11).length) c51])] rfl ⟨rfl, rfl, rfl, rfl, rfl, trivial⟩ ?_
            refine WO_alloc tbok [.int .i64 0, .int .i64 0, .int .i64 0, .slice none 0 0] rfl rfl St_closed rfl rfl rfl rfl (fun b55 => ?_)
            refine WO.cls (C' := St w0 m m [[⟨b4, 50, [.int .i64 p0_0, .int .i64 p0_1, .int .i64 p0_2, .slice a_p0_3 p0_3.length c_p0_3]⟩], [⟨b5, 50, [.int .i64 p1_0, .int .i64 p1_1, .int .i64 p1_2, .slice a_p1_3 p1_3.length c_p1_3]⟩], [⟨b6, 50, [.int .i64 0, .int .i64 0, .int .i64 0, .slice none 0 0]⟩], L53, [⟨b55, 50, [.int .i64 0, .int .i64 0, .int .i64 0, .slice none 0 0]⟩]]) (fun _ h => h) ?_
            refine WO_tree rfl ?_
            refine WT_fin ?_
            refine WO_storeB tbok 4 [.int .i64 p0_0, .int .i64 p0_1, .int .i64 p0_2, .slice a50 ((y_11).length) c51] rfl rfl rfl rfl rfl rfl rfl ?_
            refine WO.cls (C' := St w0 m m [[⟨b4, 50, [.int .i64 p0_0, .int .i64 p0_1, .int .i64 p0_2, .slice a_p0_3 p0_3.length c_p0_3]⟩], [⟨b5, 50, [.int .i64 p1_0, .int .i64 p1_1, .int .i64 p1_2, .slice a_p1_3 p1_3.length c_p1_3]⟩], [⟨b6, 50, [.int .i64 0, .int .i64 0, .int .i64 0, .slice none 0 0]⟩], L53, [⟨b55, 50, [.int .i64 p0_0, .int .i64 p0_1, .int .i64 p0_2, .slice a50 ((y_11).length) c51]⟩]]) (fun _ h => h) ?_
            refine WO_end ?_
            refine WK.cls (fun _ h => h.perm (Ls' := [[⟨b4, 50, [.int .i64 p0_0, .int .i64 p0_1, .int .i64 p0_2, .slice a_p0_3 p0_3.length c_p0_3]⟩], [⟨b5, 50, [.int .i64 p1_0, .int .i64 p1_1, .int .i64 p1_2, .slice a_p1_3 p1_3.length c_p1_3]⟩], [⟨b6, 50, [.int .i64 0, .int .i64 0, .int .i64 0, .slice none 0 0]⟩], [⟨b55, 50, [.int .i64 p0_0, .int .i64 p0_1, .int .i64 p0_2, .slice a50 ((y_11).length) c51]⟩], L53]) (List.Perm.flatten (List.Perm.cons _ (List.Perm.cons _ (List.Perm.cons _ (List.Perm.swap _ _ _)))))) ?_
            cases hx16
            refine WK.sub ?_ (hk17 ⟨a50, c51, L53, b55⟩ hL53)
            exact ⟨rfl, rfl, rfl, rfl, rfl, trivial⟩
          · refine WT_alt rfl ?_ ?_
            · refine WO_alloc tbok [.int .i64 0, .int .i64 0, .int .i64 0, .slice none 0 0] rfl rfl St_closed rfl rfl rfl rfl (fun b56 => ?_)
              refine WO.cls (C' := St w0 m m [[⟨b4, 50, [.int .i64 p0_0, .int .i64 p0_1, .int .i64 p0_2, .slice a_p0_3 p0_3.length c_p0_3]⟩], [⟨b5, 50, [.int .i64 p1_0, .int .i64 p1_1, .int .i64 p1_2, .slice a_p1_3 p1_3.length c_p1_3]⟩], [⟨b6, 50, [.int .i64 0, .int .i64 0, .int .i64 0, .slice none 0 0]⟩], [⟨b56, 50, [.int .i64 0, .int .i64 0, .int .i64 0, .slice none 0 0]⟩]]) (fun _ h => h) ?_
              refine WO_tree rfl ?_
              refine WT_run ?_
              obtain ⟨y_11, hc57, hx16⟩ := bind_some hx16
              refine WO_call1 (slices_Clone_sint_Q y_11) rfl rfl St_closed rfl rfl rfl rfl ⟨18, #[], #[], rfl, callable_18, fun w hw => ⟨_, hw.sat, slices_Clone_sint_walk h_p1_3 hc57⟩⟩ (fun v62 L61 hq => ?_)
              obtain ⟨a58, qa58, c59, rfl, hL61⟩ := hq
              obtain rfl := OwnE.qlen hL61
              refine WO.cls (C' := St w0 m m [[⟨b4, 50, [.int .i64 p0_0, .int .i64 p0_1, .int .i64 p0_2, .slice a_p0_3 p0_3.length c_p0_3]⟩], [⟨b5, 50, [.int .i64 p1_0, .int .i64 p1_1, .int .i64 p1_2, .slice a_p1_3 p1_3.length c_p1_3]⟩], [⟨b6, 50, [.int .i64 0, .int .i64 0, .int .i64 0, .slice none 0 0]⟩], [⟨b56, 50, [.int .i64 0, .int .i64 0, .int .i64 0, .slice none 0 0]⟩], L61]) (fun _ h => h) ?_
              refine WO_pure tbok 1 [(2, .slice a_p2 p2.length c_p2), (3, .pointer (some ⟨b4, 0, none⟩)), (6, .pointer (some ⟨b6, 0, none⟩)), (7, .int .i64 0), (9, .pointer (some ⟨b56, 0, none⟩)), (39, .agg #[.int .i64 p0_0, .int .i64 p0_1, .int .i64 p0_2, .slice a58 ((y_11).length) c59])] rfl ⟨rfl, rfl, rfl, rfl, rfl, rfl, trivial⟩ ?_
              refine WO_tree rfl ?_
              refine WT_fin ?_
              refine WO_storeB tbok 3 [.int .i64 p0_0, .int .i64 p0_1, .int .i64 p0_2, .slice a58 ((y_11).length) c59] rfl rfl rfl rfl rfl rfl rfl ?_
              refine WO.cls (C' := St w0 m m [[⟨b4, 50, [.int .i64 p0_0, .int .i64 p0_1, .int .i64 p0_2, .slice a_p0_3 p0_3.length c_p0_3]⟩], [⟨b5, 50, [.int .i64 p1_0, .int .i64 p1_1, .int .i64 p1_2, .slice a_p1_3 p1_3.length c_p1_3]⟩], [⟨b6, 50, [.int .i64 0, .int .i64 0, .int .i64 0, .slice none 0 0]⟩], [⟨b56, 50, [.int .i64 p0_0, .int .i64 p0_1, .int .i64 p0_2, .slice a58 ((y_11).length) c59]⟩], L61]) (fun _ h => h) ?_
              refine WO_end ?_
              cases hx16
              refine WK.sub ?_ (hk17 ⟨a58, c59, L61, b56⟩ hL61)
              exact ⟨rfl, rfl, rfl, rfl, rfl, trivial⟩
            · exact WT_none
    · refine WK_region ?_
      refine WO_pure tbok 3 [(2, .slice a_p2 p2.length c_p2), (3, .pointer (some ⟨b4, 0, none⟩)), (4, .pointer (some ⟨b5, 0, none⟩)), (6, .pointer (some ⟨b6, 0, none⟩)), (7, .int .i64 0), (20, .int .i64 (p2.length : Int)), (21, .pointer (some ⟨b4, 1, none⟩))] rfl ⟨rfl, rfl, rfl, rfl, rfl, rfl, rfl, trivial⟩ ?_
      refine WO_loadB tbok 0 rfl rfl rfl rfl (fun _ h => h) rfl rfl ?_
      refine WO_pure tbok 2 [(2, .slice a_p2 p2.length c_p2), (3, .pointer (some ⟨b4, 0, none⟩)), (4, .pointer (some ⟨b5, 0, none⟩)), (6, .pointer (some ⟨b6, 0, none⟩)), (7, .int .i64 0), (24, .bool ((p2.length : Int) != p0_1))] rfl ⟨rfl, rfl, rfl, rfl, rfl, rfl, trivial⟩ ?_
      refine WO_split (d := 24) (b := (p2.length : Int) != p0_1) rfl (fun hb63 => ?_) (fun hb63 => ?_)
      · have hx9 := ifT hb63 hx9
        refine WO_pure tbok 2 [(2, .slice a_p2 p2.length c_p2), (3, .pointer (some ⟨b4, 0, none⟩)), (4, .pointer (some ⟨b5, 0, none⟩)), (6, .pointer (some ⟨b6, 0, none⟩)), (7, .int .i64 0), (24, .bool true)] rfl ⟨rfl, rfl, rfl, rfl, rfl, rfl, trivial⟩ ?_
        refine WO_skip rfl rfl ?_
        refine WO_pure tbok 1 [(2, .slice a_p2 p2.length c_p2), (3, .pointer (some ⟨b4, 0, none⟩)), (4, .pointer (some ⟨b5, 0, none⟩)), (6, .pointer (some ⟨b6, 0, none⟩)), (7, .int .i64 0), (28, .bool true)] rfl ⟨rfl, rfl, rfl, rfl, rfl, rfl, trivial⟩ ?_
        refine WO_end ?_
        cases hx9
        refine WK.sub ?_ (WK.cls (fun _ h => h) hk10)
        exact ⟨rfl, rfl, rfl, rfl, rfl, rfl, trivial⟩
      · have hx9 := ifF hb63 hx9
        refine WO_pure tbok 2 [(2, .slice a_p2 p2.length c_p2), (3, .pointer (some ⟨b4, 0, none⟩)), (4, .pointer (some ⟨b5, 0, none⟩)), (6, .pointer (some ⟨b6, 0, none⟩)), (7, .int .i64 0), (24, .bool false), (25, .slice a_p2 p2.length c_p2), (26, .func (.func 52) #[] #[.pointer (some ⟨b4, 0, none⟩)])] rfl ⟨rfl, rfl, rfl, rfl, rfl, rfl, rfl, rfl, trivial⟩ ?_
        obtain ⟨y_13, hc64, hx9⟩ := bind_some hx9
        refine WO_call0 (.bool y_13) rfl rfl trivial rfl rfl rfl rfl St_closed ⟨13, #[], #[], rfl, callable_13, fun w hw => ⟨_, hw.satV, slices_ContainsFunc_sint_walk (h_p2.mono (mono_FE _) hw.leV) (fun m1 hm1 z_12 _ h => specV_cap callable_52 (seam_Mosaic_c1_walk (hm1 _ _ (hw.memV (i := 0) rfl (List.mem_singleton.2 rfl))) ((h_p0_3.mono (mono_FE _) hw.leV).mono (mono_FE _) hm1) h)) hc64⟩⟩ ?_
        refine WO_pure tbok 1 [(2, .slice a_p2 p2.length c_p2), (3, .pointer (some ⟨b4, 0, none⟩)), (4, .pointer (some ⟨b5, 0, none⟩)), (6, .pointer (some ⟨b6, 0, none⟩)), (7, .int .i64 0), (28, .bool y_13)] rfl ⟨rfl, rfl, rfl, rfl, rfl, rfl, trivial⟩ ?_
        refine WO_end ?_
        cases hx9
        refine WK.sub ?_ (WK.cls (fun _ h => h) hk10)
        exact ⟨rfl, rfl, rfl, rfl, rfl, rfl, trivial⟩
theorem slices_Equal_sint_walk {m : Mu} {p0 : List Int} {p1 : List Int} {a_p0 : Option Addr} {q_p0 c_p0 : Nat} {a_p1 : Option Addr} {q_p1 c_p1 : Nat} (h_p0 : SlR (FE (I1 .i64)) 1 m (.slice a_p0 q_p0 c_p0) p0) (h_p1 : SlR (FE (I1 .i64)) 1 m (.slice a_p1 q_p1 c_p1) p1) {r : Bool} (hm : slices_Equal_sint p0 p1 = some r) :
    Go.E.Spec Try.prog 21 [.slice a_p0 q_p0 c_p0, .slice a_p1 q_p1 c_p1] m (fun v _ _ => v = .bool r) := by
  refine Spec_enter Try.func21 rfl rfl rfl (fun w0 => ?_)
  refine WK.sub (e' := [(0, .slice a_p0 q_p0 c_p0), (1, .slice a_p1 q_p1 c_p1)]) ⟨rfl, rfl, trivial⟩ ?_
  obtain rfl := SlR.qlen h_p0
  obtain rfl := SlR.qlen h_p1
  refine WK.sub (e' := [(0, .slice a_p0 p0.length c_p0), (1, .slice a_p1 p1.length c_p1)]) ⟨rfl, rfl, trivial⟩ ?_
  unfold slices_Equal_sint at hm
  refine WK_seq ?_
  refine WK_region ?_
  refine WO_pure tbok 1 [(0, .slice a_p0 p0.length c_p0), (1, .slice a_p1 p1.length c_p1), (4, .bool false)] rfl ⟨rfl, rfl, rfl, trivial⟩ ?_
  refine WO_end ?_
  refine WK_seq ?_
  refine WK_seq ?_
  refine WK_region ?_
  refine WO_pure tbok 5 [(0, .slice a_p0 p0.length c_p0), (1, .slice a_p1 p1.length c_p1), (4, .bool false), (10, .bool ((p0.length : Int) != (p1.length : Int)))] rfl ⟨rfl, rfl, rfl, rfl, trivial⟩ ?_
  refine WO_end ?_
  refine WK_cond (b := (p0.length : Int) != (p1.length : Int)) rfl (fun hb3 => ?_) (fun hb3 => ?_)
  · have hm := ifT hb3 hm
    refine WK_seq ?_
    refine WK_region ?_
    refine WO_pure tbok 1 [(0, .slice a_p0 p0.length c_p0), (1, .slice a_p1 p1.length c_p1), (4, .bool false)] rfl ⟨rfl, rfl, rfl, trivial⟩ ?_
    refine WO_end ?_
    cases hm
    exact WK_ret (ret_out (L := []) (RLc_tmp rfl RLc_nil) (List.nil_sublist _) rfl)
  · have hm := ifF hb3 hm
    refine WK_skip ?_
    refine WK_seq ?_
    refine WK_seq ?_
    refine WK_region ?_
    refine WO_pure tbok 3 [(0, .slice a_p0 p0.length c_p0), (1, .slice a_p1 p1.length c_p1), (4, .bool false), (12, .int .i64 (p0.length : Int)), (13, .int .i64 0)] rfl ⟨rfl, rfl, rfl, rfl, rfl, trivial⟩ ?_
    refine WO_end ?_
    obtain ⟨x4, hx5, hm⟩ := bind_some hm
    refine WK_join (β := Unit × Unit) (fun p => Sum.inr p.1 = x4) (fun p => [(4, .bool false)]) (fun p => St w0 m m []) ?_ (fun hk6 => ?_)
    · rintro ⟨⟨⟩, ⟨⟩⟩ hq12
      subst hq12
      refine WK.sub (e' := [(4, .bool false)]) ⟨rfl, trivial⟩ (WK.cls (C' := St w0 m m []) (fun _ h => h) ?_)
      refine WK_seq ?_
      refine WK_region ?_
      refine WO_pure tbok 1 [(4, .bool true)] rfl ⟨rfl, trivial⟩ ?_
      refine WO_end ?_
      cases hm
      exact WK_ret (ret_out (L := []) (RLc_tmp rfl RLc_nil) (List.nil_sublist _) rfl)
    · refine WK_block ?_
      refine WK_loop (S := Int) (G := Unit) (fun s => slices_Equal_sint_s1 p0 p1 s) (fun s g => [(0, .slice a_p0 p0.length c_p0), (1, .slice a_p1 p1.length c_p1), (4, .bool false), (12, .int .i64 (p0.length : Int)), (13, .int .i64 s)]) (fun s g => St w0 m m []) (fun s g => True) FUEL 0 () x4 hx5 trivial ⟨rfl, rfl, rfl, rfl, rfl, trivial⟩ (fun _ h => h) ?_
      rintro s_1 ⟨⟩ o8 fl9 hm7 - hn10 hd11
      have hm7 : slices_Equal_sint_s1 p0 p1 s_1 = some o8 := hm7
      unfold slices_Equal_sint_s1 at hm7
      refine WK.sub (e' := [(0, .slice a_p0 p0.length c_p0), (1, .slice a_p1 p1.length c_p1), (4, .bool false), (12, .int .i64 (p0.length : Int)), (13, .int .i64 s_1)]) ⟨rfl, rfl, rfl, rfl, rfl, trivial⟩ (WK.cls (C' := St w0 m m []) (fun _ h => h) ?_)
      refine WK_seq ?_
      refine WK_region ?_
      refine WO_pure tbok 1 [(0, .slice a_p0 p0.length c_p0), (1, .slice a_p1 p1.length c_p1), (4, .bool false), (12, .int .i64 (p0.length : Int)), (13, .int .i64 s_1), (14, .bool (decide (s_1 < (p0.length : Int))))] rfl ⟨rfl, rfl, rfl, rfl, rfl, rfl, trivial⟩ ?_
      refine WO_end ?_
      refine WK_seq ?_
      refine WK_cond (b := decide (s_1 < (p0.length : Int))) rfl (fun hb13 => ?_) (fun hb13 => ?_)
      · have hm7 := ifT hb13 hm7
        refine WK_skip ?_
        refine WK_seq ?_
        refine WK_block ?_
        refine WK_seq ?_
        refine WK_region ?_
        refine WO_pure tbok 2 [(0, .slice a_p0 p0.length c_p0), (1, .slice a_p1 p1.length c_p1), (4, .bool false), (5, .int .i64 s_1), (12, .int .i64 (p0.length : Int)), (13, .int .i64 s_1)] rfl ⟨rfl, rfl, rfl, rfl, rfl, rfl, trivial⟩ ?_
        refine WO_end ?_
        refine WK_seq ?_
        refine WK_draw 9 [0, 1, 2, 3, 4, 5, 6, 7, 8] follows_ok (by kernel_rfl) St_closed ?_
        refine WO_pure tbok 2 [(0, .slice a_p0 p0.length c_p0), (1, .slice a_p1 p1.length c_p1), (4, .bool false), (5, .int .i64 s_1), (12, .int .i64 (p0.length : Int)), (13, .int .i64 s_1), (16, .slice a_p0 p0.length c_p0), (17, .int .i64 s_1)] rfl ⟨rfl, rfl, rfl, rfl, rfl, rfl, rfl, rfl, trivial⟩ ?_
        obtain ⟨v_2, hy14, hm7⟩ := bind_some hm7
        obtain ⟨hc15, hy14⟩ := ix_some hy14
        refine WO_index tbok rfl rfl rfl rfl rfl rfl rfl rfl (SlR.addr h_p0) hc15 ?_
        refine WO_loadE tbok rfl rfl rfl rfl (fun _ h => St.sat h) h_p0 hy14 rfl ?_
        refine WO_pure tbok 2 [(0, .slice a_p0 p0.length c_p0), (1, .slice a_p1 p1.length c_p1), (4, .bool false), (12, .int .i64 (p0.length : Int)), (13, .int .i64 s_1), (19, .int .i64 v_2), (20, .slice a_p1 p1.length c_p1), (21, .int .i64 s_1)] rfl ⟨rfl, rfl, rfl, rfl, rfl, rfl, rfl, rfl, trivial⟩ ?_
        obtain ⟨v_3, hy16, hm7⟩ := bind_some hm7
        obtain ⟨hc17, hy16⟩ := ix_some hy16
        refine WO_index tbok rfl rfl rfl rfl rfl rfl rfl rfl (SlR.addr h_p1) hc17 ?_
        refine WO_loadE tbok rfl rfl rfl rfl (fun _ h => St.sat h) h_p1 hy16 rfl ?_
        refine WO_pure tbok 1 [(0, .slice a_p0 p0.length c_p0), (1, .slice a_p1 p1.length c_p1), (4, .bool false), (12, .int .i64 (p0.length : Int)), (13, .int .i64 s_1), (24, .bool (v_2 != v_3))] rfl ⟨rfl, rfl, rfl, rfl, rfl, rfl, trivial⟩ ?_
        refine WO_tail ?_
        refine WO_end ?_
        refine WK_cond (b := v_2 != v_3) rfl (fun hb18 => ?_) (fun hb18 => ?_)
        · have hm7 := ifT hb18 hm7
          refine WK_seq ?_
          refine WK_region ?_
          refine WO_pure tbok 1 [(0, .slice a_p0 p0.length c_p0), (1, .slice a_p1 p1.length c_p1), (4, .bool false), (12, .int .i64 (p0.length : Int)), (13, .int .i64 s_1)] rfl ⟨rfl, rfl, rfl, rfl, rfl, trivial⟩ ?_
          refine WO_end ?_
          cases hm7
          have hq := hd11 _ rfl
          subst hq
          have hm : some _ = some _ := hm
          cases hm
          exact WK_ret (ret_out (L := []) (RLc_tmp rfl RLc_nil) (List.nil_sublist _) rfl)
        · have hm7 := ifF hb18 hm7
          refine WK_skip ?_
          refine WK_blk ?_
          refine WK_region ?_
          refine WO_pure tbok 2 [(0, .slice a_p0 p0.length c_p0), (1, .slice a_p1 p1.length c_p1), (4, .bool false), (12, .int .i64 (p0.length : Int)), (13, .int .i64 (w64 (s_1 + 1)))] rfl ⟨rfl, rfl, rfl, rfl, rfl, trivial⟩ ?_
          refine WO_end ?_
          cases hm7
          refine WK.sub ?_ (WK.cls (fun _ h => h) (hn10 _ () rfl trivial))
          exact ⟨rfl, rfl, rfl, rfl, rfl, trivial⟩
      · have hm7 := ifF hb13 hm7
        refine WK_exit rfl ?_
        cases hm7
        refine WK.sub ?_ (WK.cls (fun _ h => h) (hk6 ((), ()) (hd11 _ rfl)))
        exact ⟨rfl, trivial⟩
end Go.Proofs.Ytomlpofoaokmdaa
