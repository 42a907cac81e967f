import Derived.Test.YtcaeieofjchpjaaTab
import Derived.Test.YtcaeieofjchpjaaM
import Derived.Test.YtcaeieofjchpjaaV1
set_option linter.unusedVariables false
set_option maxRecDepth 100000
set_option maxHeartbeats 4000000
namespace Go.Proofs.Ytcaeieofjchpjaa
open Go.E Go.RowKit
attribute [local irreducible] Go.E.WO Go.E.WK
theorem slices_IndexFunc_sapi_Spot_walk {m : Mu} {p0 : List (Int × Int × Int)} {p1 : Int → Int → Int → Option Bool} {a_p0 : Option Addr} {q_p0 c_p0 : Nat} {p1v : Value} (h_p0 : SlR (FE T3) 3 m (.slice a_p0 q_p0 c_p0) p0) (hp1 : ∀ (m1 : Mu), Le m m1 → ∀ (u1 : Int), ∀ (u2 : Int), ∀ (u3 : Int), ∀ (r : Bool), p1 u1 u2 u3 = some r → SpecV Try.prog p1v [.agg #[.int .i64 u1, .int .i64 u2, .int .i64 u3]] m1 (fun v _ _ => v = .bool r)) {r : Int} (hm : slices_IndexFunc_sapi_Spot p0 p1 = some r) :
    Go.E.Spec Try.prog 57 [.slice a_p0 q_p0 c_p0, p1v] m (fun v _ _ => v = .int .i64 r) := by
  refine Spec_enter Try.func57 rfl rfl rfl (fun w0 => ?_)
  refine WK.sub (e' := [(0, .slice a_p0 q_p0 c_p0), (1, p1v)]) ⟨rfl, rfl, trivial⟩ ?_
  obtain rfl := SlR.qlen h_p0
  refine WK.sub (e' := [(0, .slice a_p0 p0.length c_p0), (1, p1v)]) ⟨rfl, rfl, trivial⟩ ?_
  unfold slices_IndexFunc_sapi_Spot at hm
  refine WK_seq ?_
  refine WK_region ?_
  refine WO_pure tbok 1 [(0, .slice a_p0 p0.length c_p0), (1, p1v), (4, .int .i64 0)] rfl ⟨rfl, rfl, rfl, trivial⟩ ?_
  refine WO_end ?_
  refine WK_seq ?_
  refine WK_seq ?_
  refine WK_region ?_
  refine WO_pure tbok 3 [(0, .slice a_p0 p0.length c_p0), (1, p1v), (4, .int .i64 0), (7, .int .i64 (p0.length : Int)), (8, .int .i64 0)] rfl ⟨rfl, rfl, rfl, rfl, rfl, trivial⟩ ?_
  refine WO_end ?_
  obtain ⟨x1, hx2, hm⟩ := bind_some hm
  refine WK_join (β := Unit × Unit) (fun p => Sum.inr p.1 = x1) (fun p => [(4, .int .i64 0)]) (fun p => St w0 m m []) ?_ (fun hk3 => ?_)
  · rintro ⟨⟨⟩, ⟨⟩⟩ hq9
    subst hq9
    refine WK.sub (e' := [(4, .int .i64 0)]) ⟨rfl, trivial⟩ (WK.cls (C' := St w0 m m []) (fun _ h => h) ?_)
    refine WK_seq ?_
    refine WK_region ?_
    refine WO_pure tbok 1 [(4, .int .i64 (-1))] rfl ⟨rfl, trivial⟩ ?_
    refine WO_end ?_
    cases hm
    exact WK_ret (ret_out (L := []) (RLc_tmp rfl RLc_nil) (List.nil_sublist _) rfl)
  · refine WK_block ?_
    refine WK_loop (S := Int) (G := Unit) (fun s => slices_IndexFunc_sapi_Spot_s1 p0 p1 s) (fun s g => [(0, .slice a_p0 p0.length c_p0), (1, p1v), (4, .int .i64 0), (7, .int .i64 (p0.length : Int)), (8, .int .i64 s)]) (fun s g => St w0 m m []) (fun s g => True) FUEL 0 () x1 hx2 trivial ⟨rfl, rfl, rfl, rfl, rfl, trivial⟩ (fun _ h => h) ?_
    rintro s_1 ⟨⟩ o5 fl6 hm4 - hn7 hd8
    have hm4 : slices_IndexFunc_sapi_Spot_s1 p0 p1 s_1 = some o5 := hm4
    unfold slices_IndexFunc_sapi_Spot_s1 at hm4
    refine WK.sub (e' := [(0, .slice a_p0 p0.length c_p0), (1, p1v), (4, .int .i64 0), (7, .int .i64 (p0.length : Int)), (8, .int .i64 s_1)]) ⟨rfl, rfl, rfl, rfl, rfl, trivial⟩ (WK.cls (C' := St w0 m m []) (fun _ h => h) ?_)
    refine WK_seq ?_
    refine WK_region ?_
    refine WO_pure tbok 1 [(0, .slice a_p0 p0.length c_p0), (1, p1v), (4, .int .i64 0), (7, .int .i64 (p0.length : Int)), (8, .int .i64 s_1), (9, .bool (decide (s_1 < (p0.length : Int))))] rfl ⟨rfl, rfl, rfl, rfl, rfl, rfl, trivial⟩ ?_
    refine WO_end ?_
    refine WK_seq ?_
    refine WK_cond (b := decide (s_1 < (p0.length : Int))) rfl (fun hb10 => ?_) (fun hb10 => ?_)
    · have hm4 := ifT hb10 hm4
      refine WK_skip ?_
      refine WK_seq ?_
      refine WK_block ?_
      refine WK_seq ?_
      refine WK_region ?_
      refine WO_pure tbok 2 [(0, .slice a_p0 p0.length c_p0), (1, p1v), (4, .int .i64 0), (5, .int .i64 s_1), (7, .int .i64 (p0.length : Int)), (8, .int .i64 s_1)] rfl ⟨rfl, rfl, rfl, rfl, rfl, rfl, trivial⟩ ?_
      refine WO_end ?_
      refine WK_seq ?_
      refine WK_region ?_
      refine WO_pure tbok 3 [(0, .slice a_p0 p0.length c_p0), (1, p1v), (4, .int .i64 0), (5, .int .i64 s_1), (7, .int .i64 (p0.length : Int)), (8, .int .i64 s_1), (11, p1v), (12, .slice a_p0 p0.length c_p0), (13, .int .i64 s_1)] rfl ⟨rfl, rfl, rfl, rfl, rfl, rfl, rfl, rfl, rfl, trivial⟩ ?_
      obtain ⟨v_2, hy11, hm4⟩ := bind_some hm4
      obtain ⟨hc12, hy11⟩ := ix_some hy11
      refine WO_index tbok rfl rfl rfl rfl rfl rfl rfl rfl (SlR.addr h_p0) hc12 ?_
      refine WO_loadE tbok rfl rfl rfl rfl (fun _ h => St.sat h) h_p0 hy11 rfl ?_
      obtain ⟨y_3, hc13, hm4⟩ := bind_some hm4
      obtain ⟨f0, first0, cap0, hf0, hcal0, hsp0⟩ := hp1 _ (Le.refl _) v_2.1 v_2.2.1 v_2.2.2 _ hc13
      refine WO_call0 (.bool y_3) rfl rfl trivial rfl rfl rfl rfl St_closed ⟨f0, first0, cap0, hf0, hcal0, fun w hw => ⟨m, hw.sat, hsp0⟩⟩ ?_
      refine WO_end ?_
      refine WK_cond (b := y_3) rfl (fun hb14 => ?_) (fun hb14 => ?_)
      · have hm4 := ifT hb14 hm4
        refine WK_seq ?_
        refine WK_region ?_
        refine WO_pure tbok 2 [(0, .slice a_p0 p0.length c_p0), (1, p1v), (4, .int .i64 s_1), (7, .int .i64 (p0.length : Int)), (8, .int .i64 s_1)] rfl ⟨rfl, rfl, rfl, rfl, rfl, trivial⟩ ?_
        refine WO_end ?_
        cases hm4
        have hq := hd8 _ rfl
        subst hq
        have hm : some _ = some _ := hm
        cases hm
        exact WK_ret (ret_out (L := []) (RLc_tmp rfl RLc_nil) (List.nil_sublist _) rfl)
      · have hm4 := ifF hb14 hm4
        refine WK_skip ?_
        refine WK_blk ?_
        refine WK_region ?_
        refine WO_pure tbok 2 [(0, .slice a_p0 p0.length c_p0), (1, p1v), (4, .int .i64 0), (7, .int .i64 (p0.length : Int)), (8, .int .i64 (w64 (s_1 + 1)))] rfl ⟨rfl, rfl, rfl, rfl, rfl, trivial⟩ ?_
        refine WO_end ?_
        cases hm4
        refine WK.sub ?_ (WK.cls (fun _ h => h) (hn7 _ () rfl trivial))
        exact ⟨rfl, rfl, rfl, rfl, rfl, trivial⟩
    · have hm4 := ifF hb10 hm4
      refine WK_exit rfl ?_
      cases hm4
      refine WK.sub ?_ (WK.cls (fun _ h => h) (hk3 ((), ()) (hd8 _ rfl)))
      exact ⟨rfl, trivial⟩
theorem slices_ContainsFunc_sapi_Spot_walk {m : Mu} {p0 : List (Int × Int × Int)} {p1 : Int → Int → Int → Option Bool} {a_p0 : Option Addr} {q_p0 c_p0 : Nat} {p1v : Value} (h_p0 : SlR (FE T3) 3 m (.slice a_p0 q_p0 c_p0) p0) (hp1 : ∀ (m1 : Mu), Le m m1 → ∀ (u1 : Int), ∀ (u2 : Int), ∀ (u3 : Int), ∀ (r : Bool), p1 u1 u2 u3 = some r → SpecV Try.prog p1v [.agg #[.int .i64 u1, .int .i64 u2, .int .i64 u3]] m1 (fun v _ _ => v = .bool r)) {r : Bool} (hm : slices_ContainsFunc_sapi_Spot p0 p1 = some r) :
    Go.E.Spec Try.prog 39 [.slice a_p0 q_p0 c_p0, p1v] m (fun v _ _ => v = .bool r) := by
  refine Spec_enter Try.func39 rfl rfl rfl (fun w0 => ?_)
  refine WK.sub (e' := [(0, .slice a_p0 q_p0 c_p0), (1, p1v)]) ⟨rfl, rfl, trivial⟩ ?_
  obtain rfl := SlR.qlen h_p0
  refine WK.sub (e' := [(0, .slice a_p0 p0.length c_p0), (1, p1v)]) ⟨rfl, rfl, trivial⟩ ?_
  unfold slices_ContainsFunc_sapi_Spot at hm
  refine WK_seq ?_
  refine WK_region ?_
  refine WO_pure tbok 1 [(0, .slice a_p0 p0.length c_p0), (1, p1v), (4, .bool false)] rfl ⟨rfl, rfl, rfl, trivial⟩ ?_
  refine WO_end ?_
  refine WK_seq ?_
  refine WK_region ?_
  refine WO_pure tbok 2 [(4, .bool false), (5, .slice a_p0 p0.length c_p0), (6, p1v)] rfl ⟨rfl, rfl, rfl, trivial⟩ ?_
  obtain ⟨y_1, hc1, hm⟩ := bind_some hm
  refine WO_call0 (.int .i64 y_1) rfl rfl trivial rfl rfl rfl rfl St_closed ⟨57, #[], #[], rfl, callable_57, fun w hw => ⟨_, hw.sat, slices_IndexFunc_sapi_Spot_walk h_p0 hp1 hc1⟩⟩ ?_
  refine WO_pure tbok 2 [(4, .bool (decide (0 ≤ y_1)))] rfl ⟨rfl, trivial⟩ ?_
  refine WO_end ?_
  cases hm
  exact WK_ret (ret_out (L := []) (RLc_tmp rfl RLc_nil) (List.nil_sublist _) rfl)
theorem terrain_Surface_c1_walk {m : Mu} {p0_0 : Int} {p0_1 : Int} {p0_2 : Int}   {r : Bool} (hm : terrain_Surface_c1 p0_0 p0_1 p0_2 = some r) :
    Go.E.Spec Try.prog 40 [.agg #[.int .i64 p0_0, .int .i64 p0_1, .int .i64 p0_2]] m (fun v _ _ => v = .bool r) := by
  refine Spec_enter Try.func40 rfl rfl rfl (fun w0 => ?_)
  refine WK.sub (e' := [(0, .agg #[.int .i64 p0_0, .int .i64 p0_1, .int .i64 p0_2])]) ⟨rfl, trivial⟩ ?_
  refine WK.sub (e' := [(0, .agg #[.int .i64 p0_0, .int .i64 p0_1, .int .i64 p0_2])]) ⟨rfl, trivial⟩ ?_
  unfold terrain_Surface_c1 at hm
  refine WK_seq ?_
  refine WK_region ?_
  refine WO_box [.int .i64 p0_0, .int .i64 p0_1, .int .i64 p0_2] rfl rfl trivial rfl rfl rfl (fun b1 => ?_)
  refine WO.cls (C' := St w0 m m [[⟨b1, 60, [.int .i64 p0_0, .int .i64 p0_1, .int .i64 p0_2]⟩]]) (fun _ h => h) ?_
  refine WO_pure tbok 1 [(1, .pointer (some ⟨b1, 0, none⟩)), (2, .bool false)] rfl ⟨rfl, rfl, trivial⟩ ?_
  refine WO_end ?_
  refine WK_seq ?_
  refine WK_region ?_
  refine WO_pure tbok 1 [(1, .pointer (some ⟨b1, 0, none⟩)), (2, .bool false), (3, .pointer (some ⟨b1, 0, none⟩))] rfl ⟨rfl, rfl, rfl, trivial⟩ ?_
  refine WO_loadB tbok 0 rfl rfl rfl rfl (fun _ h => h) rfl rfl ?_
  obtain ⟨y_1, hc2, hm⟩ := bind_some hm
  refine WO_call0 (.bool y_1) rfl rfl trivial rfl rfl rfl rfl St_closed ⟨41, #[], #[], rfl, callable_41, fun w hw => ⟨_, hw.sat, terrain_far_walk hc2⟩⟩ ?_
  refine WO_pure tbok 1 [(1, .pointer (some ⟨b1, 0, none⟩)), (2, .bool false), (6, .bool y_1)] rfl ⟨rfl, rfl, rfl, trivial⟩ ?_
  refine WO_split (d := 6) (b := y_1) rfl (fun hb3 => ?_) (fun hb3 => ?_)
  · have hm := ifT hb3 hm
    refine WO_pure tbok 2 [(1, .pointer (some ⟨b1, 0, none⟩)), (2, .bool false), (6, .bool true)] rfl ⟨rfl, rfl, rfl, trivial⟩ ?_
    refine WO_skip rfl rfl ?_
    refine WO_pure tbok 4 [(2, .bool false), (11, .bool true)] rfl ⟨rfl, rfl, trivial⟩ ?_
    refine WO_skip rfl rfl ?_
    refine WO_pure tbok 2 [(2, .bool true)] rfl ⟨rfl, trivial⟩ ?_
    refine WO_end ?_
    cases hm
    exact WK_ret (ret_out (L := []) (RLc_tmp rfl RLc_nil) (List.nil_sublist _) rfl)
  · have hm := ifF hb3 hm
    refine WO_pure tbok 1 [(1, .pointer (some ⟨b1, 0, none⟩)), (2, .bool false), (6, .bool false), (7, .pointer (some ⟨b1, 1, none⟩))] rfl ⟨rfl, rfl, rfl, rfl, trivial⟩ ?_
    refine WO_loadB tbok 0 rfl rfl rfl rfl (fun _ h => h) rfl rfl ?_
    obtain ⟨y_2, hc4, hm⟩ := bind_some hm
    refine WO_call0 (.bool y_2) rfl rfl trivial rfl rfl rfl rfl St_closed ⟨41, #[], #[], rfl, callable_41, fun w hw => ⟨_, hw.sat, terrain_far_walk hc4⟩⟩ ?_
    refine WO_pure tbok 2 [(1, .pointer (some ⟨b1, 0, none⟩)), (2, .bool false), (11, .bool y_2)] rfl ⟨rfl, rfl, rfl, trivial⟩ ?_
    refine WO_split (d := 11) (b := y_2) rfl (fun hb5 => ?_) (fun hb5 => ?_)
    · have hm := ifT hb5 hm
      refine WO_pure tbok 2 [(2, .bool false), (11, .bool true)] rfl ⟨rfl, rfl, trivial⟩ ?_
      refine WO_skip rfl rfl ?_
      refine WO_pure tbok 2 [(2, .bool true)] rfl ⟨rfl, trivial⟩ ?_
      refine WO_end ?_
      cases hm
      exact WK_ret (ret_out (L := []) (RLc_tmp rfl RLc_nil) (List.nil_sublist _) rfl)
    · have hm := ifF hb5 hm
      refine WO_pure tbok 1 [(2, .bool false), (11, .bool false), (12, .pointer (some ⟨b1, 2, none⟩))] rfl ⟨rfl, rfl, rfl, trivial⟩ ?_
      refine WO_loadB tbok 0 rfl rfl rfl rfl (fun _ h => h) rfl rfl ?_
      obtain ⟨y_3, hc6, hm⟩ := bind_some hm
      refine WO_call0 (.bool y_3) rfl rfl trivial rfl rfl rfl rfl St_closed ⟨41, #[], #[], rfl, callable_41, fun w hw => ⟨_, hw.sat, terrain_far_walk hc6⟩⟩ ?_
      refine WO_pure tbok 2 [(2, .bool y_3)] rfl ⟨rfl, trivial⟩ ?_
      refine WO_end ?_
      cases hm
      exact WK_ret (ret_out (L := []) (RLc_tmp rfl RLc_nil) (List.nil_sublist _) rfl)
theorem terrain_cell_walk {m : Mu} {p0 : Int} {p1 : Int} {p2 : Int} {p3 : Int}   {r : Int} (hm : terrain_cell p0 p1 p2 p3 = some r) :
    Go.E.Spec Try.prog 43 [.int .i64 p0, .int .i64 p1, .int .i64 p2, .int .i64 p3] m (fun v _ _ => v = .int .i64 r) := by
  refine Spec_enter Try.func43 rfl rfl rfl (fun w0 => ?_)
  refine WK.sub (e' := [(0, .int .i64 p0), (1, .int .i64 p1), (2, .int .i64 p2), (3, .int .i64 p3)]) ⟨rfl, rfl, rfl, rfl, trivial⟩ ?_
  refine WK.sub (e' := [(0, .int .i64 p0), (1, .int .i64 p1), (2, .int .i64 p2), (3, .int .i64 p3)]) ⟨rfl, rfl, rfl, rfl, trivial⟩ ?_
  unfold terrain_cell at hm
  refine WK_seq ?_
  refine WK_region ?_
  refine WO_pure tbok 1 [(0, .int .i64 p0), (1, .int .i64 p1), (2, .int .i64 p2), (3, .int .i64 p3), (8, .int .i64 0)] rfl ⟨rfl, rfl, rfl, rfl, rfl, trivial⟩ ?_
  refine WO_end ?_
  refine WK_seq ?_
  refine WK_region ?_
  refine WO_pure tbok 7 [(2, .int .i64 p2), (3, .int .i64 p3), (8, .int .i64 0), (9, .int .i64 (w64 ((w64 (p0 - p1)) + (w64 (Int.tdiv p2 2)))))] rfl ⟨rfl, rfl, rfl, rfl, trivial⟩ ?_
  refine WO_end ?_
  refine WK_seq ?_
  refine WK_seq ?_
  obtain ⟨s_1, hx1, hm⟩ := bind_some hm
  refine WK_meet [(2, .int .i64 p2), (8, .int .i64 0), (9, .int .i64 (w64 ((w64 (p0 - p1)) + (w64 (Int.tdiv p2 2))))), (24, .bool s_1)] (St w0 m m []) ?_ (fun hk2 => ?_)
  · refine WK_cond (b := s_1) rfl (fun hb3 => ?_) (fun hb3 => ?_)
    · have hm := ifT hb3 hm
      refine WK_seq ?_
      refine WK_region ?_
      refine WO_pure tbok 1 [(2, .int .i64 p2), (8, .int .i64 (-1)), (9, .int .i64 (w64 ((w64 (p0 - p1)) + (w64 (Int.tdiv p2 2)))))] rfl ⟨rfl, rfl, rfl, trivial⟩ ?_
      refine WO_end ?_
      cases hm
      exact WK_ret (ret_out (L := []) (RLc_tmp rfl RLc_nil) (List.nil_sublist _) rfl)
    · have hm := ifF hb3 hm
      refine WK_skip ?_
      refine WK_seq ?_
      refine WK_region ?_
      refine WO_pure tbok 2 [(8, .int .i64 0), (25, .int .i64 (w64 ((w64 (p0 - p1)) + (w64 (Int.tdiv p2 2))))), (26, .int .i64 p2)] rfl ⟨rfl, rfl, rfl, trivial⟩ ?_
      obtain ⟨hc4, hm⟩ := chk_some hm
      refine WO_quo rfl rfl rfl rfl rfl hc4 ?_
      refine WO_pure tbok 1 [(8, .int .i64 (w64 (Int.tdiv (w64 ((w64 (p0 - p1)) + (w64 (Int.tdiv p2 2)))) p2)))] rfl ⟨rfl, trivial⟩ ?_
      refine WO_end ?_
      cases hm
      exact WK_ret (ret_out (L := []) (RLc_tmp rfl RLc_nil) (List.nil_sublist _) rfl)
  · refine WK_region ?_
    refine WO_pure tbok 3 [(2, .int .i64 p2), (3, .int .i64 p3), (8, .int .i64 0), (9, .int .i64 (w64 ((w64 (p0 - p1)) + (w64 (Int.tdiv p2 2))))), (18, .bool (decide ((w64 ((w64 (p0 - p1)) + (w64 (Int.tdiv p2 2)))) < 0)))] rfl ⟨rfl, rfl, rfl, rfl, rfl, trivial⟩ ?_
    refine WO_split (d := 18) (b := decide ((w64 ((w64 (p0 - p1)) + (w64 (Int.tdiv p2 2)))) < 0)) rfl (fun hb5 => ?_) (fun hb5 => ?_)
    · have hx1 := ifT hb5 hx1
      refine WO_pure tbok 6 [(2, .int .i64 p2), (8, .int .i64 0), (9, .int .i64 (w64 ((w64 (p0 - p1)) + (w64 (Int.tdiv p2 2))))), (24, .bool true)] rfl ⟨rfl, rfl, rfl, rfl, trivial⟩ ?_
      refine WO_end ?_
      cases hx1
      refine WK.sub ?_ (WK.cls (fun _ h => h) hk2)
      exact ⟨rfl, rfl, rfl, rfl, trivial⟩
    · have hx1 := ifF hb5 hx1
      refine WO_pure tbok 2 [(2, .int .i64 p2), (3, .int .i64 p3), (8, .int .i64 0), (9, .int .i64 (w64 ((w64 (p0 - p1)) + (w64 (Int.tdiv p2 2))))), (18, .bool false), (19, .int .i64 (w64 ((w64 (p0 - p1)) + (w64 (Int.tdiv p2 2))))), (20, .int .i64 p2)] rfl ⟨rfl, rfl, rfl, rfl, rfl, rfl, rfl, trivial⟩ ?_
      obtain ⟨hc6, hx1⟩ := chk_some hx1
      refine WO_quo rfl rfl rfl rfl rfl hc6 ?_
      refine WO_pure tbok 3 [(2, .int .i64 p2), (8, .int .i64 0), (9, .int .i64 (w64 ((w64 (p0 - p1)) + (w64 (Int.tdiv p2 2))))), (24, .bool (decide (p3 ≤ (w64 (Int.tdiv (w64 ((w64 (p0 - p1)) + (w64 (Int.tdiv p2 2)))) p2)))))] rfl ⟨rfl, rfl, rfl, rfl, trivial⟩ ?_
      refine WO_end ?_
      cases hx1
      refine WK.sub ?_ (WK.cls (fun _ h => h) hk2)
      exact ⟨rfl, rfl, rfl, rfl, trivial⟩
def terrain_Surface_Q (r : Int × Int × Int × Int × Int × List Int × Int) : Value → Mu → List Ent → Prop := fun v m L => ∃ (a0 : Option Addr) (q0 c0 : Nat), v = .tuple #[.agg #[.int .i64 r.1, .int .i64 r.2.1, .int .i64 r.2.2.1, .int .i64 r.2.2.2.1, .int .i64 r.2.2.2.2.1, .slice a0 q0 c0], .int .i64 r.2.2.2.2.2.2] ∧ SlR (FE (I1 .i64)) 1 m (.slice a0 q0 c0) r.2.2.2.2.2.1
theorem terrain_Surface_walk {m : Mu} {p0 : List (Int × Int × Int)} {p1_0 : Int} {p1_1 : Int} {p1_2 : Int} {p1_3 : Int} {p1_4 : Int} {p1_5 : List Int} {a_p0 : Option Addr} {q_p0 c_p0 : Nat} {a_p1_5 : Option Addr} {q_p1_5 c_p1_5 : Nat} (h_p0 : SlR (FE T3) 3 m (.slice a_p0 q_p0 c_p0) p0) (h_p1_5 : SlR (FE (I1 .i64)) 1 m (.slice a_p1_5 q_p1_5 c_p1_5) p1_5) {r : Int × Int × Int × Int × Int × List Int × Int} (hm : terrain_Surface p0 p1_0 p1_1 p1_2 p1_3 p1_4 p1_5 = some r) :
    Go.E.Spec Try.prog 13 [.slice a_p0 q_p0 c_p0, .agg #[.int .i64 p1_0, .int .i64 p1_1, .int .i64 p1_2, .int .i64 p1_3, .int .i64 p1_4, .slice a_p1_5 q_p1_5 c_p1_5]] m (terrain_Surface_Q r) := by
  refine Spec_enter Try.func13 rfl rfl rfl (fun w0 => ?_)
  refine WK.sub (e' := [(0, .slice a_p0 q_p0 c_p0), (1, .agg #[.int .i64 p1_0, .int .i64 p1_1, .int .i64 p1_2, .int .i64 p1_3, .int .i64 p1_4, .slice a_p1_5 q_p1_5 c_p1_5])]) ⟨rfl, rfl, trivial⟩ ?_
  obtain rfl := SlR.qlen h_p0
  obtain rfl := SlR.qlen h_p1_5
  refine WK.sub (e' := [(0, .slice a_p0 p0.length c_p0), (1, .agg #[.int .i64 p1_0, .int .i64 p1_1, .int .i64 p1_2, .int .i64 p1_3, .int .i64 p1_4, .slice a_p1_5 p1_5.length c_p1_5])]) ⟨rfl, rfl, trivial⟩ ?_
  unfold terrain_Surface at hm
  refine WK_seq ?_
  refine WK_region ?_
  refine WO_box [.int .i64 p1_0, .int .i64 p1_1, .int .i64 p1_2, .int .i64 p1_3, .int .i64 p1_4, .slice a_p1_5 p1_5.length c_p1_5] rfl rfl trivial rfl rfl rfl (fun b1 => ?_)
  refine WO.cls (C' := St w0 m m [[⟨b1, 25, [.int .i64 p1_0, .int .i64 p1_1, .int .i64 p1_2, .int .i64 p1_3, .int .i64 p1_4, .slice a_p1_5 p1_5.length c_p1_5]⟩]]) (fun _ h => h) ?_
  refine WO_alloc tbok [.int .i64 0, .int .i64 0, .int .i64 0, .int .i64 0, .int .i64 0, .slice none 0 0] rfl rfl trivial rfl rfl rfl rfl (fun b2 => ?_)
  refine WO.cls (C' := St w0 m m [[⟨b1, 25, [.int .i64 p1_0, .int .i64 p1_1, .int .i64 p1_2, .int .i64 p1_3, .int .i64 p1_4, .slice a_p1_5 p1_5.length c_p1_5]⟩], [⟨b2, 25, [.int .i64 0, .int .i64 0, .int .i64 0, .int .i64 0, .int .i64 0, .slice none 0 0]⟩]]) (fun _ h => h) ?_
  refine WO_pure tbok 1 [(0, .slice a_p0 p0.length c_p0), (3, .pointer (some ⟨b1, 0, none⟩)), (4, .pointer (some ⟨b2, 0, none⟩)), (5, .int .i64 0)] rfl ⟨rfl, rfl, rfl, rfl, trivial⟩ ?_
  refine WO_end ?_
  refine WK_seq ?_
  refine WK_seq ?_
  refine WK_region ?_
  refine WO_loadB tbok 0 rfl rfl rfl rfl (fun _ h => h) rfl rfl ?_
  obtain ⟨y_1, hc3, hm⟩ := bind_some hm
  refine WO_call0 (.int .i64 y_1) rfl rfl trivial rfl rfl rfl rfl St_closed ⟨16, #[], #[], rfl, callable_16, fun w hw => ⟨_, hw.sat, terrain_Check_walk h_p1_5 hc3⟩⟩ ?_
  refine WO_pure tbok 1 [(0, .slice a_p0 p0.length c_p0), (3, .pointer (some ⟨b1, 0, none⟩)), (4, .pointer (some ⟨b2, 0, none⟩)), (5, .int .i64 0), (6, .int .i64 y_1)] rfl ⟨rfl, rfl, rfl, rfl, rfl, trivial⟩ ?_
  refine WO_end ?_
  refine WK_seq ?_
  refine WK_region ?_
  refine WO_pure tbok 2 [(0, .slice a_p0 p0.length c_p0), (3, .pointer (some ⟨b1, 0, none⟩)), (4, .pointer (some ⟨b2, 0, none⟩)), (5, .int .i64 0), (6, .int .i64 y_1), (16, .bool (y_1 != 0))] rfl ⟨rfl, rfl, rfl, rfl, rfl, rfl, trivial⟩ ?_
  refine WO_end ?_
  refine WK_cond (b := y_1 != 0) rfl (fun hb4 => ?_) (fun hb4 => ?_)
  · have hm := ifT hb4 hm
    refine WK_seq ?_
    refine WK_region ?_
    refine WO_pure tbok 2 [(0, .slice a_p0 p0.length c_p0), (3, .pointer (some ⟨b1, 0, none⟩)), (4, .pointer (some ⟨b2, 0, none⟩)), (5, .int .i64 0), (17, .agg #[.int .i64 0, .int .i64 0, .int .i64 0, .int .i64 0, .int .i64 0, .slice none 0 0]), (18, .int .i64 y_1)] rfl ⟨rfl, rfl, rfl, rfl, rfl, rfl, trivial⟩ ?_
    refine WO_storeB tbok 1 [.int .i64 0, .int .i64 0, .int .i64 0, .int .i64 0, .int .i64 0, .slice none 0 0] rfl rfl rfl rfl rfl rfl rfl ?_
    refine WO.cls (C' := St w0 m m [[⟨b1, 25, [.int .i64 p1_0, .int .i64 p1_1, .int .i64 p1_2, .int .i64 p1_3, .int .i64 p1_4, .slice a_p1_5 p1_5.length c_p1_5]⟩], [⟨b2, 25, [.int .i64 0, .int .i64 0, .int .i64 0, .int .i64 0, .int .i64 0, .slice none 0 0]⟩]]) (fun _ h => h) ?_
    refine WO_pure tbok 1 [(0, .slice a_p0 p0.length c_p0), (3, .pointer (some ⟨b1, 0, none⟩)), (4, .pointer (some ⟨b2, 0, none⟩)), (5, .int .i64 y_1)] rfl ⟨rfl, rfl, rfl, rfl, trivial⟩ ?_
    refine WO_end ?_
    cases hm
    exact WK_ret (ret_out (L := []) (RLc_cell tbok 1 rfl rfl rfl (RLc_tmp rfl RLc_nil)) (List.nil_sublist _) ⟨none, 0, 0, rfl, SlR_nil⟩)
  · have hm := ifF hb4 hm
    refine WK_skip ?_
    refine WK_seq ?_
    refine WK_seq ?_
    refine WK_region ?_
    refine WO_pure tbok 3 [(0, .slice a_p0 p0.length c_p0), (3, .pointer (some ⟨b1, 0, none⟩)), (4, .pointer (some ⟨b2, 0, none⟩)), (5, .int .i64 0), (21, .bool (decide (4096 < (p0.length : Int))))] rfl ⟨rfl, rfl, rfl, rfl, rfl, trivial⟩ ?_
    refine WO_end ?_
    refine WK_cond (b := decide (4096 < (p0.length : Int))) rfl (fun hb5 => ?_) (fun hb5 => ?_)
    · have hm := ifT hb5 hm
      refine WK_seq ?_
      refine WK_region ?_
      refine WO_pure tbok 1 [(0, .slice a_p0 p0.length c_p0), (3, .pointer (some ⟨b1, 0, none⟩)), (4, .pointer (some ⟨b2, 0, none⟩)), (5, .int .i64 0), (22, .agg #[.int .i64 0, .int .i64 0, .int .i64 0, .int .i64 0, .int .i64 0, .slice none 0 0])] rfl ⟨rfl, rfl, rfl, rfl, rfl, trivial⟩ ?_
      refine WO_storeB tbok 1 [.int .i64 0, .int .i64 0, .int .i64 0, .int .i64 0, .int .i64 0, .slice none 0 0] rfl rfl rfl rfl rfl rfl rfl ?_
      refine WO.cls (C' := St w0 m m [[⟨b1, 25, [.int .i64 p1_0, .int .i64 p1_1, .int .i64 p1_2, .int .i64 p1_3, .int .i64 p1_4, .slice a_p1_5 p1_5.length c_p1_5]⟩], [⟨b2, 25, [.int .i64 0, .int .i64 0, .int .i64 0, .int .i64 0, .int .i64 0, .slice none 0 0]⟩]]) (fun _ h => h) ?_
      refine WO_pure tbok 1 [(0, .slice a_p0 p0.length c_p0), (3, .pointer (some ⟨b1, 0, none⟩)), (4, .pointer (some ⟨b2, 0, none⟩)), (5, .int .i64 3)] rfl ⟨rfl, rfl, rfl, rfl, trivial⟩ ?_
      refine WO_end ?_
      cases hm
      exact WK_ret (ret_out (L := []) (RLc_cell tbok 1 rfl rfl rfl (RLc_tmp rfl RLc_nil)) (List.nil_sublist _) ⟨none, 0, 0, rfl, SlR_nil⟩)
    · have hm := ifF hb5 hm
      refine WK_skip ?_
      refine WK_seq ?_
      refine WK_seq ?_
      refine WK_region ?_
      refine WO_pure tbok 1 [(0, .slice a_p0 p0.length c_p0), (3, .pointer (some ⟨b1, 0, none⟩)), (4, .pointer (some ⟨b2, 0, none⟩)), (5, .int .i64 0), (23, .slice a_p0 p0.length c_p0)] rfl ⟨rfl, rfl, rfl, rfl, rfl, trivial⟩ ?_
      obtain ⟨y_5, hc6, hm⟩ := bind_some hm
      refine WO_call0 (.bool y_5) rfl rfl trivial rfl rfl rfl rfl St_closed ⟨39, #[], #[], rfl, callable_39, fun w hw => ⟨_, hw.sat, slices_ContainsFunc_sapi_Spot_walk h_p0 (fun m1 hm1 z_2 z_3 z_4 _ h => specV_cap callable_40 (terrain_Surface_c1_walk h)) hc6⟩⟩ ?_
      refine WO_end ?_
      refine WK_cond (b := y_5) rfl (fun hb7 => ?_) (fun hb7 => ?_)
      · have hm := ifT hb7 hm
        refine WK_seq ?_
        refine WK_region ?_
        refine WO_pure tbok 1 [(0, .slice a_p0 p0.length c_p0), (3, .pointer (some ⟨b1, 0, none⟩)), (4, .pointer (some ⟨b2, 0, none⟩)), (5, .int .i64 0), (25, .agg #[.int .i64 0, .int .i64 0, .int .i64 0, .int .i64 0, .int .i64 0, .slice none 0 0])] rfl ⟨rfl, rfl, rfl, rfl, rfl, trivial⟩ ?_
        refine WO_storeB tbok 1 [.int .i64 0, .int .i64 0, .int .i64 0, .int .i64 0, .int .i64 0, .slice none 0 0] rfl rfl rfl rfl rfl rfl rfl ?_
        refine WO.cls (C' := St w0 m m [[⟨b1, 25, [.int .i64 p1_0, .int .i64 p1_1, .int .i64 p1_2, .int .i64 p1_3, .int .i64 p1_4, .slice a_p1_5 p1_5.length c_p1_5]⟩], [⟨b2, 25, [.int .i64 0, .int .i64 0, .int .i64 0, .int .i64 0, .int .i64 0, .slice none 0 0]⟩]]) (fun _ h => h) ?_
        refine WO_pure tbok 1 [(0, .slice a_p0 p0.length c_p0), (3, .pointer (some ⟨b1, 0, none⟩)), (4, .pointer (some ⟨b2, 0, none⟩)), (5, .int .i64 2)] rfl ⟨rfl, rfl, rfl, rfl, trivial⟩ ?_
        refine WO_end ?_
        cases hm
        exact WK_ret (ret_out (L := []) (RLc_cell tbok 1 rfl rfl rfl (RLc_tmp rfl RLc_nil)) (List.nil_sublist _) ⟨none, 0, 0, rfl, SlR_nil⟩)
      · have hm := ifF hb7 hm
        refine WK_skip ?_
        refine WK_seq ?_
        refine WK_region ?_
        refine WO_pure tbok 1 [(0, .slice a_p0 p0.length c_p0), (3, .pointer (some ⟨b1, 0, none⟩)), (4, .pointer (some ⟨b2, 0, none⟩)), (5, .int .i64 0), (26, .pointer (some ⟨b1, 5, none⟩))] rfl ⟨rfl, rfl, rfl, rfl, rfl, trivial⟩ ?_
        refine WO_loadB tbok 0 rfl rfl rfl rfl (fun _ h => h) rfl rfl ?_
        refine WO_pure tbok 1 [(0, .slice a_p0 p0.length c_p0), (3, .pointer (some ⟨b1, 0, none⟩)), (4, .pointer (some ⟨b2, 0, none⟩)), (5, .int .i64 0), (28, .int .i64 (p1_5.length : Int))] rfl ⟨rfl, rfl, rfl, rfl, rfl, trivial⟩ ?_
        obtain ⟨y_6, hc8, hm⟩ := bind_some hm
        refine WO_call1 (terrain_blank_Q y_6) rfl rfl trivial rfl rfl rfl rfl ⟨42, #[], #[], rfl, callable_42, fun w hw => ⟨_, hw.sat, terrain_blank_walk hc8⟩⟩ (fun v12 L11 hq => ?_)
        obtain ⟨a9, qa9, c10, rfl, hL11⟩ := hq
        obtain rfl := OwnE.qlen hL11
        refine WO.cls (C' := St w0 m m [[⟨b1, 25, [.int .i64 p1_0, .int .i64 p1_1, .int .i64 p1_2, .int .i64 p1_3, .int .i64 p1_4, .slice a_p1_5 p1_5.length c_p1_5]⟩], [⟨b2, 25, [.int .i64 0, .int .i64 0, .int .i64 0, .int .i64 0, .int .i64 0, .slice none 0 0]⟩], L11]) (fun _ h => h) ?_
        refine WO_pure tbok 1 [(0, .slice a_p0 p0.length c_p0), (3, .pointer (some ⟨b1, 0, none⟩)), (4, .pointer (some ⟨b2, 0, none⟩)), (5, .int .i64 0), (7, .slice a9 ((y_6).length) c10)] rfl ⟨rfl, rfl, rfl, rfl, rfl, trivial⟩ ?_
        refine WO_end ?_
        refine WK_seq ?_
        refine WK_seq ?_
        refine WK_region ?_
        refine WO_pure tbok 3 [(3, .pointer (some ⟨b1, 0, none⟩)), (4, .pointer (some ⟨b2, 0, none⟩)), (5, .int .i64 0), (7, .slice a9 ((y_6).length) c10), (30, .slice a_p0 p0.length c_p0), (31, .int .i64 (p0.length : Int)), (32, .int .i64 0)] rfl ⟨rfl, rfl, rfl, rfl, rfl, rfl, rfl, trivial⟩ ?_
        refine WO_end ?_
        obtain ⟨x15, hx16, hm⟩ := bind_some hm
        refine WK_join (β := (List Int) × (List Ent)) (fun p => p.1 = x15 ∧ OwnE 3 1 (I1 .i64) (.slice a9 ((y_6).length) c10) p.1 p.2) (fun p => [(3, .pointer (some ⟨b1, 0, none⟩)), (4, .pointer (some ⟨b2, 0, none⟩)), (5, .int .i64 0), (7, .slice a9 ((y_6).length) c10)]) (fun p => St w0 m m [[⟨b1, 25, [.int .i64 p1_0, .int .i64 p1_1, .int .i64 p1_2, .int .i64 p1_3, .int .i64 p1_4, .slice a_p1_5 p1_5.length c_p1_5]⟩], [⟨b2, 25, [.int .i64 0, .int .i64 0, .int .i64 0, .int .i64 0, .int .i64 0, .slice none 0 0]⟩], p.2]) ?_ (fun hk17 => ?_)
        · rintro ⟨l_9, L14⟩ ⟨hq23, hL14⟩
          subst hq23
          refine WK.sub (e' := [(3, .pointer (some ⟨b1, 0, none⟩)), (4, .pointer (some ⟨b2, 0, none⟩)), (5, .int .i64 0), (7, .slice a9 ((y_6).length) c10)]) ⟨rfl, rfl, rfl, rfl, trivial⟩ (WK.cls (C' := St w0 m m [[⟨b1, 25, [.int .i64 p1_0, .int .i64 p1_1, .int .i64 p1_2, .int .i64 p1_3, .int .i64 p1_4, .slice a_p1_5 p1_5.length c_p1_5]⟩], [⟨b2, 25, [.int .i64 0, .int .i64 0, .int .i64 0, .int .i64 0, .int .i64 0, .slice none 0 0]⟩], L14]) (fun _ h => h) ?_)
          refine WK_seq ?_
          refine WK_region ?_
          refine WO_loadB tbok 0 rfl rfl rfl rfl (fun _ h => h) rfl rfl ?_
          refine WO_pure tbok 1 [(4, .pointer (some ⟨b2, 0, none⟩)), (5, .int .i64 0), (77, .agg #[.int .i64 p1_0, .int .i64 p1_1, .int .i64 p1_2, .int .i64 p1_3, .int .i64 p1_4, .slice a_p1_5 p1_5.length c_p1_5]), (78, .slice a9 ((y_6).length) c10)] rfl ⟨rfl, rfl, rfl, rfl, trivial⟩ ?_
          refine WO_freeze 2 rfl (fun m24 hle25 hmm26 => ?_)
          refine WO.cls (C' := St w0 m m24 [[⟨b1, 25, [.int .i64 p1_0, .int .i64 p1_1, .int .i64 p1_2, .int .i64 p1_3, .int .i64 p1_4, .slice a_p1_5 p1_5.length c_p1_5]⟩], [⟨b2, 25, [.int .i64 0, .int .i64 0, .int .i64 0, .int .i64 0, .int .i64 0, .slice none 0 0]⟩], []]) (fun _ h => h) ?_
          obtain ⟨⟨y_10, y_11, y_12, y_13, y_14, y_15⟩, hc27, hm⟩ := bind_some hm
          refine WO_call2 (terrain_with_Q (y_10, y_11, y_12, y_13, y_14, y_15)) rfl rfl trivial rfl rfl rfl rfl ⟨44, #[], #[], rfl, callable_44, terrain_with_walk (h_p1_5.mono (mono_FE _) hle25) (OwnE.rd (E := (I1 .i64)) (k := 1) (fun _ => rfl) hL14 hmm26) hc27⟩ (fun v31 m32 L30 hle33 hq => ?_)
          obtain ⟨a28, qa28, c29, rfl, h34⟩ := hq
          obtain rfl := SlR.qlen h34
          refine WO.cls (C' := St w0 m m32 [[⟨b1, 25, [.int .i64 p1_0, .int .i64 p1_1, .int .i64 p1_2, .int .i64 p1_3, .int .i64 p1_4, .slice a_p1_5 p1_5.length c_p1_5]⟩], [⟨b2, 25, [.int .i64 0, .int .i64 0, .int .i64 0, .int .i64 0, .int .i64 0, .slice none 0 0]⟩], [], L30]) (fun _ h => h.sub (by simp)) ?_
          refine WO_storeB tbok 1 [.int .i64 y_10, .int .i64 y_11, .int .i64 y_12, .int .i64 y_13, .int .i64 y_14, .slice a28 ((y_15).length) c29] rfl rfl rfl rfl rfl rfl rfl ?_
          refine WO.cls (C' := St w0 m m32 [[⟨b1, 25, [.int .i64 p1_0, .int .i64 p1_1, .int .i64 p1_2, .int .i64 p1_3, .int .i64 p1_4, .slice a_p1_5 p1_5.length c_p1_5]⟩], [⟨b2, 25, [.int .i64 y_10, .int .i64 y_11, .int .i64 y_12, .int .i64 y_13, .int .i64 y_14, .slice a28 ((y_15).length) c29]⟩], [], L30]) (fun _ h => h) ?_
          refine WO_pure tbok 1 [(4, .pointer (some ⟨b2, 0, none⟩)), (5, .int .i64 0)] rfl ⟨rfl, rfl, trivial⟩ ?_
          refine WO_end ?_
          cases hm
          exact WK_ret (ret_out (L := []) (RLc_cell tbok 1 rfl rfl rfl (RLc_tmp rfl RLc_nil)) (List.nil_sublist _) ⟨a28, _, c29, rfl, h34⟩)
        · refine WK_block ?_
          refine WK_loop (S := List Int × Int) (G := List Ent) (fun s => terrain_Surface_s1 p0 p1_0 p1_1 p1_2 p1_3 p1_4 s.1 s.2) (fun s g => [(3, .pointer (some ⟨b1, 0, none⟩)), (4, .pointer (some ⟨b2, 0, none⟩)), (5, .int .i64 0), (7, .slice a9 ((y_6).length) c10), (30, .slice a_p0 p0.length c_p0), (31, .int .i64 (p0.length : Int)), (32, .int .i64 s.2)]) (fun s g => St w0 m m [[⟨b1, 25, [.int .i64 p1_0, .int .i64 p1_1, .int .i64 p1_2, .int .i64 p1_3, .int .i64 p1_4, .slice a_p1_5 p1_5.length c_p1_5]⟩], [⟨b2, 25, [.int .i64 0, .int .i64 0, .int .i64 0, .int .i64 0, .int .i64 0, .slice none 0 0]⟩], g]) (fun s g => OwnE 3 1 (I1 .i64) (.slice a9 ((y_6).length) c10) s.1 g) FUEL (y_6, 0) L11 x15 hx16 hL11 ⟨rfl, rfl, rfl, rfl, rfl, rfl, rfl, trivial⟩ (fun _ h => h) ?_
          rintro ⟨l_7, s_8⟩ L13 o19 fl20 hm18 hL13 hn21 hd22
          have hm18 : terrain_Surface_s1 p0 p1_0 p1_1 p1_2 p1_3 p1_4 l_7 s_8 = some o19 := hm18
          unfold terrain_Surface_s1 at hm18
          refine WK.sub (e' := [(3, .pointer (some ⟨b1, 0, none⟩)), (4, .pointer (some ⟨b2, 0, none⟩)), (5, .int .i64 0), (7, .slice a9 ((y_6).length) c10), (30, .slice a_p0 p0.length c_p0), (31, .int .i64 (p0.length : Int)), (32, .int .i64 s_8)]) ⟨rfl, rfl, rfl, rfl, rfl, rfl, rfl, trivial⟩ (WK.cls (C' := St w0 m m [[⟨b1, 25, [.int .i64 p1_0, .int .i64 p1_1, .int .i64 p1_2, .int .i64 p1_3, .int .i64 p1_4, .slice a_p1_5 p1_5.length c_p1_5]⟩], [⟨b2, 25, [.int .i64 0, .int .i64 0, .int .i64 0, .int .i64 0, .int .i64 0, .slice none 0 0]⟩], L13]) (fun _ h => h) ?_)
          refine WK_seq ?_
          refine WK_region ?_
          refine WO_pure tbok 1 [(3, .pointer (some ⟨b1, 0, none⟩)), (4, .pointer (some ⟨b2, 0, none⟩)), (5, .int .i64 0), (7, .slice a9 ((y_6).length) c10), (30, .slice a_p0 p0.length c_p0), (31, .int .i64 (p0.length : Int)), (32, .int .i64 s_8), (33, .bool (decide (s_8 < (p0.length : Int))))] rfl ⟨rfl, rfl, rfl, rfl, rfl, rfl, rfl, rfl, trivial⟩ ?_
          refine WO_end ?_
          refine WK_seq ?_
          refine WK_cond (b := decide (s_8 < (p0.length : Int))) rfl (fun hb35 => ?_) (fun hb35 => ?_)
          · have hm18 := ifT hb35 hm18
            refine WK_skip ?_
            refine WK_seq ?_
            refine WK_block ?_
            refine WK_seq ?_
            refine WK_region ?_
            obtain ⟨v_16, hy36, hm18⟩ := bind_some hm18
            obtain ⟨hc37, hy36⟩ := ix_some hy36
            refine WO_index tbok rfl rfl rfl rfl rfl rfl rfl rfl (SlR.addr h_p0) hc37 ?_
            refine WO_loadE tbok rfl rfl rfl rfl (fun _ h => St.sat h) h_p0 hy36 rfl ?_
            refine WO_alloc tbok [.int .i64 0, .int .i64 0, .int .i64 0] rfl rfl trivial rfl rfl rfl rfl (fun b38 => ?_)
            refine WO.cls (C' := St w0 m m [[⟨b1, 25, [.int .i64 p1_0, .int .i64 p1_1, .int .i64 p1_2, .int .i64 p1_3, .int .i64 p1_4, .slice a_p1_5 p1_5.length c_p1_5]⟩], [⟨b2, 25, [.int .i64 0, .int .i64 0, .int .i64 0, .int .i64 0, .int .i64 0, .slice none 0 0]⟩], L13, [⟨b38, 60, [.int .i64 0, .int .i64 0, .int .i64 0]⟩]]) (fun _ h => h) ?_
            refine WO_storeB tbok 3 [.int .i64 v_16.1, .int .i64 v_16.2.1, .int .i64 v_16.2.2] rfl rfl rfl rfl rfl rfl rfl ?_
            refine WO.cls (C' := St w0 m m [[⟨b1, 25, [.int .i64 p1_0, .int .i64 p1_1, .int .i64 p1_2, .int .i64 p1_3, .int .i64 p1_4, .slice a_p1_5 p1_5.length c_p1_5]⟩], [⟨b2, 25, [.int .i64 0, .int .i64 0, .int .i64 0, .int .i64 0, .int .i64 0, .slice none 0 0]⟩], L13, [⟨b38, 60, [.int .i64 v_16.1, .int .i64 v_16.2.1, .int .i64 v_16.2.2]⟩]]) (fun _ h => h) ?_
            refine WO_end ?_
            refine WK_seq ?_
            refine WK_draw 20 [0, 1, 2, 3, 4, 5, 6, 7, 9, 10, 11, 12, 13, 14, 15, 16, 8, 17, 18, 19] follows_ok (by kernel_rfl) St_closed ?_
            refine WO_pure tbok 1 [(3, .pointer (some ⟨b1, 0, none⟩)), (4, .pointer (some ⟨b2, 0, none⟩)), (5, .int .i64 0), (7, .slice a9 ((y_6).length) c10), (9, .pointer (some ⟨b38, 0, none⟩)), (30, .slice a_p0 p0.length c_p0), (31, .int .i64 (p0.length : Int)), (32, .int .i64 s_8), (36, .pointer (some ⟨b38, 0, none⟩))] rfl ⟨rfl, rfl, rfl, rfl, rfl, rfl, rfl, rfl, rfl, trivial⟩ ?_
            refine WO_loadB tbok 3 rfl rfl rfl rfl (fun _ h => h) rfl rfl ?_
            refine WO_pure tbok 1 [(3, .pointer (some ⟨b1, 0, none⟩)), (4, .pointer (some ⟨b2, 0, none⟩)), (5, .int .i64 0), (7, .slice a9 ((y_6).length) c10), (9, .pointer (some ⟨b38, 0, none⟩)), (30, .slice a_p0 p0.length c_p0), (31, .int .i64 (p0.length : Int)), (32, .int .i64 s_8), (37, .int .i64 v_16.1), (38, .pointer (some ⟨b1, 0, none⟩))] rfl ⟨rfl, rfl, rfl, rfl, rfl, rfl, rfl, rfl, rfl, rfl, trivial⟩ ?_
            refine WO_loadB tbok 0 rfl rfl rfl rfl (fun _ h => h) rfl rfl ?_
            refine WO_pure tbok 1 [(3, .pointer (some ⟨b1, 0, none⟩)), (4, .pointer (some ⟨b2, 0, none⟩)), (5, .int .i64 0), (7, .slice a9 ((y_6).length) c10), (9, .pointer (some ⟨b38, 0, none⟩)), (30, .slice a_p0 p0.length c_p0), (31, .int .i64 (p0.length : Int)), (32, .int .i64 s_8), (37, .int .i64 v_16.1), (39, .int .i64 p1_0), (40, .pointer (some ⟨b1, 2, none⟩))] rfl ⟨rfl, rfl, rfl, rfl, rfl, rfl, rfl, rfl, rfl, rfl, rfl, trivial⟩ ?_
            refine WO_loadB tbok 0 rfl rfl rfl rfl (fun _ h => h) rfl rfl ?_
            refine WO_pure tbok 1 [(3, .pointer (some ⟨b1, 0, none⟩)), (4, .pointer (some ⟨b2, 0, none⟩)), (5, .int .i64 0), (7, .slice a9 ((y_6).length) c10), (9, .pointer (some ⟨b38, 0, none⟩)), (30, .slice a_p0 p0.length c_p0), (31, .int .i64 (p0.length : Int)), (32, .int .i64 s_8), (37, .int .i64 v_16.1), (39, .int .i64 p1_0), (41, .int .i64 p1_2), (42, .pointer (some ⟨b1, 3, none⟩))] rfl ⟨rfl, rfl, rfl, rfl, rfl, rfl, rfl, rfl, rfl, rfl, rfl, rfl, trivial⟩ ?_
            refine WO_loadB tbok 0 rfl rfl rfl rfl (fun _ h => h) rfl rfl ?_
            refine WO_pure tbok 1 [(3, .pointer (some ⟨b1, 0, none⟩)), (4, .pointer (some ⟨b2, 0, none⟩)), (5, .int .i64 0), (7, .slice a9 ((y_6).length) c10), (9, .pointer (some ⟨b38, 0, none⟩)), (30, .slice a_p0 p0.length c_p0), (31, .int .i64 (p0.length : Int)), (32, .int .i64 s_8), (37, .int .i64 v_16.1), (39, .int .i64 p1_0), (41, .int .i64 p1_2), (43, .int .i64 p1_3), (45, .pointer (some ⟨b38, 1, none⟩))] rfl ⟨rfl, rfl, rfl, rfl, rfl, rfl, rfl, rfl, rfl, rfl, rfl, rfl, rfl, trivial⟩ ?_
            refine WO_loadB tbok 3 rfl rfl rfl rfl (fun _ h => h) rfl rfl ?_
            refine WO_pure tbok 1 [(3, .pointer (some ⟨b1, 0, none⟩)), (4, .pointer (some ⟨b2, 0, none⟩)), (5, .int .i64 0), (7, .slice a9 ((y_6).length) c10), (9, .pointer (some ⟨b38, 0, none⟩)), (30, .slice a_p0 p0.length c_p0), (31, .int .i64 (p0.length : Int)), (32, .int .i64 s_8), (37, .int .i64 v_16.1), (39, .int .i64 p1_0), (41, .int .i64 p1_2), (43, .int .i64 p1_3), (46, .int .i64 v_16.2.1), (47, .pointer (some ⟨b1, 1, none⟩))] rfl ⟨rfl, rfl, rfl, rfl, rfl, rfl, rfl, rfl, rfl, rfl, rfl, rfl, rfl, rfl, trivial⟩ ?_
            refine WO_loadB tbok 0 rfl rfl rfl rfl (fun _ h => h) rfl rfl ?_
            refine WO_pure tbok 1 [(3, .pointer (some ⟨b1, 0, none⟩)), (4, .pointer (some ⟨b2, 0, none⟩)), (5, .int .i64 0), (7, .slice a9 ((y_6).length) c10), (9, .pointer (some ⟨b38, 0, none⟩)), (30, .slice a_p0 p0.length c_p0), (31, .int .i64 (p0.length : Int)), (32, .int .i64 s_8), (37, .int .i64 v_16.1), (39, .int .i64 p1_0), (41, .int .i64 p1_2), (43, .int .i64 p1_3), (46, .int .i64 v_16.2.1), (48, .int .i64 p1_1), (49, .pointer (some ⟨b1, 2, none⟩))] rfl ⟨rfl, rfl, rfl, rfl, rfl, rfl, rfl, rfl, rfl, rfl, rfl, rfl, rfl, rfl, rfl, trivial⟩ ?_
            refine WO_loadB tbok 0 rfl rfl rfl rfl (fun _ h => h) rfl rfl ?_
            refine WO_pure tbok 1 [(3, .pointer (some ⟨b1, 0, none⟩)), (4, .pointer (some ⟨b2, 0, none⟩)), (5, .int .i64 0), (7, .slice a9 ((y_6).length) c10), (9, .pointer (some ⟨b38, 0, none⟩)), (30, .slice a_p0 p0.length c_p0), (31, .int .i64 (p0.length : Int)), (32, .int .i64 s_8), (37, .int .i64 v_16.1), (39, .int .i64 p1_0), (41, .int .i64 p1_2), (43, .int .i64 p1_3), (46, .int .i64 v_16.2.1), (48, .int .i64 p1_1), (50, .int .i64 p1_2), (51, .pointer (some ⟨b1, 4, none⟩))] rfl ⟨rfl, rfl, rfl, rfl, rfl, rfl, rfl, rfl, rfl, rfl, rfl, rfl, rfl, rfl, rfl, rfl, trivial⟩ ?_
            refine WO_loadB tbok 0 rfl rfl rfl rfl (fun _ h => h) rfl rfl ?_
            obtain ⟨y_17, hc39, hm18⟩ := bind_some hm18
            refine WO_call0 (.int .i64 y_17) rfl rfl St_closed rfl rfl rfl rfl St_closed ⟨43, #[], #[], rfl, callable_43, fun w hw => ⟨_, hw.sat, terrain_cell_walk hc39⟩⟩ ?_
            obtain ⟨y_18, hc40, hm18⟩ := bind_some hm18
            refine WO_call0 (.int .i64 y_18) rfl rfl St_closed rfl rfl rfl rfl St_closed ⟨43, #[], #[], rfl, callable_43, fun w hw => ⟨_, hw.sat, terrain_cell_walk hc40⟩⟩ ?_
            refine WO_pure tbok 2 [(3, .pointer (some ⟨b1, 0, none⟩)), (4, .pointer (some ⟨b2, 0, none⟩)), (5, .int .i64 0), (7, .slice a9 ((y_6).length) c10), (9, .pointer (some ⟨b38, 0, none⟩)), (10, .int .i64 y_17), (11, .int .i64 y_18), (30, .slice a_p0 p0.length c_p0), (31, .int .i64 (p0.length : Int)), (32, .int .i64 s_8)] rfl ⟨rfl, rfl, rfl, rfl, rfl, rfl, rfl, rfl, rfl, rfl, trivial⟩ ?_
            refine WO_tail ?_
            refine WO_end ?_
            refine WK_seq ?_
            obtain ⟨s_19, hx41, hm18⟩ := bind_some hm18
            refine WK_meet [(3, .pointer (some ⟨b1, 0, none⟩)), (4, .pointer (some ⟨b2, 0, none⟩)), (5, .int .i64 0), (7, .slice a9 ((y_6).length) c10), (9, .pointer (some ⟨b38, 0, none⟩)), (10, .int .i64 y_17), (11, .int .i64 y_18), (30, .slice a_p0 p0.length c_p0), (31, .int .i64 (p0.length : Int)), (32, .int .i64 s_8), (59, .bool s_19)] (St w0 m m [[⟨b1, 25, [.int .i64 p1_0, .int .i64 p1_1, .int .i64 p1_2, .int .i64 p1_3, .int .i64 p1_4, .slice a_p1_5 p1_5.length c_p1_5]⟩], [⟨b2, 25, [.int .i64 0, .int .i64 0, .int .i64 0, .int .i64 0, .int .i64 0, .slice none 0 0]⟩], L13, [⟨b38, 60, [.int .i64 v_16.1, .int .i64 v_16.2.1, .int .i64 v_16.2.2]⟩]]) ?_ (fun hk42 => ?_)
            · obtain ⟨l_20, hx44, hm18⟩ := bind_some hm18
              refine WK_join (β := List Ent) (fun p => OwnE 3 1 (I1 .i64) (.slice a9 ((y_6).length) c10) l_20 p) (fun p => [(3, .pointer (some ⟨b1, 0, none⟩)), (4, .pointer (some ⟨b2, 0, none⟩)), (5, .int .i64 0), (7, .slice a9 ((y_6).length) c10), (30, .slice a_p0 p0.length c_p0), (31, .int .i64 (p0.length : Int)), (32, .int .i64 s_8)]) (fun p => St w0 m m [[⟨b1, 25, [.int .i64 p1_0, .int .i64 p1_1, .int .i64 p1_2, .int .i64 p1_3, .int .i64 p1_4, .slice a_p1_5 p1_5.length c_p1_5]⟩], [⟨b2, 25, [.int .i64 0, .int .i64 0, .int .i64 0, .int .i64 0, .int .i64 0, .slice none 0 0]⟩], p, [⟨b38, 60, [.int .i64 v_16.1, .int .i64 v_16.2.1, .int .i64 v_16.2.2]⟩]]) ?_ (fun hk45 => ?_)
              · rintro L43 hL43
                refine WK.sub (e' := [(3, .pointer (some ⟨b1, 0, none⟩)), (4, .pointer (some ⟨b2, 0, none⟩)), (5, .int .i64 0), (7, .slice a9 ((y_6).length) c10), (30, .slice a_p0 p0.length c_p0), (31, .int .i64 (p0.length : Int)), (32, .int .i64 s_8)]) ⟨rfl, rfl, rfl, rfl, rfl, rfl, rfl, trivial⟩ (WK.cls (C' := St w0 m m [[⟨b1, 25, [.int .i64 p1_0, .int .i64 p1_1, .int .i64 p1_2, .int .i64 p1_3, .int .i64 p1_4, .slice a_p1_5 p1_5.length c_p1_5]⟩], [⟨b2, 25, [.int .i64 0, .int .i64 0, .int .i64 0, .int .i64 0, .int .i64 0, .slice none 0 0]⟩], L43, [⟨b38, 60, [.int .i64 v_16.1, .int .i64 v_16.2.1, .int .i64 v_16.2.2]⟩]]) (fun _ h => h) ?_)
                refine WK_blk ?_
                refine WK_region ?_
                refine WO_pure tbok 2 [(3, .pointer (some ⟨b1, 0, none⟩)), (4, .pointer (some ⟨b2, 0, none⟩)), (5, .int .i64 0), (7, .slice a9 ((y_6).length) c10), (30, .slice a_p0 p0.length c_p0), (31, .int .i64 (p0.length : Int)), (32, .int .i64 (w64 (s_8 + 1)))] rfl ⟨rfl, rfl, rfl, rfl, rfl, rfl, rfl, trivial⟩ ?_
                refine WO_end ?_
                cases hm18
                refine WK.sub ?_ (WK.cls (fun _ h => St.take 3 h) (hn21 _ L43 rfl hL43))
                exact ⟨rfl, rfl, rfl, rfl, rfl, rfl, rfl, trivial⟩
              · refine WK_cond (b := s_19) rfl (fun hb46 => ?_) (fun hb46 => ?_)
                · have hx44 := ifT hb46 hx44
                  refine WK_seq ?_
                  refine WK_region ?_
                  refine WO_pure tbok 2 [(3, .pointer (some ⟨b1, 0, none⟩)), (4, .pointer (some ⟨b2, 0, none⟩)), (5, .int .i64 0), (7, .slice a9 ((y_6).length) c10), (9, .pointer (some ⟨b38, 0, none⟩)), (10, .int .i64 y_17), (30, .slice a_p0 p0.length c_p0), (31, .int .i64 (p0.length : Int)), (32, .int .i64 s_8), (60, .int .i64 y_18), (61, .pointer (some ⟨b1, 3, none⟩))] rfl ⟨rfl, rfl, rfl, rfl, rfl, rfl, rfl, rfl, rfl, rfl, rfl, trivial⟩ ?_
                  refine WO_loadB tbok 0 rfl rfl rfl rfl (fun _ h => h) rfl rfl ?_
                  refine WO_pure tbok 4 [(3, .pointer (some ⟨b1, 0, none⟩)), (4, .pointer (some ⟨b2, 0, none⟩)), (5, .int .i64 0), (7, .slice a9 ((y_6).length) c10), (9, .pointer (some ⟨b38, 0, none⟩)), (12, .int .i64 (w64 ((w64 (y_18 * p1_3)) + y_17))), (30, .slice a_p0 p0.length c_p0), (31, .int .i64 (p0.length : Int)), (32, .int .i64 s_8)] rfl ⟨rfl, rfl, rfl, rfl, rfl, rfl, rfl, rfl, rfl, trivial⟩ ?_
                  refine WO_end ?_
                  refine WK_draw 10 [0, 1, 2, 3, 4, 5, 6, 7, 8, 9] follows_ok (by kernel_rfl) St_closed ?_
                  refine WO_pure tbok 4 [(3, .pointer (some ⟨b1, 0, none⟩)), (4, .pointer (some ⟨b2, 0, none⟩)), (5, .int .i64 0), (7, .slice a9 ((y_6).length) c10), (9, .pointer (some ⟨b38, 0, none⟩)), (30, .slice a_p0 p0.length c_p0), (31, .int .i64 (p0.length : Int)), (32, .int .i64 s_8), (66, .slice a9 ((y_6).length) c10), (67, .int .i64 (w64 ((w64 (y_18 * p1_3)) + y_17))), (68, .slice a9 ((y_6).length) c10), (69, .int .i64 (w64 ((w64 (y_18 * p1_3)) + y_17)))] rfl ⟨rfl, rfl, rfl, rfl, rfl, rfl, rfl, rfl, rfl, rfl, rfl, rfl, trivial⟩ ?_
                  obtain ⟨v_21, hy47, hx44⟩ := bind_some hx44
                  obtain ⟨hc48, hy47⟩ := ix_some hy47
                  refine WO_index tbok rfl rfl rfl rfl rfl rfl rfl rfl (OwnE.addr hL13) (by simpa using hc48) ?_
                  refine WO_loadO (E := (I1 .i64)) tbok (fun _ => rfl) 2 rfl rfl rfl rfl (fun _ h => h) hL13 rfl hy47 rfl ?_
                  refine WO_pure tbok 1 [(3, .pointer (some ⟨b1, 0, none⟩)), (4, .pointer (some ⟨b2, 0, none⟩)), (5, .int .i64 0), (7, .slice a9 ((y_6).length) c10), (30, .slice a_p0 p0.length c_p0), (31, .int .i64 (p0.length : Int)), (32, .int .i64 s_8), (66, .slice a9 ((y_6).length) c10), (67, .int .i64 (w64 ((w64 (y_18 * p1_3)) + y_17))), (71, .int .i64 v_21), (72, .pointer (some ⟨b38, 2, none⟩))] rfl ⟨rfl, rfl, rfl, rfl, rfl, rfl, rfl, rfl, rfl, rfl, rfl, trivial⟩ ?_
                  refine WO_loadB tbok 3 rfl rfl rfl rfl (fun _ h => h) rfl rfl ?_
                  refine WO_pure tbok 1 [(3, .pointer (some ⟨b1, 0, none⟩)), (4, .pointer (some ⟨b2, 0, none⟩)), (5, .int .i64 0), (7, .slice a9 ((y_6).length) c10), (30, .slice a_p0 p0.length c_p0), (31, .int .i64 (p0.length : Int)), (32, .int .i64 s_8), (66, .slice a9 ((y_6).length) c10), (67, .int .i64 (w64 ((w64 (y_18 * p1_3)) + y_17))), (74, .int .i64 (if v_21 < v_16.2.2 then v_16.2.2 else v_21))] rfl ⟨rfl, rfl, rfl, rfl, rfl, rfl, rfl, rfl, rfl, rfl, trivial⟩ ?_
                  obtain ⟨hc49, hx44⟩ := chk_some hx44
                  refine WO_index tbok rfl rfl rfl rfl rfl rfl rfl rfl (OwnE.addr hL13) (by simpa using hc49) ?_
                  refine WO_tail ?_
                  refine WO_storeO (E := (I1 .i64)) tbok (fun _ => rfl) 2 (if v_21 < v_16.2.2 then v_16.2.2 else v_21) rfl rfl rfl rfl rfl hL13 rfl (by simpa using idx_lt hc49) rfl rfl rfl rfl (fun L50 hL50 => ?_)
                  refine WO.cls (C' := St w0 m m [[⟨b1, 25, [.int .i64 p1_0, .int .i64 p1_1, .int .i64 p1_2, .int .i64 p1_3, .int .i64 p1_4, .slice a_p1_5 p1_5.length c_p1_5]⟩], [⟨b2, 25, [.int .i64 0, .int .i64 0, .int .i64 0, .int .i64 0, .int .i64 0, .slice none 0 0]⟩], L50, [⟨b38, 60, [.int .i64 v_16.1, .int .i64 v_16.2.1, .int .i64 v_16.2.2]⟩]]) (fun _ h => h) ?_
                  refine WO_end ?_
                  cases hx44
                  refine WK.sub ?_ (WK.cls (fun _ h => h) (hk45 L50 hL50))
                  exact ⟨rfl, rfl, rfl, rfl, rfl, rfl, rfl, trivial⟩
                · have hx44 := ifF hb46 hx44
                  refine WK_skip ?_
                  cases hx44
                  refine WK.sub ?_ (WK.cls (fun _ h => h) (hk45 L13 hL13))
                  exact ⟨rfl, rfl, rfl, rfl, rfl, rfl, rfl, trivial⟩
            · refine WK_region ?_
              refine WO_pure tbok 3 [(3, .pointer (some ⟨b1, 0, none⟩)), (4, .pointer (some ⟨b2, 0, none⟩)), (5, .int .i64 0), (7, .slice a9 ((y_6).length) c10), (9, .pointer (some ⟨b38, 0, none⟩)), (10, .int .i64 y_17), (11, .int .i64 y_18), (30, .slice a_p0 p0.length c_p0), (31, .int .i64 (p0.length : Int)), (32, .int .i64 s_8), (56, .bool (decide (0 ≤ y_17)))] rfl ⟨rfl, rfl, rfl, rfl, rfl, rfl, rfl, rfl, rfl, rfl, rfl, trivial⟩ ?_
              refine WO_split (d := 56) (b := decide (0 ≤ y_17)) rfl (fun hb51 => ?_) (fun hb51 => ?_)
              · have hx41 := ifT hb51 hx41
                refine WO_pure tbok 3 [(3, .pointer (some ⟨b1, 0, none⟩)), (4, .pointer (some ⟨b2, 0, none⟩)), (5, .int .i64 0), (7, .slice a9 ((y_6).length) c10), (9, .pointer (some ⟨b38, 0, none⟩)), (10, .int .i64 y_17), (11, .int .i64 y_18), (30, .slice a_p0 p0.length c_p0), (31, .int .i64 (p0.length : Int)), (32, .int .i64 s_8), (59, .bool (decide (0 ≤ y_18)))] rfl ⟨rfl, rfl, rfl, rfl, rfl, rfl, rfl, rfl, rfl, rfl, rfl, trivial⟩ ?_
                refine WO_end ?_
                cases hx41
                refine WK.sub ?_ (WK.cls (fun _ h => h) hk42)
                exact ⟨rfl, rfl, rfl, rfl, rfl, rfl, rfl, rfl, rfl, rfl, rfl, trivial⟩
              · have hx41 := ifF hb51 hx41
                refine WO_pure tbok 3 [(3, .pointer (some ⟨b1, 0, none⟩)), (4, .pointer (some ⟨b2, 0, none⟩)), (5, .int .i64 0), (7, .slice a9 ((y_6).length) c10), (9, .pointer (some ⟨b38, 0, none⟩)), (10, .int .i64 y_17), (11, .int .i64 y_18), (30, .slice a_p0 p0.length c_p0), (31, .int .i64 (p0.length : Int)), (32, .int .i64 s_8), (59, .bool false)] rfl ⟨rfl, rfl, rfl, rfl, rfl, rfl, rfl, rfl, rfl, rfl, rfl, trivial⟩ ?_
                refine WO_end ?_
                cases hx41
                refine WK.sub ?_ (WK.cls (fun _ h => h) hk42)
                exact ⟨rfl, rfl, rfl, rfl, rfl, rfl, rfl, rfl, rfl, rfl, rfl, trivial⟩
          · have hm18 := ifF hb35 hm18
            refine WK_exit rfl ?_
            cases hm18
            refine WK.sub ?_ (WK.cls (fun _ h => h) (hk17 (l_7, L13) ⟨(hd22 _ rfl), hL13⟩))
            exact ⟨rfl, rfl, rfl, rfl, trivial⟩
theorem slices_Equal_sint_walk {m : Mu} {p0 : List Int} {p1 : List Int} {a_p0 : Option Addr} {q_p0 c_p0 : Nat} {a_p1 : Option Addr} {q_p1 c_p1 : Nat} (h_p0 : SlR (FE (I1 .i64)) 1 m (.slice a_p0 q_p0 c_p0) p0) (h_p1 : SlR (FE (I1 .i64)) 1 m (.slice a_p1 q_p1 c_p1) p1) {r : Bool} (hm : slices_Equal_sint p0 p1 = some r) :
    Go.E.Spec Try.prog 38 [.slice a_p0 q_p0 c_p0, .slice a_p1 q_p1 c_p1] m (fun v _ _ => v = .bool r) := by
  refine Spec_enter Try.func38 rfl rfl rfl (fun w0 => ?_)
  refine WK.sub (e' := [(0, .slice a_p0 q_p0 c_p0), (1, .slice a_p1 q_p1 c_p1)]) ⟨rfl, rfl, trivial⟩ ?_
  obtain rfl := SlR.qlen h_p0
  obtain rfl := SlR.qlen h_p1
  refine WK.sub (e' := [(0, .slice a_p0 p0.length c_p0), (1, .slice a_p1 p1.length c_p1)]) ⟨rfl, rfl, trivial⟩ ?_
  unfold slices_Equal_sint at hm
  refine WK_seq ?_
  refine WK_region ?_
  refine WO_pure tbok 1 [(0, .slice a_p0 p0.length c_p0), (1, .slice a_p1 p1.length c_p1), (4, .bool false)] rfl ⟨rfl, rfl, rfl, trivial⟩ ?_
  refine WO_end ?_
  refine WK_seq ?_
  refine WK_seq ?_
  refine WK_region ?_
  refine WO_pure tbok 5 [(0, .slice a_p0 p0.length c_p0), (1, .slice a_p1 p1.length c_p1), (4, .bool false), (10, .bool ((p0.length : Int) != (p1.length : Int)))] rfl ⟨rfl, rfl, rfl, rfl, trivial⟩ ?_
  refine WO_end ?_
  refine WK_cond (b := (p0.length : Int) != (p1.length : Int)) rfl (fun hb1 => ?_) (fun hb1 => ?_)
  · have hm := ifT hb1 hm
    refine WK_seq ?_
    refine WK_region ?_
    refine WO_pure tbok 1 [(0, .slice a_p0 p0.length c_p0), (1, .slice a_p1 p1.length c_p1), (4, .bool false)] rfl ⟨rfl, rfl, rfl, trivial⟩ ?_
    refine WO_end ?_
    cases hm
    exact WK_ret (ret_out (L := []) (RLc_tmp rfl RLc_nil) (List.nil_sublist _) rfl)
  · have hm := ifF hb1 hm
    refine WK_skip ?_
    refine WK_seq ?_
    refine WK_seq ?_
    refine WK_region ?_
    refine WO_pure tbok 3 [(0, .slice a_p0 p0.length c_p0), (1, .slice a_p1 p1.length c_p1), (4, .bool false), (12, .int .i64 (p0.length : Int)), (13, .int .i64 0)] rfl ⟨rfl, rfl, rfl, rfl, rfl, trivial⟩ ?_
    refine WO_end ?_
    obtain ⟨x2, hx3, hm⟩ := bind_some hm
    refine WK_join (β := Unit × Unit) (fun p => Sum.inr p.1 = x2) (fun p => [(4, .bool false)]) (fun p => St w0 m m []) ?_ (fun hk4 => ?_)
    · rintro ⟨⟨⟩, ⟨⟩⟩ hq10
      subst hq10
      refine WK.sub (e' := [(4, .bool false)]) ⟨rfl, trivial⟩ (WK.cls (C' := St w0 m m []) (fun _ h => h) ?_)
      refine WK_seq ?_
      refine WK_region ?_
      refine WO_pure tbok 1 [(4, .bool true)] rfl ⟨rfl, trivial⟩ ?_
      refine WO_end ?_
      cases hm
      exact WK_ret (ret_out (L := []) (RLc_tmp rfl RLc_nil) (List.nil_sublist _) rfl)
    · refine WK_block ?_
      refine WK_loop (S := Int) (G := Unit) (fun s => slices_Equal_sint_s1 p0 p1 s) (fun s g => [(0, .slice a_p0 p0.length c_p0), (1, .slice a_p1 p1.length c_p1), (4, .bool false), (12, .int .i64 (p0.length : Int)), (13, .int .i64 s)]) (fun s g => St w0 m m []) (fun s g => True) FUEL 0 () x2 hx3 trivial ⟨rfl, rfl, rfl, rfl, rfl, trivial⟩ (fun _ h => h) ?_
      rintro s_1 ⟨⟩ o6 fl7 hm5 - hn8 hd9
      have hm5 : slices_Equal_sint_s1 p0 p1 s_1 = some o6 := hm5
      unfold slices_Equal_sint_s1 at hm5
      refine WK.sub (e' := [(0, .slice a_p0 p0.length c_p0), (1, .slice a_p1 p1.length c_p1), (4, .bool false), (12, .int .i64 (p0.length : Int)), (13, .int .i64 s_1)]) ⟨rfl, rfl, rfl, rfl, rfl, trivial⟩ (WK.cls (C' := St w0 m m []) (fun _ h => h) ?_)
      refine WK_seq ?_
      refine WK_region ?_
      refine WO_pure tbok 1 [(0, .slice a_p0 p0.length c_p0), (1, .slice a_p1 p1.length c_p1), (4, .bool false), (12, .int .i64 (p0.length : Int)), (13, .int .i64 s_1), (14, .bool (decide (s_1 < (p0.length : Int))))] rfl ⟨rfl, rfl, rfl, rfl, rfl, rfl, trivial⟩ ?_
      refine WO_end ?_
      refine WK_seq ?_
      refine WK_cond (b := decide (s_1 < (p0.length : Int))) rfl (fun hb11 => ?_) (fun hb11 => ?_)
      · have hm5 := ifT hb11 hm5
        refine WK_skip ?_
        refine WK_seq ?_
        refine WK_block ?_
        refine WK_seq ?_
        refine WK_region ?_
        refine WO_pure tbok 2 [(0, .slice a_p0 p0.length c_p0), (1, .slice a_p1 p1.length c_p1), (4, .bool false), (5, .int .i64 s_1), (12, .int .i64 (p0.length : Int)), (13, .int .i64 s_1)] rfl ⟨rfl, rfl, rfl, rfl, rfl, rfl, trivial⟩ ?_
        refine WO_end ?_
        refine WK_seq ?_
        refine WK_draw 9 [0, 1, 2, 3, 4, 5, 6, 7, 8] follows_ok (by kernel_rfl) St_closed ?_
        refine WO_pure tbok 2 [(0, .slice a_p0 p0.length c_p0), (1, .slice a_p1 p1.length c_p1), (4, .bool false), (5, .int .i64 s_1), (12, .int .i64 (p0.length : Int)), (13, .int .i64 s_1), (16, .slice a_p0 p0.length c_p0), (17, .int .i64 s_1)] rfl ⟨rfl, rfl, rfl, rfl, rfl, rfl, rfl, rfl, trivial⟩ ?_
        obtain ⟨v_2, hy12, hm5⟩ := bind_some hm5
        obtain ⟨hc13, hy12⟩ := ix_some hy12
        refine WO_index tbok rfl rfl rfl rfl rfl rfl rfl rfl (SlR.addr h_p0) hc13 ?_
        refine WO_loadE tbok rfl rfl rfl rfl (fun _ h => St.sat h) h_p0 hy12 rfl ?_
        refine WO_pure tbok 2 [(0, .slice a_p0 p0.length c_p0), (1, .slice a_p1 p1.length c_p1), (4, .bool false), (12, .int .i64 (p0.length : Int)), (13, .int .i64 s_1), (19, .int .i64 v_2), (20, .slice a_p1 p1.length c_p1), (21, .int .i64 s_1)] rfl ⟨rfl, rfl, rfl, rfl, rfl, rfl, rfl, rfl, trivial⟩ ?_
        obtain ⟨v_3, hy14, hm5⟩ := bind_some hm5
        obtain ⟨hc15, hy14⟩ := ix_some hy14
        refine WO_index tbok rfl rfl rfl rfl rfl rfl rfl rfl (SlR.addr h_p1) hc15 ?_
        refine WO_loadE tbok rfl rfl rfl rfl (fun _ h => St.sat h) h_p1 hy14 rfl ?_
        refine WO_pure tbok 1 [(0, .slice a_p0 p0.length c_p0), (1, .slice a_p1 p1.length c_p1), (4, .bool false), (12, .int .i64 (p0.length : Int)), (13, .int .i64 s_1), (24, .bool (v_2 != v_3))] rfl ⟨rfl, rfl, rfl, rfl, rfl, rfl, trivial⟩ ?_
        refine WO_tail ?_
        refine WO_end ?_
        refine WK_cond (b := v_2 != v_3) rfl (fun hb16 => ?_) (fun hb16 => ?_)
        · have hm5 := ifT hb16 hm5
          refine WK_seq ?_
          refine WK_region ?_
          refine WO_pure tbok 1 [(0, .slice a_p0 p0.length c_p0), (1, .slice a_p1 p1.length c_p1), (4, .bool false), (12, .int .i64 (p0.length : Int)), (13, .int .i64 s_1)] rfl ⟨rfl, rfl, rfl, rfl, rfl, trivial⟩ ?_
          refine WO_end ?_
          cases hm5
          have hq := hd9 _ rfl
          subst hq
          have hm : some _ = some _ := hm
          cases hm
          exact WK_ret (ret_out (L := []) (RLc_tmp rfl RLc_nil) (List.nil_sublist _) rfl)
        · have hm5 := ifF hb16 hm5
          refine WK_skip ?_
          refine WK_blk ?_
          refine WK_region ?_
          refine WO_pure tbok 2 [(0, .slice a_p0 p0.length c_p0), (1, .slice a_p1 p1.length c_p1), (4, .bool false), (12, .int .i64 (p0.length : Int)), (13, .int .i64 (w64 (s_1 + 1)))] rfl ⟨rfl, rfl, rfl, rfl, rfl, trivial⟩ ?_
          refine WO_end ?_
          cases hm5
          refine WK.sub ?_ (WK.cls (fun _ h => h) (hn8 _ () rfl trivial))
          exact ⟨rfl, rfl, rfl, rfl, rfl, trivial⟩
      · have hm5 := ifF hb11 hm5
        refine WK_exit rfl ?_
        cases hm5
        refine WK.sub ?_ (WK.cls (fun _ h => h) (hk4 ((), ()) (hd9 _ rfl)))
        exact ⟨rfl, trivial⟩
theorem slices_Equal_sbool_walk {m : Mu} {p0 : List Bool} {p1 : List Bool} {a_p0 : Option Addr} {q_p0 c_p0 : Nat} {a_p1 : Option Addr} {q_p1 c_p1 : Nat} (h_p0 : SlR (FE B1) 1 m (.slice a_p0 q_p0 c_p0) p0) (h_p1 : SlR (FE B1) 1 m (.slice a_p1 q_p1 c_p1) p1) {r : Bool} (hm : slices_Equal_sbool p0 p1 = some r) :
    Go.E.Spec Try.prog 20 [.slice a_p0 q_p0 c_p0, .slice a_p1 q_p1 c_p1] m (fun v _ _ => v = .bool r) := by
  refine Spec_enter Try.func20 rfl rfl rfl (fun w0 => ?_)
  refine WK.sub (e' := [(0, .slice a_p0 q_p0 c_p0), (1, .slice a_p1 q_p1 c_p1)]) ⟨rfl, rfl, trivial⟩ ?_
  obtain rfl := SlR.qlen h_p0
  obtain rfl := SlR.qlen h_p1
  refine WK.sub (e' := [(0, .slice a_p0 p0.length c_p0), (1, .slice a_p1 p1.length c_p1)]) ⟨rfl, rfl, trivial⟩ ?_
  unfold slices_Equal_sbool at hm
  refine WK_seq ?_
  refine WK_region ?_
  refine WO_pure tbok 1 [(0, .slice a_p0 p0.length c_p0), (1, .slice a_p1 p1.length c_p1), (4, .bool false)] rfl ⟨rfl, rfl, rfl, trivial⟩ ?_
  refine WO_end ?_
  refine WK_seq ?_
  refine WK_seq ?_
  refine WK_region ?_
  refine WO_pure tbok 5 [(0, .slice a_p0 p0.length c_p0), (1, .slice a_p1 p1.length c_p1), (4, .bool false), (10, .bool ((p0.length : Int) != (p1.length : Int)))] rfl ⟨rfl, rfl, rfl, rfl, trivial⟩ ?_
  refine WO_end ?_
  refine WK_cond (b := (p0.length : Int) != (p1.length : Int)) rfl (fun hb1 => ?_) (fun hb1 => ?_)
  · have hm := ifT hb1 hm
    refine WK_seq ?_
    refine WK_region ?_
    refine WO_pure tbok 1 [(0, .slice a_p0 p0.length c_p0), (1, .slice a_p1 p1.length c_p1), (4, .bool false)] rfl ⟨rfl, rfl, rfl, trivial⟩ ?_
    refine WO_end ?_
    cases hm
    exact WK_ret (ret_out (L := []) (RLc_tmp rfl RLc_nil) (List.nil_sublist _) rfl)
  · have hm := ifF hb1 hm
    refine WK_skip ?_
    refine WK_seq ?_
    refine WK_seq ?_
    refine WK_region ?_
    refine WO_pure tbok 3 [(0, .slice a_p0 p0.length c_p0), (1, .slice a_p1 p1.length c_p1), (4, .bool false), (12, .int .i64 (p0.length : Int)), (13, .int .i64 0)] rfl ⟨rfl, rfl, rfl, rfl, rfl, trivial⟩ ?_
    refine WO_end ?_
    obtain ⟨x2, hx3, hm⟩ := bind_some hm
    refine WK_join (β := Unit × Unit) (fun p => Sum.inr p.1 = x2) (fun p => [(4, .bool false)]) (fun p => St w0 m m []) ?_ (fun hk4 => ?_)
    · rintro ⟨⟨⟩, ⟨⟩⟩ hq10
      subst hq10
      refine WK.sub (e' := [(4, .bool false)]) ⟨rfl, trivial⟩ (WK.cls (C' := St w0 m m []) (fun _ h => h) ?_)
      refine WK_seq ?_
      refine WK_region ?_
      refine WO_pure tbok 1 [(4, .bool true)] rfl ⟨rfl, trivial⟩ ?_
      refine WO_end ?_
      cases hm
      exact WK_ret (ret_out (L := []) (RLc_tmp rfl RLc_nil) (List.nil_sublist _) rfl)
    · refine WK_block ?_
      refine WK_loop (S := Int) (G := Unit) (fun s => slices_Equal_sbool_s1 p0 p1 s) (fun s g => [(0, .slice a_p0 p0.length c_p0), (1, .slice a_p1 p1.length c_p1), (4, .bool false), (12, .int .i64 (p0.length : Int)), (13, .int .i64 s)]) (fun s g => St w0 m m []) (fun s g => True) FUEL 0 () x2 hx3 trivial ⟨rfl, rfl, rfl, rfl, rfl, trivial⟩ (fun _ h => h) ?_
      rintro s_1 ⟨⟩ o6 fl7 hm5 - hn8 hd9
      have hm5 : slices_Equal_sbool_s1 p0 p1 s_1 = some o6 := hm5
      unfold slices_Equal_sbool_s1 at hm5
      refine WK.sub (e' := [(0, .slice a_p0 p0.length c_p0), (1, .slice a_p1 p1.length c_p1), (4, .bool false), (12, .int .i64 (p0.length : Int)), (13, .int .i64 s_1)]) ⟨rfl, rfl, rfl, rfl, rfl, trivial⟩ (WK.cls (C' := St w0 m m []) (fun _ h => h) ?_)
      refine WK_seq ?_
      refine WK_region ?_
      refine WO_pure tbok 1 [(0, .slice a_p0 p0.length c_p0), (1, .slice a_p1 p1.length c_p1), (4, .bool false), (12, .int .i64 (p0.length : Int)), (13, .int .i64 s_1), (14, .bool (decide (s_1 < (p0.length : Int))))] rfl ⟨rfl, rfl, rfl, rfl, rfl, rfl, trivial⟩ ?_
      refine WO_end ?_
      refine WK_seq ?_
      refine WK_cond (b := decide (s_1 < (p0.length : Int))) rfl (fun hb11 => ?_) (fun hb11 => ?_)
      · have hm5 := ifT hb11 hm5
        refine WK_skip ?_
        refine WK_seq ?_
        refine WK_block ?_
        refine WK_seq ?_
        refine WK_region ?_
        refine WO_pure tbok 2 [(0, .slice a_p0 p0.length c_p0), (1, .slice a_p1 p1.length c_p1), (4, .bool false), (5, .int .i64 s_1), (12, .int .i64 (p0.length : Int)), (13, .int .i64 s_1)] rfl ⟨rfl, rfl, rfl, rfl, rfl, rfl, trivial⟩ ?_
        refine WO_end ?_
        refine WK_seq ?_
        refine WK_draw 9 [0, 1, 2, 3, 4, 5, 6, 7, 8] follows_ok (by kernel_rfl) St_closed ?_
        refine WO_pure tbok 2 [(0, .slice a_p0 p0.length c_p0), (1, .slice a_p1 p1.length c_p1), (4, .bool false), (5, .int .i64 s_1), (12, .int .i64 (p0.length : Int)), (13, .int .i64 s_1), (16, .slice a_p0 p0.length c_p0), (17, .int .i64 s_1)] rfl ⟨rfl, rfl, rfl, rfl, rfl, rfl, rfl, rfl, trivial⟩ ?_
        obtain ⟨v_2, hy12, hm5⟩ := bind_some hm5
        obtain ⟨hc13, hy12⟩ := ix_some hy12
        refine WO_index tbok rfl rfl rfl rfl rfl rfl rfl rfl (SlR.addr h_p0) hc13 ?_
        refine WO_loadE tbok rfl rfl rfl rfl (fun _ h => St.sat h) h_p0 hy12 rfl ?_
        refine WO_pure tbok 2 [(0, .slice a_p0 p0.length c_p0), (1, .slice a_p1 p1.length c_p1), (4, .bool false), (12, .int .i64 (p0.length : Int)), (13, .int .i64 s_1), (19, .bool v_2), (20, .slice a_p1 p1.length c_p1), (21, .int .i64 s_1)] rfl ⟨rfl, rfl, rfl, rfl, rfl, rfl, rfl, rfl, trivial⟩ ?_
        obtain ⟨v_3, hy14, hm5⟩ := bind_some hm5
        obtain ⟨hc15, hy14⟩ := ix_some hy14
        refine WO_index tbok rfl rfl rfl rfl rfl rfl rfl rfl (SlR.addr h_p1) hc15 ?_
        refine WO_loadE tbok rfl rfl rfl rfl (fun _ h => St.sat h) h_p1 hy14 rfl ?_
        refine WO_pure tbok 1 [(0, .slice a_p0 p0.length c_p0), (1, .slice a_p1 p1.length c_p1), (4, .bool false), (12, .int .i64 (p0.length : Int)), (13, .int .i64 s_1), (24, .bool (!(v_2 == v_3)))] rfl ⟨rfl, rfl, rfl, rfl, rfl, rfl, trivial⟩ ?_
        refine WO_tail ?_
        refine WO_end ?_
        refine WK_cond (b := !(v_2 == v_3)) rfl (fun hb16 => ?_) (fun hb16 => ?_)
        · have hm5 := ifT hb16 hm5
          refine WK_seq ?_
          refine WK_region ?_
          refine WO_pure tbok 1 [(0, .slice a_p0 p0.length c_p0), (1, .slice a_p1 p1.length c_p1), (4, .bool false), (12, .int .i64 (p0.length : Int)), (13, .int .i64 s_1)] rfl ⟨rfl, rfl, rfl, rfl, rfl, trivial⟩ ?_
          refine WO_end ?_
          cases hm5
          have hq := hd9 _ rfl
          subst hq
          have hm : some _ = some _ := hm
          cases hm
          exact WK_ret (ret_out (L := []) (RLc_tmp rfl RLc_nil) (List.nil_sublist _) rfl)
        · have hm5 := ifF hb16 hm5
          refine WK_skip ?_
          refine WK_blk ?_
          refine WK_region ?_
          refine WO_pure tbok 2 [(0, .slice a_p0 p0.length c_p0), (1, .slice a_p1 p1.length c_p1), (4, .bool false), (12, .int .i64 (p0.length : Int)), (13, .int .i64 (w64 (s_1 + 1)))] rfl ⟨rfl, rfl, rfl, rfl, rfl, trivial⟩ ?_
          refine WO_end ?_
          cases hm5
          refine WK.sub ?_ (WK.cls (fun _ h => h) (hn8 _ () rfl trivial))
          exact ⟨rfl, rfl, rfl, rfl, rfl, trivial⟩
      · have hm5 := ifF hb11 hm5
        refine WK_exit rfl ?_
        cases hm5
        refine WK.sub ?_ (WK.cls (fun _ h => h) (hk4 ((), ()) (hd9 _ rfl)))
        exact ⟨rfl, trivial⟩
theorem fiduciallaw48_known_walk {m : Mu}    {r : Bool} (hm : fiduciallaw48_known = some r) :
    Go.E.Spec Try.prog 11 [] m (fun v _ _ => v = .bool r) := by
  refine Spec_enter Try.func11 rfl rfl rfl (fun w0 => ?_)
  refine WK.sub (e' := []) trivial ?_
  refine WK.sub (e' := []) trivial ?_
  unfold fiduciallaw48_known at hm
  refine WK_seq ?_
  refine WK_region ?_
  refine WO_pure tbok 1 [(0, .bool false)] rfl ⟨rfl, trivial⟩ ?_
  refine WO_end ?_
  refine WK_seq ?_
  refine WK_region ?_
  refine WO_bslice (E := (I1 .i64)) tbok (fun _ => rfl) (by decide) [.int .i64 5, .int .i64 9, .int .i64 5, .int .i64 5, .int .i64 (-2147483648), .int .i64 1] ([5, 9, 5, 5, (-2147483648), 1] : List Int) rfl rfl trivial rfl rfl rfl rfl rfl rfl rfl rfl rfl rfl rfl rfl (fun b1 hb1 => ?_)
  refine WO.cls (C' := St w0 m m [[⟨b1, 3, ([5, 9, 5, 5, (-2147483648), 1] : List Int).flatMap (I1 .i64)⟩]]) (fun _ h => h) ?_
  refine WO_pure tbok 1 [(0, .bool false), (11, .agg #[.int .i64 0, .int .i64 0, .int .i64 10, .int .i64 3, .int .i64 2, .slice (some ⟨b1, 0, none⟩) 6 6])] rfl ⟨rfl, rfl, trivial⟩ ?_
  refine WO_alloc tbok [.int .i64 0, .int .i64 0, .int .i64 0, .int .i64 0, .int .i64 0, .slice none 0 0] rfl rfl trivial rfl rfl rfl rfl (fun b2 => ?_)
  refine WO.cls (C' := St w0 m m [[⟨b1, 3, ([5, 9, 5, 5, (-2147483648), 1] : List Int).flatMap (I1 .i64)⟩], [⟨b2, 25, [.int .i64 0, .int .i64 0, .int .i64 0, .int .i64 0, .int .i64 0, .slice none 0 0]⟩]]) (fun _ h => h) ?_
  refine WO_storeB tbok 1 [.int .i64 0, .int .i64 0, .int .i64 10, .int .i64 3, .int .i64 2, .slice (some ⟨b1, 0, none⟩) 6 6] rfl rfl rfl rfl rfl rfl rfl ?_
  refine WO.cls (C' := St w0 m m [[⟨b1, 3, ([5, 9, 5, 5, (-2147483648), 1] : List Int).flatMap (I1 .i64)⟩], [⟨b2, 25, [.int .i64 0, .int .i64 0, .int .i64 10, .int .i64 3, .int .i64 2, .slice (some ⟨b1, 0, none⟩) 6 6]⟩]]) (fun _ h => h) ?_
  refine WO_end ?_
  refine WK_seq ?_
  refine WK_region ?_
  refine WO_loadB tbok 1 rfl rfl rfl rfl (fun _ h => h) rfl rfl ?_
  refine WO_freeze 0 rfl (fun m3 hle4 hmm5 => ?_)
  refine WO.cls (C' := St w0 m m3 [[], [⟨b2, 25, [.int .i64 0, .int .i64 0, .int .i64 10, .int .i64 3, .int .i64 2, .slice (some ⟨b1, 0, none⟩) 6 6]⟩]]) (fun _ h => h) ?_
  obtain ⟨⟨y_1, y_2, y_3, y_4, y_5, y_6, y_7⟩, hc6, hm⟩ := bind_some hm
  refine WO_call2 (terrain_Open_Q (y_1, y_2, y_3, y_4, y_5, y_6, y_7)) rfl rfl trivial rfl rfl rfl rfl ⟨26, #[], #[], rfl, callable_26, terrain_Open_walk (OwnE.rd (E := (I1 .i64)) (k := 1) (fun _ => rfl) hb1 hmm5) hc6⟩ (fun v10 m11 L9 hle12 hq => ?_)
  obtain ⟨a7, qa7, c8, rfl, h13⟩ := hq
  obtain rfl := SlR.qlen h13
  refine WO.cls (C' := St w0 m m11 [[], [⟨b2, 25, [.int .i64 0, .int .i64 0, .int .i64 10, .int .i64 3, .int .i64 2, .slice (some ⟨b1, 0, none⟩) 6 6]⟩], L9]) (fun _ h => h.sub (by simp)) ?_
  refine WO_pure tbok 3 [(0, .bool false), (1, .pointer (some ⟨b2, 0, none⟩)), (15, .agg #[.int .i64 y_1, .int .i64 y_2, .int .i64 y_3, .int .i64 y_4, .int .i64 y_5, .slice a7 ((y_6).length) c8]), (16, .int .i64 y_7)] rfl ⟨rfl, rfl, rfl, rfl, trivial⟩ ?_
  refine WO_alloc tbok [.int .i64 0, .int .i64 0, .int .i64 0, .int .i64 0, .int .i64 0, .slice none 0 0] rfl rfl trivial rfl rfl rfl rfl (fun b14 => ?_)
  refine WO.cls (C' := St w0 m m11 [[], [⟨b2, 25, [.int .i64 0, .int .i64 0, .int .i64 10, .int .i64 3, .int .i64 2, .slice (some ⟨b1, 0, none⟩) 6 6]⟩], L9, [⟨b14, 25, [.int .i64 0, .int .i64 0, .int .i64 0, .int .i64 0, .int .i64 0, .slice none 0 0]⟩]]) (fun _ h => h) ?_
  refine WO_storeB tbok 3 [.int .i64 y_1, .int .i64 y_2, .int .i64 y_3, .int .i64 y_4, .int .i64 y_5, .slice a7 ((y_6).length) c8] rfl rfl rfl rfl rfl rfl rfl ?_
  refine WO.cls (C' := St w0 m m11 [[], [⟨b2, 25, [.int .i64 0, .int .i64 0, .int .i64 10, .int .i64 3, .int .i64 2, .slice (some ⟨b1, 0, none⟩) 6 6]⟩], L9, [⟨b14, 25, [.int .i64 y_1, .int .i64 y_2, .int .i64 y_3, .int .i64 y_4, .int .i64 y_5, .slice a7 ((y_6).length) c8]⟩]]) (fun _ h => h) ?_
  refine WO_pure tbok 1 [(0, .bool false), (1, .pointer (some ⟨b2, 0, none⟩)), (2, .pointer (some ⟨b14, 0, none⟩)), (3, .int .i64 y_7)] rfl ⟨rfl, rfl, rfl, rfl, trivial⟩ ?_
  refine WO_end ?_
  refine WK_seq ?_
  refine WK_region ?_
  refine WO_loadB tbok 1 rfl rfl rfl rfl (fun _ h => h) rfl rfl ?_
  refine WO_bslice (E := (I1 .i64)) tbok (fun _ => rfl) (by decide) [.int .i64 1] ([1] : List Int) rfl rfl trivial rfl rfl rfl rfl rfl rfl rfl rfl rfl rfl rfl rfl (fun b15 hb15 => ?_)
  refine WO.cls (C' := St w0 m m11 [[], [⟨b2, 25, [.int .i64 0, .int .i64 0, .int .i64 10, .int .i64 3, .int .i64 2, .slice (some ⟨b1, 0, none⟩) 6 6]⟩], L9, [⟨b14, 25, [.int .i64 y_1, .int .i64 y_2, .int .i64 y_3, .int .i64 y_4, .int .i64 y_5, .slice a7 ((y_6).length) c8]⟩], [⟨b15, 3, ([1] : List Int).flatMap (I1 .i64)⟩]]) (fun _ h => h) ?_
  refine WO_bslice (E := (I1 .i64)) tbok (fun _ => rfl) (by decide) [.int .i64 3] ([3] : List Int) rfl rfl trivial rfl rfl rfl rfl rfl rfl rfl rfl rfl rfl rfl rfl (fun b16 hb16 => ?_)
  refine WO.cls (C' := St w0 m m11 [[], [⟨b2, 25, [.int .i64 0, .int .i64 0, .int .i64 10, .int .i64 3, .int .i64 2, .slice (some ⟨b1, 0, none⟩) 6 6]⟩], L9, [⟨b14, 25, [.int .i64 y_1, .int .i64 y_2, .int .i64 y_3, .int .i64 y_4, .int .i64 y_5, .slice a7 ((y_6).length) c8]⟩], [⟨b15, 3, ([1] : List Int).flatMap (I1 .i64)⟩], [⟨b16, 3, ([3] : List Int).flatMap (I1 .i64)⟩]]) (fun _ h => h) ?_
  obtain ⟨⟨y_8, y_9⟩, hc17, hm⟩ := bind_some hm
  refine WO_call1 (terrain_Ground_Q (y_8, y_9)) rfl rfl trivial rfl rfl rfl rfl ⟨18, #[], #[], rfl, callable_18, fun w hw => ⟨_, hw.satV, terrain_Ground_walk (((OwnE.rd (E := (I1 .i64)) (k := 1) (fun _ => rfl) hb1 hmm5).mono (mono_FE _) hle12).mono (mono_FE _) hw.leV) (OwnE.rd (E := (I1 .i64)) (k := 1) (fun _ => rfl) hb15 (fun _ hx => hw.memV (i := 4) rfl hx)) (OwnE.rd (E := (I1 .i64)) (k := 1) (fun _ => rfl) hb16 (fun _ hx => hw.memV (i := 5) rfl hx)) hc17⟩⟩ (fun v21 L20 hq => ?_)
  obtain ⟨a18, qa18, c19, rfl, hL20⟩ := hq
  obtain rfl := OwnE.qlen hL20
  refine WO.cls (C' := St w0 m m11 [[], [⟨b2, 25, [.int .i64 0, .int .i64 0, .int .i64 10, .int .i64 3, .int .i64 2, .slice (some ⟨b1, 0, none⟩) 6 6]⟩], L9, [⟨b14, 25, [.int .i64 y_1, .int .i64 y_2, .int .i64 y_3, .int .i64 y_4, .int .i64 y_5, .slice a7 ((y_6).length) c8]⟩], [⟨b15, 3, ([1] : List Int).flatMap (I1 .i64)⟩], [⟨b16, 3, ([3] : List Int).flatMap (I1 .i64)⟩], L20]) (fun _ h => h) ?_
  refine WO_pure tbok 5 [(0, .bool false), (1, .pointer (some ⟨b2, 0, none⟩)), (2, .pointer (some ⟨b14, 0, none⟩)), (3, .int .i64 y_7), (4, .slice a18 ((y_8).length) c19), (5, .int .i64 y_9)] rfl ⟨rfl, rfl, rfl, rfl, rfl, rfl, trivial⟩ ?_
  refine WO_end ?_
  refine WK_seq ?_
  refine WK_region ?_
  refine WO_loadB tbok 1 rfl rfl rfl rfl (fun _ h => h) rfl rfl ?_
  obtain ⟨⟨y_10, y_11, y_12, y_13, y_14, y_15, y_16⟩, hc22, hm⟩ := bind_some hm
  refine WO_call2 (terrain_Fill_Q (y_10, y_11, y_12, y_13, y_14, y_15, y_16)) rfl rfl trivial rfl rfl rfl rfl ⟨35, #[], #[], rfl, callable_35, terrain_Fill_walk ((OwnE.rd (E := (I1 .i64)) (k := 1) (fun _ => rfl) hb1 hmm5).mono (mono_FE _) hle12) hc22⟩ (fun v26 m27 L25 hle28 hq => ?_)
  obtain ⟨a23, qa23, c24, rfl, h29⟩ := hq
  obtain rfl := SlR.qlen h29
  refine WO.cls (C' := St w0 m m27 [[], [⟨b2, 25, [.int .i64 0, .int .i64 0, .int .i64 10, .int .i64 3, .int .i64 2, .slice (some ⟨b1, 0, none⟩) 6 6]⟩], L9, [⟨b14, 25, [.int .i64 y_1, .int .i64 y_2, .int .i64 y_3, .int .i64 y_4, .int .i64 y_5, .slice a7 ((y_6).length) c8]⟩], [⟨b15, 3, ([1] : List Int).flatMap (I1 .i64)⟩], [⟨b16, 3, ([3] : List Int).flatMap (I1 .i64)⟩], L20, L25]) (fun _ h => h.sub (by simp)) ?_
  refine WO_pure tbok 3 [(0, .bool false), (2, .pointer (some ⟨b14, 0, none⟩)), (3, .int .i64 y_7), (4, .slice a18 ((y_8).length) c19), (5, .int .i64 y_9), (27, .agg #[.int .i64 y_10, .int .i64 y_11, .int .i64 y_12, .int .i64 y_13, .int .i64 y_14, .slice a23 ((y_15).length) c24]), (28, .int .i64 y_16)] rfl ⟨rfl, rfl, rfl, rfl, rfl, rfl, rfl, trivial⟩ ?_
  refine WO_alloc tbok [.int .i64 0, .int .i64 0, .int .i64 0, .int .i64 0, .int .i64 0, .slice none 0 0] rfl rfl trivial rfl rfl rfl rfl (fun b30 => ?_)
  refine WO.cls (C' := St w0 m m27 [[], [⟨b2, 25, [.int .i64 0, .int .i64 0, .int .i64 10, .int .i64 3, .int .i64 2, .slice (some ⟨b1, 0, none⟩) 6 6]⟩], L9, [⟨b14, 25, [.int .i64 y_1, .int .i64 y_2, .int .i64 y_3, .int .i64 y_4, .int .i64 y_5, .slice a7 ((y_6).length) c8]⟩], [⟨b15, 3, ([1] : List Int).flatMap (I1 .i64)⟩], [⟨b16, 3, ([3] : List Int).flatMap (I1 .i64)⟩], L20, L25, [⟨b30, 25, [.int .i64 0, .int .i64 0, .int .i64 0, .int .i64 0, .int .i64 0, .slice none 0 0]⟩]]) (fun _ h => h) ?_
  refine WO_storeB tbok 8 [.int .i64 y_10, .int .i64 y_11, .int .i64 y_12, .int .i64 y_13, .int .i64 y_14, .slice a23 ((y_15).length) c24] rfl rfl rfl rfl rfl rfl rfl ?_
  refine WO.cls (C' := St w0 m m27 [[], [⟨b2, 25, [.int .i64 0, .int .i64 0, .int .i64 10, .int .i64 3, .int .i64 2, .slice (some ⟨b1, 0, none⟩) 6 6]⟩], L9, [⟨b14, 25, [.int .i64 y_1, .int .i64 y_2, .int .i64 y_3, .int .i64 y_4, .int .i64 y_5, .slice a7 ((y_6).length) c8]⟩], [⟨b15, 3, ([1] : List Int).flatMap (I1 .i64)⟩], [⟨b16, 3, ([3] : List Int).flatMap (I1 .i64)⟩], L20, L25, [⟨b30, 25, [.int .i64 y_10, .int .i64 y_11, .int .i64 y_12, .int .i64 y_13, .int .i64 y_14, .slice a23 ((y_15).length) c24]⟩]]) (fun _ h => h) ?_
  refine WO_pure tbok 1 [(0, .bool false), (2, .pointer (some ⟨b14, 0, none⟩)), (3, .int .i64 y_7), (4, .slice a18 ((y_8).length) c19), (5, .int .i64 y_9), (6, .pointer (some ⟨b30, 0, none⟩)), (7, .int .i64 y_16)] rfl ⟨rfl, rfl, rfl, rfl, rfl, rfl, rfl, trivial⟩ ?_
  refine WO_end ?_
  refine WK_seq ?_
  refine WK_region ?_
  refine WO_pure tbok 3 [(0, .bool false), (2, .pointer (some ⟨b14, 0, none⟩)), (3, .int .i64 y_7), (4, .slice a18 ((y_8).length) c19), (5, .int .i64 y_9), (6, .pointer (some ⟨b30, 0, none⟩)), (7, .int .i64 y_16), (30, .agg #[.int .i64 0, .int .i64 0, .int .i64 7]), (31, .agg #[.int .i64 4, .int .i64 4, .int .i64 9]), (32, .agg #[.int .i64 5, .int .i64 (-5), .int .i64 3])] rfl ⟨rfl, rfl, rfl, rfl, rfl, rfl, rfl, rfl, rfl, rfl, trivial⟩ ?_
  refine WO_bslice (E := T3) tbok (fun _ => rfl) (by decide) [.agg #[.int .i64 0, .int .i64 0, .int .i64 7], .agg #[.int .i64 4, .int .i64 4, .int .i64 9], .agg #[.int .i64 5, .int .i64 (-5), .int .i64 3]] ([(0, 0, 7), (4, 4, 9), (5, (-5), 3)] : List (Int × Int × Int)) rfl rfl trivial rfl rfl rfl rfl rfl rfl rfl rfl rfl rfl rfl rfl (fun b31 hb31 => ?_)
  refine WO.cls (C' := St w0 m m27 [[], [⟨b2, 25, [.int .i64 0, .int .i64 0, .int .i64 10, .int .i64 3, .int .i64 2, .slice (some ⟨b1, 0, none⟩) 6 6]⟩], L9, [⟨b14, 25, [.int .i64 y_1, .int .i64 y_2, .int .i64 y_3, .int .i64 y_4, .int .i64 y_5, .slice a7 ((y_6).length) c8]⟩], [⟨b15, 3, ([1] : List Int).flatMap (I1 .i64)⟩], [⟨b16, 3, ([3] : List Int).flatMap (I1 .i64)⟩], L20, L25, [⟨b30, 25, [.int .i64 y_10, .int .i64 y_11, .int .i64 y_12, .int .i64 y_13, .int .i64 y_14, .slice a23 ((y_15).length) c24]⟩], [⟨b31, 60, ([(0, 0, 7), (4, 4, 9), (5, (-5), 3)] : List (Int × Int × Int)).flatMap T3⟩]]) (fun _ h => h) ?_
  obtain ⟨hc32, hm⟩ := chk_some hm
  refine WO_make (E := (I1 .i64)) tbok (fun _ => rfl) (by decide) (0 : Int) rfl rfl trivial rfl rfl rfl rfl rfl rfl rfl rfl rfl (mk_ok (by decide) hc32) (fun b33 c34 L35 hL35 => ?_)
  refine WO.cls (C' := St w0 m m27 [[], [⟨b2, 25, [.int .i64 0, .int .i64 0, .int .i64 10, .int .i64 3, .int .i64 2, .slice (some ⟨b1, 0, none⟩) 6 6]⟩], L9, [⟨b14, 25, [.int .i64 y_1, .int .i64 y_2, .int .i64 y_3, .int .i64 y_4, .int .i64 y_5, .slice a7 ((y_6).length) c8]⟩], [⟨b15, 3, ([1] : List Int).flatMap (I1 .i64)⟩], [⟨b16, 3, ([3] : List Int).flatMap (I1 .i64)⟩], L20, L25, [⟨b30, 25, [.int .i64 y_10, .int .i64 y_11, .int .i64 y_12, .int .i64 y_13, .int .i64 y_14, .slice a23 ((y_15).length) c24]⟩], [⟨b31, 60, ([(0, 0, 7), (4, 4, 9), (5, (-5), 3)] : List (Int × Int × Int)).flatMap T3⟩], L35]) (fun _ h => h) ?_
  refine WO_pure tbok 1 [(0, .bool false), (2, .pointer (some ⟨b14, 0, none⟩)), (3, .int .i64 y_7), (4, .slice a18 ((y_8).length) c19), (5, .int .i64 y_9), (6, .pointer (some ⟨b30, 0, none⟩)), (7, .int .i64 y_16), (33, .slice (some ⟨b31, 0, none⟩) 3 3), (35, .agg #[.int .i64 0, .int .i64 0, .int .i64 10, .int .i64 2, .int .i64 2, .slice (some ⟨b33, 0, none⟩) ((List.replicate 4 (0 : Int)).length) c34])] rfl ⟨rfl, rfl, rfl, rfl, rfl, rfl, rfl, rfl, rfl, trivial⟩ ?_
  refine WO_freeze 9 rfl (fun m36 hle37 hmm38 => ?_)
  refine WO.cls (C' := St w0 m m36 [[], [⟨b2, 25, [.int .i64 0, .int .i64 0, .int .i64 10, .int .i64 3, .int .i64 2, .slice (some ⟨b1, 0, none⟩) 6 6]⟩], L9, [⟨b14, 25, [.int .i64 y_1, .int .i64 y_2, .int .i64 y_3, .int .i64 y_4, .int .i64 y_5, .slice a7 ((y_6).length) c8]⟩], [⟨b15, 3, ([1] : List Int).flatMap (I1 .i64)⟩], [⟨b16, 3, ([3] : List Int).flatMap (I1 .i64)⟩], L20, L25, [⟨b30, 25, [.int .i64 y_10, .int .i64 y_11, .int .i64 y_12, .int .i64 y_13, .int .i64 y_14, .slice a23 ((y_15).length) c24]⟩], [], L35]) (fun _ h => h) ?_
  refine WO_freeze 10 rfl (fun m39 hle40 hmm41 => ?_)
  refine WO.cls (C' := St w0 m m39 [[], [⟨b2, 25, [.int .i64 0, .int .i64 0, .int .i64 10, .int .i64 3, .int .i64 2, .slice (some ⟨b1, 0, none⟩) 6 6]⟩], L9, [⟨b14, 25, [.int .i64 y_1, .int .i64 y_2, .int .i64 y_3, .int .i64 y_4, .int .i64 y_5, .slice a7 ((y_6).length) c8]⟩], [⟨b15, 3, ([1] : List Int).flatMap (I1 .i64)⟩], [⟨b16, 3, ([3] : List Int).flatMap (I1 .i64)⟩], L20, L25, [⟨b30, 25, [.int .i64 y_10, .int .i64 y_11, .int .i64 y_12, .int .i64 y_13, .int .i64 y_14, .slice a23 ((y_15).length) c24]⟩], [], []]) (fun _ h => h) ?_
  obtain ⟨⟨y_17, y_18, y_19, y_20, y_21, y_22, y_23⟩, hc42, hm⟩ := bind_some hm
  refine WO_call2 (terrain_Surface_Q (y_17, y_18, y_19, y_20, y_21, y_22, y_23)) rfl rfl trivial rfl rfl rfl rfl ⟨13, #[], #[], rfl, callable_13, terrain_Surface_walk ((OwnE.rd (E := T3) (k := 3) (fun _ => rfl) hb31 hmm38).mono (mono_FE _) hle40) (OwnE.rd (E := (I1 .i64)) (k := 1) (fun _ => rfl) hL35 hmm41) hc42⟩ (fun v46 m47 L45 hle48 hq => ?_)
  obtain ⟨a43, qa43, c44, rfl, h49⟩ := hq
  obtain rfl := SlR.qlen h49
  refine WO.cls (C' := St w0 m m47 [[], [⟨b2, 25, [.int .i64 0, .int .i64 0, .int .i64 10, .int .i64 3, .int .i64 2, .slice (some ⟨b1, 0, none⟩) 6 6]⟩], L9, [⟨b14, 25, [.int .i64 y_1, .int .i64 y_2, .int .i64 y_3, .int .i64 y_4, .int .i64 y_5, .slice a7 ((y_6).length) c8]⟩], [⟨b15, 3, ([1] : List Int).flatMap (I1 .i64)⟩], [⟨b16, 3, ([3] : List Int).flatMap (I1 .i64)⟩], L20, L25, [⟨b30, 25, [.int .i64 y_10, .int .i64 y_11, .int .i64 y_12, .int .i64 y_13, .int .i64 y_14, .slice a23 ((y_15).length) c24]⟩], [], [], L45]) (fun _ h => h.sub (by simp)) ?_
  refine WO_pure tbok 3 [(0, .bool false), (2, .pointer (some ⟨b14, 0, none⟩)), (3, .int .i64 y_7), (4, .slice a18 ((y_8).length) c19), (5, .int .i64 y_9), (6, .pointer (some ⟨b30, 0, none⟩)), (7, .int .i64 y_16), (37, .agg #[.int .i64 y_17, .int .i64 y_18, .int .i64 y_19, .int .i64 y_20, .int .i64 y_21, .slice a43 ((y_22).length) c44]), (38, .int .i64 y_23)] rfl ⟨rfl, rfl, rfl, rfl, rfl, rfl, rfl, rfl, rfl, trivial⟩ ?_
  refine WO_alloc tbok [.int .i64 0, .int .i64 0, .int .i64 0, .int .i64 0, .int .i64 0, .slice none 0 0] rfl rfl trivial rfl rfl rfl rfl (fun b50 => ?_)
  refine WO.cls (C' := St w0 m m47 [[], [⟨b2, 25, [.int .i64 0, .int .i64 0, .int .i64 10, .int .i64 3, .int .i64 2, .slice (some ⟨b1, 0, none⟩) 6 6]⟩], L9, [⟨b14, 25, [.int .i64 y_1, .int .i64 y_2, .int .i64 y_3, .int .i64 y_4, .int .i64 y_5, .slice a7 ((y_6).length) c8]⟩], [⟨b15, 3, ([1] : List Int).flatMap (I1 .i64)⟩], [⟨b16, 3, ([3] : List Int).flatMap (I1 .i64)⟩], L20, L25, [⟨b30, 25, [.int .i64 y_10, .int .i64 y_11, .int .i64 y_12, .int .i64 y_13, .int .i64 y_14, .slice a23 ((y_15).length) c24]⟩], [], [], L45, [⟨b50, 25, [.int .i64 0, .int .i64 0, .int .i64 0, .int .i64 0, .int .i64 0, .slice none 0 0]⟩]]) (fun _ h => h) ?_
  refine WO_storeB tbok 12 [.int .i64 y_17, .int .i64 y_18, .int .i64 y_19, .int .i64 y_20, .int .i64 y_21, .slice a43 ((y_22).length) c44] rfl rfl rfl rfl rfl rfl rfl ?_
  refine WO.cls (C' := St w0 m m47 [[], [⟨b2, 25, [.int .i64 0, .int .i64 0, .int .i64 10, .int .i64 3, .int .i64 2, .slice (some ⟨b1, 0, none⟩) 6 6]⟩], L9, [⟨b14, 25, [.int .i64 y_1, .int .i64 y_2, .int .i64 y_3, .int .i64 y_4, .int .i64 y_5, .slice a7 ((y_6).length) c8]⟩], [⟨b15, 3, ([1] : List Int).flatMap (I1 .i64)⟩], [⟨b16, 3, ([3] : List Int).flatMap (I1 .i64)⟩], L20, L25, [⟨b30, 25, [.int .i64 y_10, .int .i64 y_11, .int .i64 y_12, .int .i64 y_13, .int .i64 y_14, .slice a23 ((y_15).length) c24]⟩], [], [], L45, [⟨b50, 25, [.int .i64 y_17, .int .i64 y_18, .int .i64 y_19, .int .i64 y_20, .int .i64 y_21, .slice a43 ((y_22).length) c44]⟩]]) (fun _ h => h) ?_
  refine WO_pure tbok 1 [(0, .bool false), (2, .pointer (some ⟨b14, 0, none⟩)), (3, .int .i64 y_7), (4, .slice a18 ((y_8).length) c19), (5, .int .i64 y_9), (6, .pointer (some ⟨b30, 0, none⟩)), (7, .int .i64 y_16), (8, .pointer (some ⟨b50, 0, none⟩)), (9, .int .i64 y_23)] rfl ⟨rfl, rfl, rfl, rfl, rfl, rfl, rfl, rfl, rfl, trivial⟩ ?_
  refine WO_end ?_
  refine WK_seq ?_
  refine WK_region ?_
  refine WO_pure tbok 9 [(0, .bool false), (2, .pointer (some ⟨b14, 0, none⟩)), (4, .slice a18 ((y_8).length) c19), (6, .pointer (some ⟨b30, 0, none⟩)), (8, .pointer (some ⟨b50, 0, none⟩)), (47, .bool ((w64 ((w64 ((w64 (y_7 + y_9)) + y_16)) + y_23)) == 0))] rfl ⟨rfl, rfl, rfl, rfl, rfl, rfl, trivial⟩ ?_
  refine WO_split (d := 47) (b := (w64 ((w64 ((w64 (y_7 + y_9)) + y_16)) + y_23)) == 0) rfl (fun hb51 => ?_) (fun hb51 => ?_)
  · have hm := ifT hb51 hm
    refine WO_pure tbok 1 [(0, .bool false), (4, .slice a18 ((y_8).length) c19), (6, .pointer (some ⟨b30, 0, none⟩)), (8, .pointer (some ⟨b50, 0, none⟩)), (47, .bool true), (48, .pointer (some ⟨b14, 5, none⟩))] rfl ⟨rfl, rfl, rfl, rfl, rfl, rfl, trivial⟩ ?_
    refine WO_loadB tbok 3 rfl rfl rfl rfl (fun _ h => h) rfl rfl ?_
    refine WO_bslice (E := (I1 .i64)) tbok (fun _ => rfl) (by decide) [.int .i64 5, .int .i64 5, .int .i64 1, .int .i64 5, .int .i64 (-2147483648), .int .i64 1] ([5, 5, 1, 5, (-2147483648), 1] : List Int) rfl rfl trivial rfl rfl rfl rfl rfl rfl rfl rfl rfl rfl rfl rfl (fun b52 hb52 => ?_)
    refine WO.cls (C' := St w0 m m47 [[], [⟨b2, 25, [.int .i64 0, .int .i64 0, .int .i64 10, .int .i64 3, .int .i64 2, .slice (some ⟨b1, 0, none⟩) 6 6]⟩], L9, [⟨b14, 25, [.int .i64 y_1, .int .i64 y_2, .int .i64 y_3, .int .i64 y_4, .int .i64 y_5, .slice a7 ((y_6).length) c8]⟩], [⟨b15, 3, ([1] : List Int).flatMap (I1 .i64)⟩], [⟨b16, 3, ([3] : List Int).flatMap (I1 .i64)⟩], L20, L25, [⟨b30, 25, [.int .i64 y_10, .int .i64 y_11, .int .i64 y_12, .int .i64 y_13, .int .i64 y_14, .slice a23 ((y_15).length) c24]⟩], [], [], L45, [⟨b50, 25, [.int .i64 y_17, .int .i64 y_18, .int .i64 y_19, .int .i64 y_20, .int .i64 y_21, .slice a43 ((y_22).length) c44]⟩], [⟨b52, 3, ([5, 5, 1, 5, (-2147483648), 1] : List Int).flatMap (I1 .i64)⟩]]) (fun _ h => h) ?_
    obtain ⟨y_24, hc53, hm⟩ := bind_some hm
    refine WO_call0 (.bool y_24) rfl rfl trivial rfl rfl rfl rfl St_closed ⟨38, #[], #[], rfl, callable_38, fun w hw => ⟨_, hw.satV, slices_Equal_sint_walk (((((h13.mono (mono_FE _) hle28).mono (mono_FE _) hle37).mono (mono_FE _) hle40).mono (mono_FE _) hle48).mono (mono_FE _) hw.leV) (OwnE.rd (E := (I1 .i64)) (k := 1) (fun _ => rfl) hb52 (fun _ hx => hw.memV (i := 13) rfl hx)) hc53⟩⟩ ?_
    refine WO_pure tbok 2 [(0, .bool false), (4, .slice a18 ((y_8).length) c19), (6, .pointer (some ⟨b30, 0, none⟩)), (8, .pointer (some ⟨b50, 0, none⟩)), (53, .bool y_24)] rfl ⟨rfl, rfl, rfl, rfl, rfl, trivial⟩ ?_
    refine WO_split (d := 53) (b := y_24) rfl (fun hb54 => ?_) (fun hb54 => ?_)
    · have hm := ifT hb54 hm
      refine WO_pure tbok 1 [(0, .bool false), (6, .pointer (some ⟨b30, 0, none⟩)), (8, .pointer (some ⟨b50, 0, none⟩)), (53, .bool true), (54, .slice a18 ((y_8).length) c19)] rfl ⟨rfl, rfl, rfl, rfl, rfl, trivial⟩ ?_
      refine WO_bslice (E := B1) tbok (fun _ => rfl) (by decide) [.bool true, .bool false, .bool false, .bool true, .bool false, .bool true] ([true, false, false, true, false, true] : List Bool) rfl rfl trivial rfl rfl rfl rfl rfl rfl rfl rfl rfl rfl rfl rfl (fun b55 hb55 => ?_)
      refine WO.cls (C' := St w0 m m47 [[], [⟨b2, 25, [.int .i64 0, .int .i64 0, .int .i64 10, .int .i64 3, .int .i64 2, .slice (some ⟨b1, 0, none⟩) 6 6]⟩], L9, [⟨b14, 25, [.int .i64 y_1, .int .i64 y_2, .int .i64 y_3, .int .i64 y_4, .int .i64 y_5, .slice a7 ((y_6).length) c8]⟩], [⟨b15, 3, ([1] : List Int).flatMap (I1 .i64)⟩], [⟨b16, 3, ([3] : List Int).flatMap (I1 .i64)⟩], L20, L25, [⟨b30, 25, [.int .i64 y_10, .int .i64 y_11, .int .i64 y_12, .int .i64 y_13, .int .i64 y_14, .slice a23 ((y_15).length) c24]⟩], [], [], L45, [⟨b50, 25, [.int .i64 y_17, .int .i64 y_18, .int .i64 y_19, .int .i64 y_20, .int .i64 y_21, .slice a43 ((y_22).length) c44]⟩], [⟨b52, 3, ([5, 5, 1, 5, (-2147483648), 1] : List Int).flatMap (I1 .i64)⟩], [⟨b55, 4, ([true, false, false, true, false, true] : List Bool).flatMap B1⟩]]) (fun _ h => h) ?_
      obtain ⟨y_25, hc56, hm⟩ := bind_some hm
      refine WO_call0 (.bool y_25) rfl rfl trivial rfl rfl rfl rfl St_closed ⟨20, #[], #[], rfl, callable_20, fun w hw => ⟨_, hw.satV, slices_Equal_sbool_walk (OwnE.rd (E := B1) (k := 1) (fun _ => rfl) hL20 (fun _ hx => hw.memV (i := 6) rfl hx)) (OwnE.rd (E := B1) (k := 1) (fun _ => rfl) hb55 (fun _ hx => hw.memV (i := 14) rfl hx)) hc56⟩⟩ ?_
      refine WO_pure tbok 2 [(0, .bool false), (6, .pointer (some ⟨b30, 0, none⟩)), (8, .pointer (some ⟨b50, 0, none⟩)), (58, .bool y_25)] rfl ⟨rfl, rfl, rfl, rfl, trivial⟩ ?_
      refine WO_split (d := 58) (b := y_25) rfl (fun hb57 => ?_) (fun hb57 => ?_)
      · have hm := ifT hb57 hm
        refine WO_pure tbok 1 [(0, .bool false), (8, .pointer (some ⟨b50, 0, none⟩)), (58, .bool true), (59, .pointer (some ⟨b30, 5, none⟩))] rfl ⟨rfl, rfl, rfl, rfl, trivial⟩ ?_
        refine WO_loadB tbok 8 rfl rfl rfl rfl (fun _ h => h) rfl rfl ?_
        refine WO_bslice (E := (I1 .i64)) tbok (fun _ => rfl) (by decide) [.int .i64 5, .int .i64 9, .int .i64 5, .int .i64 5, .int .i64 1, .int .i64 1] ([5, 9, 5, 5, 1, 1] : List Int) rfl rfl trivial rfl rfl rfl rfl rfl rfl rfl rfl rfl rfl rfl rfl (fun b58 hb58 => ?_)
        refine WO.cls (C' := St w0 m m47 [[], [⟨b2, 25, [.int .i64 0, .int .i64 0, .int .i64 10, .int .i64 3, .int .i64 2, .slice (some ⟨b1, 0, none⟩) 6 6]⟩], L9, [⟨b14, 25, [.int .i64 y_1, .int .i64 y_2, .int .i64 y_3, .int .i64 y_4, .int .i64 y_5, .slice a7 ((y_6).length) c8]⟩], [⟨b15, 3, ([1] : List Int).flatMap (I1 .i64)⟩], [⟨b16, 3, ([3] : List Int).flatMap (I1 .i64)⟩], L20, L25, [⟨b30, 25, [.int .i64 y_10, .int .i64 y_11, .int .i64 y_12, .int .i64 y_13, .int .i64 y_14, .slice a23 ((y_15).length) c24]⟩], [], [], L45, [⟨b50, 25, [.int .i64 y_17, .int .i64 y_18, .int .i64 y_19, .int .i64 y_20, .int .i64 y_21, .slice a43 ((y_22).length) c44]⟩], [⟨b52, 3, ([5, 5, 1, 5, (-2147483648), 1] : List Int).flatMap (I1 .i64)⟩], [⟨b55, 4, ([true, false, false, true, false, true] : List Bool).flatMap B1⟩], [⟨b58, 3, ([5, 9, 5, 5, 1, 1] : List Int).flatMap (I1 .i64)⟩]]) (fun _ h => h) ?_
        obtain ⟨y_26, hc59, hm⟩ := bind_some hm
        refine WO_call0 (.bool y_26) rfl rfl trivial rfl rfl rfl rfl St_closed ⟨38, #[], #[], rfl, callable_38, fun w hw => ⟨_, hw.satV, slices_Equal_sint_walk ((((h29.mono (mono_FE _) hle37).mono (mono_FE _) hle40).mono (mono_FE _) hle48).mono (mono_FE _) hw.leV) (OwnE.rd (E := (I1 .i64)) (k := 1) (fun _ => rfl) hb58 (fun _ hx => hw.memV (i := 15) rfl hx)) hc59⟩⟩ ?_
        refine WO_pure tbok 2 [(0, .bool false), (8, .pointer (some ⟨b50, 0, none⟩)), (64, .bool y_26)] rfl ⟨rfl, rfl, rfl, trivial⟩ ?_
        refine WO_split (d := 64) (b := y_26) rfl (fun hb60 => ?_) (fun hb60 => ?_)
        · have hm := ifT hb60 hm
          refine WO_pure tbok 1 [(0, .bool false), (64, .bool true), (65, .pointer (some ⟨b50, 5, none⟩))] rfl ⟨rfl, rfl, rfl, trivial⟩ ?_
          refine WO_loadB tbok 12 rfl rfl rfl rfl (fun _ h => h) rfl rfl ?_
          refine WO_bslice (E := (I1 .i64)) tbok (fun _ => rfl) (by decide) [.int .i64 9, .int .i64 3, .int .i64 (-2147483648), .int .i64 (-2147483648)] ([9, 3, (-2147483648), (-2147483648)] : List Int) rfl rfl trivial rfl rfl rfl rfl rfl rfl rfl rfl rfl rfl rfl rfl (fun b61 hb61 => ?_)
          refine WO.cls (C' := St w0 m m47 [[], [⟨b2, 25, [.int .i64 0, .int .i64 0, .int .i64 10, .int .i64 3, .int .i64 2, .slice (some ⟨b1, 0, none⟩) 6 6]⟩], L9, [⟨b14, 25, [.int .i64 y_1, .int .i64 y_2, .int .i64 y_3, .int .i64 y_4, .int .i64 y_5, .slice a7 ((y_6).length) c8]⟩], [⟨b15, 3, ([1] : List Int).flatMap (I1 .i64)⟩], [⟨b16, 3, ([3] : List Int).flatMap (I1 .i64)⟩], L20, L25, [⟨b30, 25, [.int .i64 y_10, .int .i64 y_11, .int .i64 y_12, .int .i64 y_13, .int .i64 y_14, .slice a23 ((y_15).length) c24]⟩], [], [], L45, [⟨b50, 25, [.int .i64 y_17, .int .i64 y_18, .int .i64 y_19, .int .i64 y_20, .int .i64 y_21, .slice a43 ((y_22).length) c44]⟩], [⟨b52, 3, ([5, 5, 1, 5, (-2147483648), 1] : List Int).flatMap (I1 .i64)⟩], [⟨b55, 4, ([true, false, false, true, false, true] : List Bool).flatMap B1⟩], [⟨b58, 3, ([5, 9, 5, 5, 1, 1] : List Int).flatMap (I1 .i64)⟩], [⟨b61, 3, ([9, 3, (-2147483648), (-2147483648)] : List Int).flatMap (I1 .i64)⟩]]) (fun _ h => h) ?_
          obtain ⟨y_27, hc62, hm⟩ := bind_some hm
          refine WO_call0 (.bool y_27) rfl rfl trivial rfl rfl rfl rfl St_closed ⟨38, #[], #[], rfl, callable_38, fun w hw => ⟨_, hw.satV, slices_Equal_sint_walk (h49.mono (mono_FE _) hw.leV) (OwnE.rd (E := (I1 .i64)) (k := 1) (fun _ => rfl) hb61 (fun _ hx => hw.memV (i := 16) rfl hx)) hc62⟩⟩ ?_
          refine WO_pure tbok 2 [(0, .bool false), (70, .bool y_27)] rfl ⟨rfl, rfl, trivial⟩ ?_
          refine WO_split (d := 70) (b := y_27) rfl (fun hb63 => ?_) (fun hb63 => ?_)
          · have hm := ifT hb63 hm
            refine WO_pure tbok 1 [(0, .bool false), (70, .bool true), (71, .agg #[.int .i64 0, .int .i64 0, .int .i64 0, .int .i64 0, .int .i64 0, .slice none 0 0])] rfl ⟨rfl, rfl, rfl, trivial⟩ ?_
            obtain ⟨y_28, hc64, hm⟩ := bind_some hm
            refine WO_call0 (.int .i64 y_28) rfl rfl trivial rfl rfl rfl rfl St_closed ⟨16, #[], #[], rfl, callable_16, fun w hw => ⟨_, hw.sat, terrain_Check_walk SlR_nil hc64⟩⟩ ?_
            refine WO_pure tbok 3 [(0, .bool (y_28 == 2))] rfl ⟨rfl, trivial⟩ ?_
            refine WO_end ?_
            cases hm
            exact WK_ret (ret_out (L := []) (RLc_tmp rfl RLc_nil) (List.nil_sublist _) rfl)
          · have hm := ifF hb63 hm
            refine WO_pure tbok 1 [(0, .bool false), (70, .bool false)] rfl ⟨rfl, rfl, trivial⟩ ?_
            refine WO_skip rfl rfl ?_
            refine WO_pure tbok 3 [(0, .bool false)] rfl ⟨rfl, trivial⟩ ?_
            refine WO_end ?_
            cases hm
            exact WK_ret (ret_out (L := []) (RLc_tmp rfl RLc_nil) (List.nil_sublist _) rfl)
        · have hm := ifF hb60 hm
          refine WO_pure tbok 2 [(0, .bool false), (64, .bool false)] rfl ⟨rfl, rfl, trivial⟩ ?_
          refine WO_skip rfl rfl ?_
          refine WO_skip rfl rfl ?_
          refine WO_pure tbok 3 [(0, .bool false), (70, .bool false)] rfl ⟨rfl, rfl, trivial⟩ ?_
          refine WO_skip rfl rfl ?_
          refine WO_pure tbok 3 [(0, .bool false)] rfl ⟨rfl, trivial⟩ ?_
          refine WO_end ?_
          cases hm
          exact WK_ret (ret_out (L := []) (RLc_tmp rfl RLc_nil) (List.nil_sublist _) rfl)
      · have hm := ifF hb57 hm
        refine WO_pure tbok 2 [(0, .bool false), (8, .pointer (some ⟨b50, 0, none⟩)), (58, .bool false)] rfl ⟨rfl, rfl, rfl, trivial⟩ ?_
        refine WO_skip rfl rfl ?_
        refine WO_skip rfl rfl ?_
        refine WO_pure tbok 4 [(0, .bool false), (64, .bool false)] rfl ⟨rfl, rfl, trivial⟩ ?_
        refine WO_skip rfl rfl ?_
        refine WO_skip rfl rfl ?_
        refine WO_pure tbok 3 [(0, .bool false), (70, .bool false)] rfl ⟨rfl, rfl, trivial⟩ ?_
        refine WO_skip rfl rfl ?_
        refine WO_pure tbok 3 [(0, .bool false)] rfl ⟨rfl, trivial⟩ ?_
        refine WO_end ?_
        cases hm
        exact WK_ret (ret_out (L := []) (RLc_tmp rfl RLc_nil) (List.nil_sublist _) rfl)
    · have hm := ifF hb54 hm
      refine WO_pure tbok 1 [(0, .bool false), (6, .pointer (some ⟨b30, 0, none⟩)), (8, .pointer (some ⟨b50, 0, none⟩)), (53, .bool false)] rfl ⟨rfl, rfl, rfl, rfl, trivial⟩ ?_
      refine WO_skip rfl rfl ?_
      refine WO_skip rfl rfl ?_
      refine WO_pure tbok 4 [(0, .bool false), (8, .pointer (some ⟨b50, 0, none⟩)), (58, .bool false)] rfl ⟨rfl, rfl, rfl, trivial⟩ ?_
      refine WO_skip rfl rfl ?_
      refine WO_skip rfl rfl ?_
      refine WO_pure tbok 4 [(0, .bool false), (64, .bool false)] rfl ⟨rfl, rfl, trivial⟩ ?_
      refine WO_skip rfl rfl ?_
      refine WO_skip rfl rfl ?_
      refine WO_pure tbok 3 [(0, .bool false), (70, .bool false)] rfl ⟨rfl, rfl, trivial⟩ ?_
      refine WO_skip rfl rfl ?_
      refine WO_pure tbok 3 [(0, .bool false)] rfl ⟨rfl, trivial⟩ ?_
      refine WO_end ?_
      cases hm
      exact WK_ret (ret_out (L := []) (RLc_tmp rfl RLc_nil) (List.nil_sublist _) rfl)
  · have hm := ifF hb51 hm
    refine WO_pure tbok 2 [(0, .bool false), (4, .slice a18 ((y_8).length) c19), (6, .pointer (some ⟨b30, 0, none⟩)), (8, .pointer (some ⟨b50, 0, none⟩)), (47, .bool false)] rfl ⟨rfl, rfl, rfl, rfl, rfl, trivial⟩ ?_
    refine WO_skip rfl rfl ?_
    refine WO_skip rfl rfl ?_
    refine WO_pure tbok 3 [(0, .bool false), (6, .pointer (some ⟨b30, 0, none⟩)), (8, .pointer (some ⟨b50, 0, none⟩)), (53, .bool false)] rfl ⟨rfl, rfl, rfl, rfl, trivial⟩ ?_
    refine WO_skip rfl rfl ?_
    refine WO_skip rfl rfl ?_
    refine WO_pure tbok 4 [(0, .bool false), (8, .pointer (some ⟨b50, 0, none⟩)), (58, .bool false)] rfl ⟨rfl, rfl, rfl, trivial⟩ ?_
    refine WO_skip rfl rfl ?_
    refine WO_skip rfl rfl ?_
    refine WO_pure tbok 4 [(0, .bool false), (64, .bool false)] rfl ⟨rfl, rfl, trivial⟩ ?_
    refine WO_skip rfl rfl ?_
    refine WO_skip rfl rfl ?_
    refine WO_pure tbok 3 [(0, .bool false), (70, .bool false)] rfl ⟨rfl, rfl, trivial⟩ ?_
    refine WO_skip rfl rfl ?_
    refine WO_pure tbok 3 [(0, .bool false)] rfl ⟨rfl, trivial⟩ ?_
    refine WO_end ?_
    cases hm
    exact WK_ret (ret_out (L := []) (RLc_tmp rfl RLc_nil) (List.nil_sublist _) rfl)
theorem fiduciallaw48_few_walk {m : Mu} {p0_0 : Int} {p0_1 : Int} {p0_2 : Int} {p0_3 : Int} {p0_4 : Int} {p0_5 : List Int} {a_p0_5 : Option Addr} {q_p0_5 c_p0_5 : Nat} (h_p0_5 : SlR (FE (I1 .i64)) 1 m (.slice a_p0_5 q_p0_5 c_p0_5) p0_5) {r : Bool} (hm : fiduciallaw48_few p0_0 p0_1 p0_2 p0_3 p0_4 p0_5 = some r) :
    Go.E.Spec Try.prog 12 [.agg #[.int .i64 p0_0, .int .i64 p0_1, .int .i64 p0_2, .int .i64 p0_3, .int .i64 p0_4, .slice a_p0_5 q_p0_5 c_p0_5]] m (fun v _ _ => v = .bool r) := by
  refine Spec_enter Try.func12 rfl rfl rfl (fun w0 => ?_)
  refine WK.sub (e' := [(0, .agg #[.int .i64 p0_0, .int .i64 p0_1, .int .i64 p0_2, .int .i64 p0_3, .int .i64 p0_4, .slice a_p0_5 q_p0_5 c_p0_5])]) ⟨rfl, trivial⟩ ?_
  obtain rfl := SlR.qlen h_p0_5
  refine WK.sub (e' := [(0, .agg #[.int .i64 p0_0, .int .i64 p0_1, .int .i64 p0_2, .int .i64 p0_3, .int .i64 p0_4, .slice a_p0_5 p0_5.length c_p0_5])]) ⟨rfl, trivial⟩ ?_
  unfold fiduciallaw48_few at hm
  refine WK_seq ?_
  refine WK_region ?_
  refine WO_box [.int .i64 p0_0, .int .i64 p0_1, .int .i64 p0_2, .int .i64 p0_3, .int .i64 p0_4, .slice a_p0_5 p0_5.length c_p0_5] rfl rfl trivial rfl rfl rfl (fun b1 => ?_)
  refine WO.cls (C' := St w0 m m [[⟨b1, 25, [.int .i64 p0_0, .int .i64 p0_1, .int .i64 p0_2, .int .i64 p0_3, .int .i64 p0_4, .slice a_p0_5 p0_5.length c_p0_5]⟩]]) (fun _ h => h) ?_
  refine WO_pure tbok 1 [(1, .pointer (some ⟨b1, 0, none⟩)), (2, .bool false)] rfl ⟨rfl, rfl, trivial⟩ ?_
  refine WO_end ?_
  refine WK_seq ?_
  refine WK_region ?_
  refine WO_pure tbok 1 [(2, .bool false), (3, .pointer (some ⟨b1, 5, none⟩))] rfl ⟨rfl, rfl, trivial⟩ ?_
  refine WO_loadB tbok 0 rfl rfl rfl rfl (fun _ h => h) rfl rfl ?_
  refine WO_pure tbok 3 [(2, .bool (decide ((p0_5.length : Int) ≤ 150)))] rfl ⟨rfl, trivial⟩ ?_
  refine WO_end ?_
  cases hm
  exact WK_ret (ret_out (L := []) (RLc_tmp rfl RLc_nil) (List.nil_sublist _) rfl)
theorem fiduciallaw48_far_walk {m : Mu} {p0 : Int} {p1 : Int}   {r : Bool} (hm : fiduciallaw48_far p0 p1 = some r) :
    Go.E.Spec Try.prog 45 [.int .i64 p0, .int .i64 p1] m (fun v _ _ => v = .bool r) := by
  refine Spec_enter Try.func45 rfl rfl rfl (fun w0 => ?_)
  refine WK.sub (e' := [(0, .int .i64 p0), (1, .int .i64 p1)]) ⟨rfl, rfl, trivial⟩ ?_
  refine WK.sub (e' := [(0, .int .i64 p0), (1, .int .i64 p1)]) ⟨rfl, rfl, trivial⟩ ?_
  unfold fiduciallaw48_far at hm
  refine WK_seq ?_
  refine WK_region ?_
  refine WO_pure tbok 1 [(0, .int .i64 p0), (1, .int .i64 p1), (4, .bool false)] rfl ⟨rfl, rfl, rfl, trivial⟩ ?_
  refine WO_end ?_
  refine WK_seq ?_
  refine WK_region ?_
  refine WO_pure tbok 4 [(0, .int .i64 p0), (1, .int .i64 p1), (4, .bool false), (8, .bool (decide (p1 < p0)))] rfl ⟨rfl, rfl, rfl, rfl, trivial⟩ ?_
  refine WO_split (d := 8) (b := decide (p1 < p0)) rfl (fun hb1 => ?_) (fun hb1 => ?_)
  · have hm := ifT hb1 hm
    refine WO_pure tbok 6 [(4, .bool true)] rfl ⟨rfl, trivial⟩ ?_
    refine WO_end ?_
    cases hm
    exact WK_ret (ret_out (L := []) (RLc_tmp rfl RLc_nil) (List.nil_sublist _) rfl)
  · have hm := ifF hb1 hm
    refine WO_pure tbok 6 [(4, .bool (decide (p0 < (w64 (0 - p1)))))] rfl ⟨rfl, trivial⟩ ?_
    refine WO_end ?_
    cases hm
    exact WK_ret (ret_out (L := []) (RLc_tmp rfl RLc_nil) (List.nil_sublist _) rfl)
theorem fiduciallaw48_checked_walk {m : Mu} {p0_0 : Int} {p0_1 : Int} {p0_2 : Int} {p0_3 : Int} {p0_4 : Int} {p0_5 : List Int} {a_p0_5 : Option Addr} {q_p0_5 c_p0_5 : Nat} (h_p0_5 : SlR (FE (I1 .i64)) 1 m (.slice a_p0_5 q_p0_5 c_p0_5) p0_5) {r : Int} (hm : fiduciallaw48_checked p0_0 p0_1 p0_2 p0_3 p0_4 p0_5 = some r) :
    Go.E.Spec Try.prog 17 [.agg #[.int .i64 p0_0, .int .i64 p0_1, .int .i64 p0_2, .int .i64 p0_3, .int .i64 p0_4, .slice a_p0_5 q_p0_5 c_p0_5]] m (fun v _ _ => v = .int .i64 r) := by
  refine Spec_enter Try.func17 rfl rfl rfl (fun w0 => ?_)
  refine WK.sub (e' := [(0, .agg #[.int .i64 p0_0, .int .i64 p0_1, .int .i64 p0_2, .int .i64 p0_3, .int .i64 p0_4, .slice a_p0_5 q_p0_5 c_p0_5])]) ⟨rfl, trivial⟩ ?_
  obtain rfl := SlR.qlen h_p0_5
  refine WK.sub (e' := [(0, .agg #[.int .i64 p0_0, .int .i64 p0_1, .int .i64 p0_2, .int .i64 p0_3, .int .i64 p0_4, .slice a_p0_5 p0_5.length c_p0_5])]) ⟨rfl, trivial⟩ ?_
  unfold fiduciallaw48_checked at hm
  refine WK_seq ?_
  refine WK_region ?_
  refine WO_box [.int .i64 p0_0, .int .i64 p0_1, .int .i64 p0_2, .int .i64 p0_3, .int .i64 p0_4, .slice a_p0_5 p0_5.length c_p0_5] rfl rfl trivial rfl rfl rfl (fun b1 => ?_)
  refine WO.cls (C' := St w0 m m [[⟨b1, 25, [.int .i64 p0_0, .int .i64 p0_1, .int .i64 p0_2, .int .i64 p0_3, .int .i64 p0_4, .slice a_p0_5 p0_5.length c_p0_5]⟩]]) (fun _ h => h) ?_
  refine WO_pure tbok 1 [(1, .pointer (some ⟨b1, 0, none⟩)), (2, .int .i64 0)] rfl ⟨rfl, rfl, trivial⟩ ?_
  refine WO_end ?_
  refine WK_seq ?_
  refine WK_seq ?_
  obtain ⟨s_1, hx2, hm⟩ := bind_some hm
  refine WK_meet [(1, .pointer (some ⟨b1, 0, none⟩)), (2, .int .i64 0), (48, .bool s_1)] (St w0 m m [[⟨b1, 25, [.int .i64 p0_0, .int .i64 p0_1, .int .i64 p0_2, .int .i64 p0_3, .int .i64 p0_4, .slice a_p0_5 p0_5.length c_p0_5]⟩]]) ?_ (fun hk3 => ?_)
  · refine WK_cond (b := s_1) rfl (fun hb4 => ?_) (fun hb4 => ?_)
    · have hm := ifT hb4 hm
      refine WK_seq ?_
      refine WK_region ?_
      refine WO_pure tbok 1 [(1, .pointer (some ⟨b1, 0, none⟩)), (2, .int .i64 2)] rfl ⟨rfl, rfl, trivial⟩ ?_
      refine WO_end ?_
      cases hm
      exact WK_ret (ret_out (L := []) (RLc_tmp rfl RLc_nil) (List.nil_sublist _) rfl)
    · have hm := ifF hb4 hm
      refine WK_skip ?_
      refine WK_seq ?_
      refine WK_seq ?_
      refine WK_region ?_
      refine WO_pure tbok 1 [(1, .pointer (some ⟨b1, 0, none⟩)), (2, .int .i64 0), (49, .pointer (some ⟨b1, 5, none⟩))] rfl ⟨rfl, rfl, rfl, trivial⟩ ?_
      refine WO_loadB tbok 0 rfl rfl rfl rfl (fun _ h => h) rfl rfl ?_
      refine WO_pure tbok 2 [(1, .pointer (some ⟨b1, 0, none⟩)), (2, .int .i64 0), (51, .int .i64 (p0_5.length : Int)), (52, .pointer (some ⟨b1, 3, none⟩))] rfl ⟨rfl, rfl, rfl, rfl, trivial⟩ ?_
      refine WO_loadB tbok 0 rfl rfl rfl rfl (fun _ h => h) rfl rfl ?_
      refine WO_pure tbok 1 [(1, .pointer (some ⟨b1, 0, none⟩)), (2, .int .i64 0), (51, .int .i64 (p0_5.length : Int)), (53, .int .i64 p0_3), (54, .pointer (some ⟨b1, 4, none⟩))] rfl ⟨rfl, rfl, rfl, rfl, rfl, trivial⟩ ?_
      refine WO_loadB tbok 0 rfl rfl rfl rfl (fun _ h => h) rfl rfl ?_
      refine WO_pure tbok 2 [(1, .pointer (some ⟨b1, 0, none⟩)), (2, .int .i64 0), (57, .bool ((p0_5.length : Int) != (w64 (p0_3 * p0_4))))] rfl ⟨rfl, rfl, rfl, trivial⟩ ?_
      refine WO_end ?_
      refine WK_cond (b := (p0_5.length : Int) != (w64 (p0_3 * p0_4))) rfl (fun hb5 => ?_) (fun hb5 => ?_)
      · have hm := ifT hb5 hm
        refine WK_seq ?_
        refine WK_region ?_
        refine WO_pure tbok 1 [(1, .pointer (some ⟨b1, 0, none⟩)), (2, .int .i64 4)] rfl ⟨rfl, rfl, trivial⟩ ?_
        refine WO_end ?_
        cases hm
        exact WK_ret (ret_out (L := []) (RLc_tmp rfl RLc_nil) (List.nil_sublist _) rfl)
      · have hm := ifF hb5 hm
        refine WK_skip ?_
        refine WK_seq ?_
        refine WK_seq ?_
        refine WK_region ?_
        refine WO_pure tbok 1 [(2, .int .i64 0), (58, .pointer (some ⟨b1, 5, none⟩))] rfl ⟨rfl, rfl, trivial⟩ ?_
        refine WO_loadB tbok 0 rfl rfl rfl rfl (fun _ h => h) rfl rfl ?_
        refine WO_pure tbok 2 [(2, .int .i64 0), (59, .slice a_p0_5 p0_5.length c_p0_5), (60, .int .i64 (p0_5.length : Int)), (61, .int .i64 0)] rfl ⟨rfl, rfl, rfl, rfl, trivial⟩ ?_
        refine WO_end ?_
        obtain ⟨x6, hx7, hm⟩ := bind_some hm
        refine WK_join (β := Unit × Unit) (fun p => Sum.inr p.1 = x6) (fun p => [(2, .int .i64 0)]) (fun p => St w0 m m [[⟨b1, 25, [.int .i64 p0_0, .int .i64 p0_1, .int .i64 p0_2, .int .i64 p0_3, .int .i64 p0_4, .slice a_p0_5 p0_5.length c_p0_5]⟩]]) ?_ (fun hk8 => ?_)
        · rintro ⟨⟨⟩, ⟨⟩⟩ hq14
          subst hq14
          refine WK.sub (e' := [(2, .int .i64 0)]) ⟨rfl, trivial⟩ (WK.cls (C' := St w0 m m [[⟨b1, 25, [.int .i64 p0_0, .int .i64 p0_1, .int .i64 p0_2, .int .i64 p0_3, .int .i64 p0_4, .slice a_p0_5 p0_5.length c_p0_5]⟩]]) (fun _ h => h) ?_)
          refine WK_seq ?_
          refine WK_region ?_
          refine WO_pure tbok 1 [(2, .int .i64 0)] rfl ⟨rfl, trivial⟩ ?_
          refine WO_end ?_
          cases hm
          exact WK_ret (ret_out (L := []) (RLc_tmp rfl RLc_nil) (List.nil_sublist _) rfl)
        · refine WK_block ?_
          refine WK_loop (S := Int) (G := Unit) (fun s => fiduciallaw48_checked_s1 p0_5 s) (fun s g => [(2, .int .i64 0), (59, .slice a_p0_5 p0_5.length c_p0_5), (60, .int .i64 (p0_5.length : Int)), (61, .int .i64 s)]) (fun s g => St w0 m m [[⟨b1, 25, [.int .i64 p0_0, .int .i64 p0_1, .int .i64 p0_2, .int .i64 p0_3, .int .i64 p0_4, .slice a_p0_5 p0_5.length c_p0_5]⟩]]) (fun s g => True) FUEL 0 () x6 hx7 trivial ⟨rfl, rfl, rfl, rfl, trivial⟩ (fun _ h => h) ?_
          rintro s_2 ⟨⟩ o10 fl11 hm9 - hn12 hd13
          have hm9 : fiduciallaw48_checked_s1 p0_5 s_2 = some o10 := hm9
          unfold fiduciallaw48_checked_s1 at hm9
          refine WK.sub (e' := [(2, .int .i64 0), (59, .slice a_p0_5 p0_5.length c_p0_5), (60, .int .i64 (p0_5.length : Int)), (61, .int .i64 s_2)]) ⟨rfl, rfl, rfl, rfl, trivial⟩ (WK.cls (C' := St w0 m m [[⟨b1, 25, [.int .i64 p0_0, .int .i64 p0_1, .int .i64 p0_2, .int .i64 p0_3, .int .i64 p0_4, .slice a_p0_5 p0_5.length c_p0_5]⟩]]) (fun _ h => h) ?_)
          refine WK_seq ?_
          refine WK_region ?_
          refine WO_pure tbok 1 [(2, .int .i64 0), (59, .slice a_p0_5 p0_5.length c_p0_5), (60, .int .i64 (p0_5.length : Int)), (61, .int .i64 s_2), (62, .bool (decide (s_2 < (p0_5.length : Int))))] rfl ⟨rfl, rfl, rfl, rfl, rfl, trivial⟩ ?_
          refine WO_end ?_
          refine WK_seq ?_
          refine WK_cond (b := decide (s_2 < (p0_5.length : Int))) rfl (fun hb15 => ?_) (fun hb15 => ?_)
          · have hm9 := ifT hb15 hm9
            refine WK_skip ?_
            refine WK_seq ?_
            refine WK_block ?_
            refine WK_seq ?_
            refine WK_region ?_
            obtain ⟨v_3, hy16, hm9⟩ := bind_some hm9
            obtain ⟨hc17, hy16⟩ := ix_some hy16
            refine WO_index tbok rfl rfl rfl rfl rfl rfl rfl rfl (SlR.addr h_p0_5) hc17 ?_
            refine WO_loadE tbok rfl rfl rfl rfl (fun _ h => St.sat h) h_p0_5 hy16 rfl ?_
            refine WO_pure tbok 1 [(2, .int .i64 0), (4, .int .i64 v_3), (59, .slice a_p0_5 p0_5.length c_p0_5), (60, .int .i64 (p0_5.length : Int)), (61, .int .i64 s_2)] rfl ⟨rfl, rfl, rfl, rfl, rfl, trivial⟩ ?_
            refine WO_end ?_
            refine WK_seq ?_
            obtain ⟨s_4, hx18, hm9⟩ := bind_some hm9
            refine WK_meet [(2, .int .i64 0), (59, .slice a_p0_5 p0_5.length c_p0_5), (60, .int .i64 (p0_5.length : Int)), (61, .int .i64 s_2), (70, .bool s_4)] (St w0 m m [[⟨b1, 25, [.int .i64 p0_0, .int .i64 p0_1, .int .i64 p0_2, .int .i64 p0_3, .int .i64 p0_4, .slice a_p0_5 p0_5.length c_p0_5]⟩]]) ?_ (fun hk19 => ?_)
            · refine WK_cond (b := s_4) rfl (fun hb20 => ?_) (fun hb20 => ?_)
              · have hm9 := ifT hb20 hm9
                refine WK_seq ?_
                refine WK_region ?_
                refine WO_pure tbok 1 [(2, .int .i64 2), (59, .slice a_p0_5 p0_5.length c_p0_5), (60, .int .i64 (p0_5.length : Int)), (61, .int .i64 s_2)] rfl ⟨rfl, rfl, rfl, rfl, trivial⟩ ?_
                refine WO_end ?_
                cases hm9
                have hq := hd13 _ rfl
                subst hq
                have hm : some _ = some _ := hm
                cases hm
                exact WK_ret (ret_out (L := []) (RLc_tmp rfl RLc_nil) (List.nil_sublist _) rfl)
              · have hm9 := ifF hb20 hm9
                refine WK_skip ?_
                refine WK_blk ?_
                refine WK_region ?_
                refine WO_pure tbok 2 [(2, .int .i64 0), (59, .slice a_p0_5 p0_5.length c_p0_5), (60, .int .i64 (p0_5.length : Int)), (61, .int .i64 (w64 (s_2 + 1)))] rfl ⟨rfl, rfl, rfl, rfl, trivial⟩ ?_
                refine WO_end ?_
                cases hm9
                refine WK.sub ?_ (WK.cls (fun _ h => h) (hn12 _ () rfl trivial))
                exact ⟨rfl, rfl, rfl, rfl, trivial⟩
            · refine WK_region ?_
              refine WO_pure tbok 3 [(2, .int .i64 0), (4, .int .i64 v_3), (59, .slice a_p0_5 p0_5.length c_p0_5), (60, .int .i64 (p0_5.length : Int)), (61, .int .i64 s_2), (67, .bool (v_3 != (-2147483648)))] rfl ⟨rfl, rfl, rfl, rfl, rfl, rfl, trivial⟩ ?_
              refine WO_split (d := 67) (b := v_3 != (-2147483648)) rfl (fun hb21 => ?_) (fun hb21 => ?_)
              · have hx18 := ifT hb21 hx18
                refine WO_pure tbok 1 [(2, .int .i64 0), (59, .slice a_p0_5 p0_5.length c_p0_5), (60, .int .i64 (p0_5.length : Int)), (61, .int .i64 s_2), (67, .bool true), (68, .int .i64 v_3)] rfl ⟨rfl, rfl, rfl, rfl, rfl, rfl, trivial⟩ ?_
                obtain ⟨y_5, hc22, hx18⟩ := bind_some hx18
                refine WO_call0 (.bool y_5) rfl rfl trivial rfl rfl rfl rfl St_closed ⟨45, #[], #[], rfl, callable_45, fun w hw => ⟨_, hw.sat, fiduciallaw48_far_walk hc22⟩⟩ ?_
                refine WO_pure tbok 1 [(2, .int .i64 0), (59, .slice a_p0_5 p0_5.length c_p0_5), (60, .int .i64 (p0_5.length : Int)), (61, .int .i64 s_2), (70, .bool y_5)] rfl ⟨rfl, rfl, rfl, rfl, rfl, trivial⟩ ?_
                refine WO_end ?_
                cases hx18
                refine WK.sub ?_ (WK.cls (fun _ h => h) hk19)
                exact ⟨rfl, rfl, rfl, rfl, rfl, trivial⟩
              · have hx18 := ifF hb21 hx18
                refine WO_pure tbok 1 [(2, .int .i64 0), (59, .slice a_p0_5 p0_5.length c_p0_5), (60, .int .i64 (p0_5.length : Int)), (61, .int .i64 s_2), (67, .bool false)] rfl ⟨rfl, rfl, rfl, rfl, rfl, trivial⟩ ?_
                refine WO_skip rfl rfl ?_
                refine WO_pure tbok 1 [(2, .int .i64 0), (59, .slice a_p0_5 p0_5.length c_p0_5), (60, .int .i64 (p0_5.length : Int)), (61, .int .i64 s_2), (70, .bool false)] rfl ⟨rfl, rfl, rfl, rfl, rfl, trivial⟩ ?_
                refine WO_end ?_
                cases hx18
                refine WK.sub ?_ (WK.cls (fun _ h => h) hk19)
                exact ⟨rfl, rfl, rfl, rfl, rfl, trivial⟩
          · have hm9 := ifF hb15 hm9
            refine WK_exit rfl ?_
            cases hm9
            refine WK.sub ?_ (WK.cls (fun _ h => h) (hk8 ((), ()) (hd13 _ rfl)))
            exact ⟨rfl, trivial⟩
  · refine WK_region ?_
    refine WO_pure tbok 1 [(1, .pointer (some ⟨b1, 0, none⟩)), (2, .int .i64 0), (5, .pointer (some ⟨b1, 3, none⟩))] rfl ⟨rfl, rfl, rfl, trivial⟩ ?_
    refine WO_loadB tbok 0 rfl rfl rfl rfl (fun _ h => h) rfl rfl ?_
    refine WO_pure tbok 2 [(1, .pointer (some ⟨b1, 0, none⟩)), (2, .int .i64 0), (8, .bool (decide (p0_3 < 2)))] rfl ⟨rfl, rfl, rfl, trivial⟩ ?_
    refine WO_split (d := 8) (b := decide (p0_3 < 2)) rfl (fun hb23 => ?_) (fun hb23 => ?_)
    · have hx2 := ifT hb23 hx2
      refine WO_pure tbok 33 [(1, .pointer (some ⟨b1, 0, none⟩)), (2, .int .i64 0), (39, .bool true)] rfl ⟨rfl, rfl, rfl, trivial⟩ ?_
      refine WO_skip rfl rfl ?_
      refine WO_pure tbok 4 [(1, .pointer (some ⟨b1, 0, none⟩)), (2, .int .i64 0), (44, .bool true)] rfl ⟨rfl, rfl, rfl, trivial⟩ ?_
      refine WO_skip rfl rfl ?_
      refine WO_pure tbok 1 [(1, .pointer (some ⟨b1, 0, none⟩)), (2, .int .i64 0), (48, .bool true)] rfl ⟨rfl, rfl, rfl, trivial⟩ ?_
      refine WO_end ?_
      cases hx2
      refine WK.sub ?_ (WK.cls (fun _ h => h) hk3)
      exact ⟨rfl, rfl, rfl, trivial⟩
    · have hx2 := ifF hb23 hx2
      refine WO_pure tbok 1 [(1, .pointer (some ⟨b1, 0, none⟩)), (2, .int .i64 0), (8, .bool false), (9, .pointer (some ⟨b1, 3, none⟩))] rfl ⟨rfl, rfl, rfl, rfl, trivial⟩ ?_
      refine WO_loadB tbok 0 rfl rfl rfl rfl (fun _ h => h) rfl rfl ?_
      refine WO_pure tbok 3 [(1, .pointer (some ⟨b1, 0, none⟩)), (2, .int .i64 0), (13, .bool (decide (64 < p0_3)))] rfl ⟨rfl, rfl, rfl, trivial⟩ ?_
      refine WO_split (d := 13) (b := decide (64 < p0_3)) rfl (fun hb24 => ?_) (fun hb24 => ?_)
      · have hx2 := ifT hb24 hx2
        refine WO_pure tbok 28 [(1, .pointer (some ⟨b1, 0, none⟩)), (2, .int .i64 0), (39, .bool true)] rfl ⟨rfl, rfl, rfl, trivial⟩ ?_
        refine WO_skip rfl rfl ?_
        refine WO_pure tbok 4 [(1, .pointer (some ⟨b1, 0, none⟩)), (2, .int .i64 0), (44, .bool true)] rfl ⟨rfl, rfl, rfl, trivial⟩ ?_
        refine WO_skip rfl rfl ?_
        refine WO_pure tbok 1 [(1, .pointer (some ⟨b1, 0, none⟩)), (2, .int .i64 0), (48, .bool true)] rfl ⟨rfl, rfl, rfl, trivial⟩ ?_
        refine WO_end ?_
        cases hx2
        refine WK.sub ?_ (WK.cls (fun _ h => h) hk3)
        exact ⟨rfl, rfl, rfl, trivial⟩
      · have hx2 := ifF hb24 hx2
        refine WO_pure tbok 1 [(1, .pointer (some ⟨b1, 0, none⟩)), (2, .int .i64 0), (13, .bool false), (14, .pointer (some ⟨b1, 4, none⟩))] rfl ⟨rfl, rfl, rfl, rfl, trivial⟩ ?_
        refine WO_loadB tbok 0 rfl rfl rfl rfl (fun _ h => h) rfl rfl ?_
        refine WO_pure tbok 3 [(1, .pointer (some ⟨b1, 0, none⟩)), (2, .int .i64 0), (18, .bool (decide (p0_4 < 2)))] rfl ⟨rfl, rfl, rfl, trivial⟩ ?_
        refine WO_split (d := 18) (b := decide (p0_4 < 2)) rfl (fun hb25 => ?_) (fun hb25 => ?_)
        · have hx2 := ifT hb25 hx2
          refine WO_pure tbok 23 [(1, .pointer (some ⟨b1, 0, none⟩)), (2, .int .i64 0), (39, .bool true)] rfl ⟨rfl, rfl, rfl, trivial⟩ ?_
          refine WO_skip rfl rfl ?_
          refine WO_pure tbok 4 [(1, .pointer (some ⟨b1, 0, none⟩)), (2, .int .i64 0), (44, .bool true)] rfl ⟨rfl, rfl, rfl, trivial⟩ ?_
          refine WO_skip rfl rfl ?_
          refine WO_pure tbok 1 [(1, .pointer (some ⟨b1, 0, none⟩)), (2, .int .i64 0), (48, .bool true)] rfl ⟨rfl, rfl, rfl, trivial⟩ ?_
          refine WO_end ?_
          cases hx2
          refine WK.sub ?_ (WK.cls (fun _ h => h) hk3)
          exact ⟨rfl, rfl, rfl, trivial⟩
        · have hx2 := ifF hb25 hx2
          refine WO_pure tbok 1 [(1, .pointer (some ⟨b1, 0, none⟩)), (2, .int .i64 0), (18, .bool false), (19, .pointer (some ⟨b1, 4, none⟩))] rfl ⟨rfl, rfl, rfl, rfl, trivial⟩ ?_
          refine WO_loadB tbok 0 rfl rfl rfl rfl (fun _ h => h) rfl rfl ?_
          refine WO_pure tbok 3 [(1, .pointer (some ⟨b1, 0, none⟩)), (2, .int .i64 0), (23, .bool (decide (64 < p0_4)))] rfl ⟨rfl, rfl, rfl, trivial⟩ ?_
          refine WO_split (d := 23) (b := decide (64 < p0_4)) rfl (fun hb26 => ?_) (fun hb26 => ?_)
          · have hx2 := ifT hb26 hx2
            refine WO_pure tbok 18 [(1, .pointer (some ⟨b1, 0, none⟩)), (2, .int .i64 0), (39, .bool true)] rfl ⟨rfl, rfl, rfl, trivial⟩ ?_
            refine WO_skip rfl rfl ?_
            refine WO_pure tbok 4 [(1, .pointer (some ⟨b1, 0, none⟩)), (2, .int .i64 0), (44, .bool true)] rfl ⟨rfl, rfl, rfl, trivial⟩ ?_
            refine WO_skip rfl rfl ?_
            refine WO_pure tbok 1 [(1, .pointer (some ⟨b1, 0, none⟩)), (2, .int .i64 0), (48, .bool true)] rfl ⟨rfl, rfl, rfl, trivial⟩ ?_
            refine WO_end ?_
            cases hx2
            refine WK.sub ?_ (WK.cls (fun _ h => h) hk3)
            exact ⟨rfl, rfl, rfl, trivial⟩
          · have hx2 := ifF hb26 hx2
            refine WO_pure tbok 1 [(1, .pointer (some ⟨b1, 0, none⟩)), (2, .int .i64 0), (23, .bool false), (24, .pointer (some ⟨b1, 2, none⟩))] rfl ⟨rfl, rfl, rfl, rfl, trivial⟩ ?_
            refine WO_loadB tbok 0 rfl rfl rfl rfl (fun _ h => h) rfl rfl ?_
            refine WO_pure tbok 3 [(1, .pointer (some ⟨b1, 0, none⟩)), (2, .int .i64 0), (28, .bool (decide (p0_2 < 2)))] rfl ⟨rfl, rfl, rfl, trivial⟩ ?_
            refine WO_split (d := 28) (b := decide (p0_2 < 2)) rfl (fun hb27 => ?_) (fun hb27 => ?_)
            · have hx2 := ifT hb27 hx2
              refine WO_pure tbok 13 [(1, .pointer (some ⟨b1, 0, none⟩)), (2, .int .i64 0), (39, .bool true)] rfl ⟨rfl, rfl, rfl, trivial⟩ ?_
              refine WO_skip rfl rfl ?_
              refine WO_pure tbok 4 [(1, .pointer (some ⟨b1, 0, none⟩)), (2, .int .i64 0), (44, .bool true)] rfl ⟨rfl, rfl, rfl, trivial⟩ ?_
              refine WO_skip rfl rfl ?_
              refine WO_pure tbok 1 [(1, .pointer (some ⟨b1, 0, none⟩)), (2, .int .i64 0), (48, .bool true)] rfl ⟨rfl, rfl, rfl, trivial⟩ ?_
              refine WO_end ?_
              cases hx2
              refine WK.sub ?_ (WK.cls (fun _ h => h) hk3)
              exact ⟨rfl, rfl, rfl, trivial⟩
            · have hx2 := ifF hb27 hx2
              refine WO_pure tbok 1 [(1, .pointer (some ⟨b1, 0, none⟩)), (2, .int .i64 0), (28, .bool false), (29, .pointer (some ⟨b1, 2, none⟩))] rfl ⟨rfl, rfl, rfl, rfl, trivial⟩ ?_
              refine WO_loadB tbok 0 rfl rfl rfl rfl (fun _ h => h) rfl rfl ?_
              refine WO_pure tbok 3 [(1, .pointer (some ⟨b1, 0, none⟩)), (2, .int .i64 0), (33, .bool (decide (65536 < p0_2)))] rfl ⟨rfl, rfl, rfl, trivial⟩ ?_
              refine WO_split (d := 33) (b := decide (65536 < p0_2)) rfl (fun hb28 => ?_) (fun hb28 => ?_)
              · have hx2 := ifT hb28 hx2
                refine WO_pure tbok 8 [(1, .pointer (some ⟨b1, 0, none⟩)), (2, .int .i64 0), (39, .bool true)] rfl ⟨rfl, rfl, rfl, trivial⟩ ?_
                refine WO_skip rfl rfl ?_
                refine WO_pure tbok 4 [(1, .pointer (some ⟨b1, 0, none⟩)), (2, .int .i64 0), (44, .bool true)] rfl ⟨rfl, rfl, rfl, trivial⟩ ?_
                refine WO_skip rfl rfl ?_
                refine WO_pure tbok 1 [(1, .pointer (some ⟨b1, 0, none⟩)), (2, .int .i64 0), (48, .bool true)] rfl ⟨rfl, rfl, rfl, trivial⟩ ?_
                refine WO_end ?_
                cases hx2
                refine WK.sub ?_ (WK.cls (fun _ h => h) hk3)
                exact ⟨rfl, rfl, rfl, trivial⟩
              · have hx2 := ifF hb28 hx2
                refine WO_pure tbok 1 [(1, .pointer (some ⟨b1, 0, none⟩)), (2, .int .i64 0), (33, .bool false), (34, .pointer (some ⟨b1, 2, none⟩))] rfl ⟨rfl, rfl, rfl, rfl, trivial⟩ ?_
                refine WO_loadB tbok 0 rfl rfl rfl rfl (fun _ h => h) rfl rfl ?_
                refine WO_pure tbok 4 [(1, .pointer (some ⟨b1, 0, none⟩)), (2, .int .i64 0), (39, .bool ((Int.tmod p0_2 2) != 0))] rfl ⟨rfl, rfl, rfl, trivial⟩ ?_
                refine WO_split (d := 39) (b := (Int.tmod p0_2 2) != 0) rfl (fun hb29 => ?_) (fun hb29 => ?_)
                · have hx2 := ifT hb29 hx2
                  refine WO_pure tbok 2 [(1, .pointer (some ⟨b1, 0, none⟩)), (2, .int .i64 0), (39, .bool true)] rfl ⟨rfl, rfl, rfl, trivial⟩ ?_
                  refine WO_skip rfl rfl ?_
                  refine WO_pure tbok 4 [(1, .pointer (some ⟨b1, 0, none⟩)), (2, .int .i64 0), (44, .bool true)] rfl ⟨rfl, rfl, rfl, trivial⟩ ?_
                  refine WO_skip rfl rfl ?_
                  refine WO_pure tbok 1 [(1, .pointer (some ⟨b1, 0, none⟩)), (2, .int .i64 0), (48, .bool true)] rfl ⟨rfl, rfl, rfl, trivial⟩ ?_
                  refine WO_end ?_
                  cases hx2
                  refine WK.sub ?_ (WK.cls (fun _ h => h) hk3)
                  exact ⟨rfl, rfl, rfl, trivial⟩
                · have hx2 := ifF hb29 hx2
                  refine WO_pure tbok 1 [(1, .pointer (some ⟨b1, 0, none⟩)), (2, .int .i64 0), (39, .bool false), (40, .pointer (some ⟨b1, 0, none⟩))] rfl ⟨rfl, rfl, rfl, rfl, trivial⟩ ?_
                  refine WO_loadB tbok 0 rfl rfl rfl rfl (fun _ h => h) rfl rfl ?_
                  obtain ⟨y_6, hc30, hx2⟩ := bind_some hx2
                  refine WO_call0 (.bool y_6) rfl rfl trivial rfl rfl rfl rfl St_closed ⟨45, #[], #[], rfl, callable_45, fun w hw => ⟨_, hw.sat, fiduciallaw48_far_walk hc30⟩⟩ ?_
                  refine WO_pure tbok 2 [(1, .pointer (some ⟨b1, 0, none⟩)), (2, .int .i64 0), (44, .bool y_6)] rfl ⟨rfl, rfl, rfl, trivial⟩ ?_
                  refine WO_split (d := 44) (b := y_6) rfl (fun hb31 => ?_) (fun hb31 => ?_)
                  · have hx2 := ifT hb31 hx2
                    refine WO_pure tbok 2 [(1, .pointer (some ⟨b1, 0, none⟩)), (2, .int .i64 0), (44, .bool true)] rfl ⟨rfl, rfl, rfl, trivial⟩ ?_
                    refine WO_skip rfl rfl ?_
                    refine WO_pure tbok 1 [(1, .pointer (some ⟨b1, 0, none⟩)), (2, .int .i64 0), (48, .bool true)] rfl ⟨rfl, rfl, rfl, trivial⟩ ?_
                    refine WO_end ?_
                    cases hx2
                    refine WK.sub ?_ (WK.cls (fun _ h => h) hk3)
                    exact ⟨rfl, rfl, rfl, trivial⟩
                  · have hx2 := ifF hb31 hx2
                    refine WO_pure tbok 1 [(1, .pointer (some ⟨b1, 0, none⟩)), (2, .int .i64 0), (44, .bool false), (45, .pointer (some ⟨b1, 1, none⟩))] rfl ⟨rfl, rfl, rfl, rfl, trivial⟩ ?_
                    refine WO_loadB tbok 0 rfl rfl rfl rfl (fun _ h => h) rfl rfl ?_
                    obtain ⟨y_7, hc32, hx2⟩ := bind_some hx2
                    refine WO_call0 (.bool y_7) rfl rfl trivial rfl rfl rfl rfl St_closed ⟨45, #[], #[], rfl, callable_45, fun w hw => ⟨_, hw.sat, fiduciallaw48_far_walk hc32⟩⟩ ?_
                    refine WO_pure tbok 1 [(1, .pointer (some ⟨b1, 0, none⟩)), (2, .int .i64 0), (48, .bool y_7)] rfl ⟨rfl, rfl, rfl, trivial⟩ ?_
                    refine WO_end ?_
                    cases hx2
                    refine WK.sub ?_ (WK.cls (fun _ h => h) hk3)
                    exact ⟨rfl, rfl, rfl, trivial⟩
theorem fiduciallaw48_same_walk {m : Mu} {p0_0 : Int} {p0_1 : Int} {p0_2 : Int} {p0_3 : Int} {p0_4 : Int} {p0_5 : List Int} {p1_0 : Int} {p1_1 : Int} {p1_2 : Int} {p1_3 : Int} {p1_4 : Int} {p1_5 : List Int} {a_p0_5 : Option Addr} {q_p0_5 c_p0_5 : Nat} {a_p1_5 : Option Addr} {q_p1_5 c_p1_5 : Nat} (h_p0_5 : SlR (FE (I1 .i64)) 1 m (.slice a_p0_5 q_p0_5 c_p0_5) p0_5) (h_p1_5 : SlR (FE (I1 .i64)) 1 m (.slice a_p1_5 q_p1_5 c_p1_5) p1_5) {r : Bool} (hm : fiduciallaw48_same p0_0 p0_1 p0_2 p0_3 p0_4 p0_5 p1_0 p1_1 p1_2 p1_3 p1_4 p1_5 = some r) :
    Go.E.Spec Try.prog 15 [.agg #[.int .i64 p0_0, .int .i64 p0_1, .int .i64 p0_2, .int .i64 p0_3, .int .i64 p0_4, .slice a_p0_5 q_p0_5 c_p0_5], .agg #[.int .i64 p1_0, .int .i64 p1_1, .int .i64 p1_2, .int .i64 p1_3, .int .i64 p1_4, .slice a_p1_5 q_p1_5 c_p1_5]] m (fun v _ _ => v = .bool r) := by
  refine Spec_enter Try.func15 rfl rfl rfl (fun w0 => ?_)
  refine WK.sub (e' := [(0, .agg #[.int .i64 p0_0, .int .i64 p0_1, .int .i64 p0_2, .int .i64 p0_3, .int .i64 p0_4, .slice a_p0_5 q_p0_5 c_p0_5]), (1, .agg #[.int .i64 p1_0, .int .i64 p1_1, .int .i64 p1_2, .int .i64 p1_3, .int .i64 p1_4, .slice a_p1_5 q_p1_5 c_p1_5])]) ⟨rfl, rfl, trivial⟩ ?_
  obtain rfl := SlR.qlen h_p0_5
  obtain rfl := SlR.qlen h_p1_5
  refine WK.sub (e' := [(0, .agg #[.int .i64 p0_0, .int .i64 p0_1, .int .i64 p0_2, .int .i64 p0_3, .int .i64 p0_4, .slice a_p0_5 p0_5.length c_p0_5]), (1, .agg #[.int .i64 p1_0, .int .i64 p1_1, .int .i64 p1_2, .int .i64 p1_3, .int .i64 p1_4, .slice a_p1_5 p1_5.length c_p1_5])]) ⟨rfl, rfl, trivial⟩ ?_
  unfold fiduciallaw48_same at hm
  refine WK_seq ?_
  refine WK_region ?_
  refine WO_box [.int .i64 p0_0, .int .i64 p0_1, .int .i64 p0_2, .int .i64 p0_3, .int .i64 p0_4, .slice a_p0_5 p0_5.length c_p0_5] rfl rfl trivial rfl rfl rfl (fun b1 => ?_)
  refine WO.cls (C' := St w0 m m [[⟨b1, 25, [.int .i64 p0_0, .int .i64 p0_1, .int .i64 p0_2, .int .i64 p0_3, .int .i64 p0_4, .slice a_p0_5 p0_5.length c_p0_5]⟩]]) (fun _ h => h) ?_
  refine WO_box [.int .i64 p1_0, .int .i64 p1_1, .int .i64 p1_2, .int .i64 p1_3, .int .i64 p1_4, .slice a_p1_5 p1_5.length c_p1_5] rfl rfl trivial rfl rfl rfl (fun b2 => ?_)
  refine WO.cls (C' := St w0 m m [[⟨b1, 25, [.int .i64 p0_0, .int .i64 p0_1, .int .i64 p0_2, .int .i64 p0_3, .int .i64 p0_4, .slice a_p0_5 p0_5.length c_p0_5]⟩], [⟨b2, 25, [.int .i64 p1_0, .int .i64 p1_1, .int .i64 p1_2, .int .i64 p1_3, .int .i64 p1_4, .slice a_p1_5 p1_5.length c_p1_5]⟩]]) (fun _ h => h) ?_
  refine WO_pure tbok 1 [(2, .pointer (some ⟨b1, 0, none⟩)), (3, .pointer (some ⟨b2, 0, none⟩)), (4, .bool false)] rfl ⟨rfl, rfl, rfl, trivial⟩ ?_
  refine WO_end ?_
  refine WK_seq ?_
  refine WK_region ?_
  refine WO_pure tbok 1 [(2, .pointer (some ⟨b1, 0, none⟩)), (3, .pointer (some ⟨b2, 0, none⟩)), (4, .bool false), (5, .pointer (some ⟨b1, 0, none⟩))] rfl ⟨rfl, rfl, rfl, rfl, trivial⟩ ?_
  refine WO_loadB tbok 0 rfl rfl rfl rfl (fun _ h => h) rfl rfl ?_
  refine WO_pure tbok 1 [(2, .pointer (some ⟨b1, 0, none⟩)), (3, .pointer (some ⟨b2, 0, none⟩)), (4, .bool false), (6, .int .i64 p0_0), (7, .pointer (some ⟨b2, 0, none⟩))] rfl ⟨rfl, rfl, rfl, rfl, rfl, trivial⟩ ?_
  refine WO_loadB tbok 1 rfl rfl rfl rfl (fun _ h => h) rfl rfl ?_
  refine WO_pure tbok 2 [(2, .pointer (some ⟨b1, 0, none⟩)), (3, .pointer (some ⟨b2, 0, none⟩)), (4, .bool false), (10, .bool (p0_0 == p1_0))] rfl ⟨rfl, rfl, rfl, rfl, trivial⟩ ?_
  refine WO_split (d := 10) (b := p0_0 == p1_0) rfl (fun hb3 => ?_) (fun hb3 => ?_)
  · have hm := ifT hb3 hm
    refine WO_pure tbok 1 [(2, .pointer (some ⟨b1, 0, none⟩)), (3, .pointer (some ⟨b2, 0, none⟩)), (4, .bool false), (10, .bool true), (11, .pointer (some ⟨b1, 1, none⟩))] rfl ⟨rfl, rfl, rfl, rfl, rfl, trivial⟩ ?_
    refine WO_loadB tbok 0 rfl rfl rfl rfl (fun _ h => h) rfl rfl ?_
    refine WO_pure tbok 1 [(2, .pointer (some ⟨b1, 0, none⟩)), (3, .pointer (some ⟨b2, 0, none⟩)), (4, .bool false), (10, .bool true), (12, .int .i64 p0_1), (13, .pointer (some ⟨b2, 1, none⟩))] rfl ⟨rfl, rfl, rfl, rfl, rfl, rfl, trivial⟩ ?_
    refine WO_loadB tbok 1 rfl rfl rfl rfl (fun _ h => h) rfl rfl ?_
    refine WO_pure tbok 3 [(2, .pointer (some ⟨b1, 0, none⟩)), (3, .pointer (some ⟨b2, 0, none⟩)), (4, .bool false), (17, .bool (p0_1 == p1_1))] rfl ⟨rfl, rfl, rfl, rfl, trivial⟩ ?_
    refine WO_split (d := 17) (b := p0_1 == p1_1) rfl (fun hb4 => ?_) (fun hb4 => ?_)
    · have hm := ifT hb4 hm
      refine WO_pure tbok 1 [(2, .pointer (some ⟨b1, 0, none⟩)), (3, .pointer (some ⟨b2, 0, none⟩)), (4, .bool false), (17, .bool true), (18, .pointer (some ⟨b1, 2, none⟩))] rfl ⟨rfl, rfl, rfl, rfl, rfl, trivial⟩ ?_
      refine WO_loadB tbok 0 rfl rfl rfl rfl (fun _ h => h) rfl rfl ?_
      refine WO_pure tbok 1 [(2, .pointer (some ⟨b1, 0, none⟩)), (3, .pointer (some ⟨b2, 0, none⟩)), (4, .bool false), (17, .bool true), (19, .int .i64 p0_2), (20, .pointer (some ⟨b2, 2, none⟩))] rfl ⟨rfl, rfl, rfl, rfl, rfl, rfl, trivial⟩ ?_
      refine WO_loadB tbok 1 rfl rfl rfl rfl (fun _ h => h) rfl rfl ?_
      refine WO_pure tbok 3 [(2, .pointer (some ⟨b1, 0, none⟩)), (3, .pointer (some ⟨b2, 0, none⟩)), (4, .bool false), (24, .bool (p0_2 == p1_2))] rfl ⟨rfl, rfl, rfl, rfl, trivial⟩ ?_
      refine WO_split (d := 24) (b := p0_2 == p1_2) rfl (fun hb5 => ?_) (fun hb5 => ?_)
      · have hm := ifT hb5 hm
        refine WO_pure tbok 1 [(2, .pointer (some ⟨b1, 0, none⟩)), (3, .pointer (some ⟨b2, 0, none⟩)), (4, .bool false), (24, .bool true), (25, .pointer (some ⟨b1, 3, none⟩))] rfl ⟨rfl, rfl, rfl, rfl, rfl, trivial⟩ ?_
        refine WO_loadB tbok 0 rfl rfl rfl rfl (fun _ h => h) rfl rfl ?_
        refine WO_pure tbok 1 [(2, .pointer (some ⟨b1, 0, none⟩)), (3, .pointer (some ⟨b2, 0, none⟩)), (4, .bool false), (24, .bool true), (26, .int .i64 p0_3), (27, .pointer (some ⟨b2, 3, none⟩))] rfl ⟨rfl, rfl, rfl, rfl, rfl, rfl, trivial⟩ ?_
        refine WO_loadB tbok 1 rfl rfl rfl rfl (fun _ h => h) rfl rfl ?_
        refine WO_pure tbok 3 [(2, .pointer (some ⟨b1, 0, none⟩)), (3, .pointer (some ⟨b2, 0, none⟩)), (4, .bool false), (31, .bool (p0_3 == p1_3))] rfl ⟨rfl, rfl, rfl, rfl, trivial⟩ ?_
        refine WO_split (d := 31) (b := p0_3 == p1_3) rfl (fun hb6 => ?_) (fun hb6 => ?_)
        · have hm := ifT hb6 hm
          refine WO_pure tbok 1 [(2, .pointer (some ⟨b1, 0, none⟩)), (3, .pointer (some ⟨b2, 0, none⟩)), (4, .bool false), (31, .bool true), (32, .pointer (some ⟨b1, 4, none⟩))] rfl ⟨rfl, rfl, rfl, rfl, rfl, trivial⟩ ?_
          refine WO_loadB tbok 0 rfl rfl rfl rfl (fun _ h => h) rfl rfl ?_
          refine WO_pure tbok 1 [(2, .pointer (some ⟨b1, 0, none⟩)), (3, .pointer (some ⟨b2, 0, none⟩)), (4, .bool false), (31, .bool true), (33, .int .i64 p0_4), (34, .pointer (some ⟨b2, 4, none⟩))] rfl ⟨rfl, rfl, rfl, rfl, rfl, rfl, trivial⟩ ?_
          refine WO_loadB tbok 1 rfl rfl rfl rfl (fun _ h => h) rfl rfl ?_
          refine WO_pure tbok 3 [(2, .pointer (some ⟨b1, 0, none⟩)), (3, .pointer (some ⟨b2, 0, none⟩)), (4, .bool false), (38, .bool (p0_4 == p1_4))] rfl ⟨rfl, rfl, rfl, rfl, trivial⟩ ?_
          refine WO_split (d := 38) (b := p0_4 == p1_4) rfl (fun hb7 => ?_) (fun hb7 => ?_)
          · have hm := ifT hb7 hm
            refine WO_pure tbok 1 [(3, .pointer (some ⟨b2, 0, none⟩)), (4, .bool false), (38, .bool true), (39, .pointer (some ⟨b1, 5, none⟩))] rfl ⟨rfl, rfl, rfl, rfl, trivial⟩ ?_
            refine WO_loadB tbok 0 rfl rfl rfl rfl (fun _ h => h) rfl rfl ?_
            refine WO_pure tbok 1 [(4, .bool false), (38, .bool true), (40, .slice a_p0_5 p0_5.length c_p0_5), (41, .pointer (some ⟨b2, 5, none⟩))] rfl ⟨rfl, rfl, rfl, rfl, trivial⟩ ?_
            refine WO_loadB tbok 1 rfl rfl rfl rfl (fun _ h => h) rfl rfl ?_
            obtain ⟨y_1, hc8, hm⟩ := bind_some hm
            refine WO_call0 (.bool y_1) rfl rfl trivial rfl rfl rfl rfl St_closed ⟨38, #[], #[], rfl, callable_38, fun w hw => ⟨_, hw.sat, slices_Equal_sint_walk h_p0_5 h_p1_5 hc8⟩⟩ ?_
            refine WO_pure tbok 2 [(4, .bool y_1)] rfl ⟨rfl, trivial⟩ ?_
            refine WO_end ?_
            cases hm
            exact WK_ret (ret_out (L := []) (RLc_tmp rfl RLc_nil) (List.nil_sublist _) rfl)
          · have hm := ifF hb7 hm
            refine WO_pure tbok 4 [(4, .bool false), (38, .bool false)] rfl ⟨rfl, rfl, trivial⟩ ?_
            refine WO_skip rfl rfl ?_
            refine WO_pure tbok 2 [(4, .bool false)] rfl ⟨rfl, trivial⟩ ?_
            refine WO_end ?_
            cases hm
            exact WK_ret (ret_out (L := []) (RLc_tmp rfl RLc_nil) (List.nil_sublist _) rfl)
        · have hm := ifF hb6 hm
          refine WO_pure tbok 11 [(4, .bool false), (38, .bool false)] rfl ⟨rfl, rfl, trivial⟩ ?_
          refine WO_skip rfl rfl ?_
          refine WO_pure tbok 2 [(4, .bool false)] rfl ⟨rfl, trivial⟩ ?_
          refine WO_end ?_
          cases hm
          exact WK_ret (ret_out (L := []) (RLc_tmp rfl RLc_nil) (List.nil_sublist _) rfl)
      · have hm := ifF hb5 hm
        refine WO_pure tbok 18 [(4, .bool false), (38, .bool false)] rfl ⟨rfl, rfl, trivial⟩ ?_
        refine WO_skip rfl rfl ?_
        refine WO_pure tbok 2 [(4, .bool false)] rfl ⟨rfl, trivial⟩ ?_
        refine WO_end ?_
        cases hm
        exact WK_ret (ret_out (L := []) (RLc_tmp rfl RLc_nil) (List.nil_sublist _) rfl)
    · have hm := ifF hb4 hm
      refine WO_pure tbok 25 [(4, .bool false), (38, .bool false)] rfl ⟨rfl, rfl, trivial⟩ ?_
      refine WO_skip rfl rfl ?_
      refine WO_pure tbok 2 [(4, .bool false)] rfl ⟨rfl, trivial⟩ ?_
      refine WO_end ?_
      cases hm
      exact WK_ret (ret_out (L := []) (RLc_tmp rfl RLc_nil) (List.nil_sublist _) rfl)
  · have hm := ifF hb3 hm
    refine WO_pure tbok 32 [(4, .bool false), (38, .bool false)] rfl ⟨rfl, rfl, trivial⟩ ?_
    refine WO_skip rfl rfl ?_
    refine WO_pure tbok 2 [(4, .bool false)] rfl ⟨rfl, trivial⟩ ?_
    refine WO_end ?_
    cases hm
    exact WK_ret (ret_out (L := []) (RLc_tmp rfl RLc_nil) (List.nil_sublist _) rfl)
def terrain_Erode_Q (r : Int × Int × Int × Int × Int × List Int × Int) : Value → Mu → List Ent → Prop := fun v m L => ∃ (a0 : Option Addr) (q0 c0 : Nat), v = .tuple #[.agg #[.int .i64 r.1, .int .i64 r.2.1, .int .i64 r.2.2.1, .int .i64 r.2.2.2.1, .int .i64 r.2.2.2.2.1, .slice a0 q0 c0], .int .i64 r.2.2.2.2.2.2] ∧ SlR (FE (I1 .i64)) 1 m (.slice a0 q0 c0) r.2.2.2.2.2.1
theorem terrain_Erode_walk {m : Mu} {p0_0 : Int} {p0_1 : Int} {p0_2 : Int} {p0_3 : Int} {p0_4 : Int} {p0_5 : List Int} {p1 : Int} {a_p0_5 : Option Addr} {q_p0_5 c_p0_5 : Nat} (h_p0_5 : SlR (FE (I1 .i64)) 1 m (.slice a_p0_5 q_p0_5 c_p0_5) p0_5) {r : Int × Int × Int × Int × Int × List Int × Int} (hm : terrain_Erode p0_0 p0_1 p0_2 p0_3 p0_4 p0_5 p1 = some r) :
    Go.E.Spec Try.prog 24 [.agg #[.int .i64 p0_0, .int .i64 p0_1, .int .i64 p0_2, .int .i64 p0_3, .int .i64 p0_4, .slice a_p0_5 q_p0_5 c_p0_5], .int .i64 p1] m (terrain_Erode_Q r) := by
  refine Spec_enter Try.func24 rfl rfl rfl (fun w0 => ?_)
  refine WK.sub (e' := [(0, .agg #[.int .i64 p0_0, .int .i64 p0_1, .int .i64 p0_2, .int .i64 p0_3, .int .i64 p0_4, .slice a_p0_5 q_p0_5 c_p0_5]), (1, .int .i64 p1)]) ⟨rfl, rfl, trivial⟩ ?_
  obtain rfl := SlR.qlen h_p0_5
  refine WK.sub (e' := [(0, .agg #[.int .i64 p0_0, .int .i64 p0_1, .int .i64 p0_2, .int .i64 p0_3, .int .i64 p0_4, .slice a_p0_5 p0_5.length c_p0_5]), (1, .int .i64 p1)]) ⟨rfl, rfl, trivial⟩ ?_
  unfold terrain_Erode at hm
  refine WK_seq ?_
  refine WK_region ?_
  refine WO_box [.int .i64 p0_0, .int .i64 p0_1, .int .i64 p0_2, .int .i64 p0_3, .int .i64 p0_4, .slice a_p0_5 p0_5.length c_p0_5] rfl rfl trivial rfl rfl rfl (fun b1 => ?_)
  refine WO.cls (C' := St w0 m m [[⟨b1, 25, [.int .i64 p0_0, .int .i64 p0_1, .int .i64 p0_2, .int .i64 p0_3, .int .i64 p0_4, .slice a_p0_5 p0_5.length c_p0_5]⟩]]) (fun _ h => h) ?_
  refine WO_alloc tbok [.int .i64 0, .int .i64 0, .int .i64 0, .int .i64 0, .int .i64 0, .slice none 0 0] rfl rfl trivial rfl rfl rfl rfl (fun b2 => ?_)
  refine WO.cls (C' := St w0 m m [[⟨b1, 25, [.int .i64 p0_0, .int .i64 p0_1, .int .i64 p0_2, .int .i64 p0_3, .int .i64 p0_4, .slice a_p0_5 p0_5.length c_p0_5]⟩], [⟨b2, 25, [.int .i64 0, .int .i64 0, .int .i64 0, .int .i64 0, .int .i64 0, .slice none 0 0]⟩]]) (fun _ h => h) ?_
  refine WO_pure tbok 1 [(1, .int .i64 p1), (2, .pointer (some ⟨b1, 0, none⟩)), (4, .pointer (some ⟨b2, 0, none⟩)), (5, .int .i64 0)] rfl ⟨rfl, rfl, rfl, rfl, trivial⟩ ?_
  refine WO_end ?_
  refine WK_seq ?_
  refine WK_seq ?_
  refine WK_region ?_
  refine WO_loadB tbok 0 rfl rfl rfl rfl (fun _ h => h) rfl rfl ?_
  refine WO_pure tbok 1 [(1, .int .i64 p1), (2, .pointer (some ⟨b1, 0, none⟩)), (4, .pointer (some ⟨b2, 0, none⟩)), (5, .int .i64 0), (7, .agg #[.int .i64 p0_0, .int .i64 p0_1, .int .i64 p0_2, .int .i64 p0_3, .int .i64 p0_4, .slice a_p0_5 p0_5.length c_p0_5]), (8, .int .i64 p1)] rfl ⟨rfl, rfl, rfl, rfl, rfl, rfl, trivial⟩ ?_
  obtain ⟨y_1, hc3, hm⟩ := bind_some hm
  refine WO_call0 (.int .i64 y_1) rfl rfl trivial rfl rfl rfl rfl St_closed ⟨51, #[], #[], rfl, callable_51, fun w hw => ⟨_, hw.sat, terrain_checked_walk h_p0_5 hc3⟩⟩ ?_
  refine WO_pure tbok 1 [(1, .int .i64 p1), (2, .pointer (some ⟨b1, 0, none⟩)), (4, .pointer (some ⟨b2, 0, none⟩)), (5, .int .i64 0), (6, .int .i64 y_1)] rfl ⟨rfl, rfl, rfl, rfl, rfl, trivial⟩ ?_
  refine WO_end ?_
  refine WK_seq ?_
  refine WK_region ?_
  refine WO_pure tbok 2 [(1, .int .i64 p1), (2, .pointer (some ⟨b1, 0, none⟩)), (4, .pointer (some ⟨b2, 0, none⟩)), (5, .int .i64 0), (6, .int .i64 y_1), (11, .bool (y_1 != 0))] rfl ⟨rfl, rfl, rfl, rfl, rfl, rfl, trivial⟩ ?_
  refine WO_end ?_
  refine WK_cond (b := y_1 != 0) rfl (fun hb4 => ?_) (fun hb4 => ?_)
  · have hm := ifT hb4 hm
    refine WK_seq ?_
    refine WK_region ?_
    refine WO_pure tbok 2 [(1, .int .i64 p1), (2, .pointer (some ⟨b1, 0, none⟩)), (4, .pointer (some ⟨b2, 0, none⟩)), (5, .int .i64 0), (12, .agg #[.int .i64 0, .int .i64 0, .int .i64 0, .int .i64 0, .int .i64 0, .slice none 0 0]), (13, .int .i64 y_1)] rfl ⟨rfl, rfl, rfl, rfl, rfl, rfl, trivial⟩ ?_
    refine WO_storeB tbok 1 [.int .i64 0, .int .i64 0, .int .i64 0, .int .i64 0, .int .i64 0, .slice none 0 0] rfl rfl rfl rfl rfl rfl rfl ?_
    refine WO.cls (C' := St w0 m m [[⟨b1, 25, [.int .i64 p0_0, .int .i64 p0_1, .int .i64 p0_2, .int .i64 p0_3, .int .i64 p0_4, .slice a_p0_5 p0_5.length c_p0_5]⟩], [⟨b2, 25, [.int .i64 0, .int .i64 0, .int .i64 0, .int .i64 0, .int .i64 0, .slice none 0 0]⟩]]) (fun _ h => h) ?_
    refine WO_pure tbok 1 [(1, .int .i64 p1), (2, .pointer (some ⟨b1, 0, none⟩)), (4, .pointer (some ⟨b2, 0, none⟩)), (5, .int .i64 y_1)] rfl ⟨rfl, rfl, rfl, rfl, trivial⟩ ?_
    refine WO_end ?_
    cases hm
    exact WK_ret (ret_out (L := []) (RLc_cell tbok 1 rfl rfl rfl (RLc_tmp rfl RLc_nil)) (List.nil_sublist _) ⟨none, 0, 0, rfl, SlR_nil⟩)
  · have hm := ifF hb4 hm
    refine WK_skip ?_
    refine WK_seq ?_
    refine WK_region ?_
    refine WO_loadB tbok 0 rfl rfl rfl rfl (fun _ h => h) rfl rfl ?_
    refine WO_pure tbok 1 [(4, .pointer (some ⟨b2, 0, none⟩)), (5, .int .i64 0), (14, .agg #[.int .i64 p0_0, .int .i64 p0_1, .int .i64 p0_2, .int .i64 p0_3, .int .i64 p0_4, .slice a_p0_5 p0_5.length c_p0_5]), (15, .int .i64 p1)] rfl ⟨rfl, rfl, rfl, rfl, trivial⟩ ?_
    obtain ⟨⟨y_4, y_5, y_6, y_7, y_8, y_9⟩, hc5, hm⟩ := bind_some hm
    refine WO_call2 (terrain_filtered_Q (y_4, y_5, y_6, y_7, y_8, y_9)) rfl rfl trivial rfl rfl rfl rfl ⟨52, #[], #[], rfl, callable_52, terrain_filtered_walk h_p0_5 (fun m1 hm1 z_2 z_3 _ h => specV_cap callable_53 (terrain_least_walk h)) hc5⟩ (fun v9 m10 L8 hle11 hq => ?_)
    obtain ⟨a6, qa6, c7, rfl, h12⟩ := hq
    obtain rfl := SlR.qlen h12
    refine WO.cls (C' := St w0 m m10 [[⟨b1, 25, [.int .i64 p0_0, .int .i64 p0_1, .int .i64 p0_2, .int .i64 p0_3, .int .i64 p0_4, .slice a_p0_5 p0_5.length c_p0_5]⟩], [⟨b2, 25, [.int .i64 0, .int .i64 0, .int .i64 0, .int .i64 0, .int .i64 0, .slice none 0 0]⟩], L8]) (fun _ h => h.sub (by simp)) ?_
    refine WO_storeB tbok 1 [.int .i64 y_4, .int .i64 y_5, .int .i64 y_6, .int .i64 y_7, .int .i64 y_8, .slice a6 ((y_9).length) c7] rfl rfl rfl rfl rfl rfl rfl ?_
    refine WO.cls (C' := St w0 m m10 [[⟨b1, 25, [.int .i64 p0_0, .int .i64 p0_1, .int .i64 p0_2, .int .i64 p0_3, .int .i64 p0_4, .slice a_p0_5 p0_5.length c_p0_5]⟩], [⟨b2, 25, [.int .i64 y_4, .int .i64 y_5, .int .i64 y_6, .int .i64 y_7, .int .i64 y_8, .slice a6 ((y_9).length) c7]⟩], L8]) (fun _ h => h) ?_
    refine WO_pure tbok 1 [(4, .pointer (some ⟨b2, 0, none⟩)), (5, .int .i64 0)] rfl ⟨rfl, rfl, trivial⟩ ?_
    refine WO_end ?_
    cases hm
    exact WK_ret (ret_out (L := []) (RLc_cell tbok 1 rfl rfl rfl (RLc_tmp rfl RLc_nil)) (List.nil_sublist _) ⟨a6, _, c7, rfl, h12⟩)
def terrain_Dilate_Q (r : Int × Int × Int × Int × Int × List Int × Int) : Value → Mu → List Ent → Prop := fun v m L => ∃ (a0 : Option Addr) (q0 c0 : Nat), v = .tuple #[.agg #[.int .i64 r.1, .int .i64 r.2.1, .int .i64 r.2.2.1, .int .i64 r.2.2.2.1, .int .i64 r.2.2.2.2.1, .slice a0 q0 c0], .int .i64 r.2.2.2.2.2.2] ∧ SlR (FE (I1 .i64)) 1 m (.slice a0 q0 c0) r.2.2.2.2.2.1
theorem terrain_Dilate_walk {m : Mu} {p0_0 : Int} {p0_1 : Int} {p0_2 : Int} {p0_3 : Int} {p0_4 : Int} {p0_5 : List Int} {p1 : Int} {a_p0_5 : Option Addr} {q_p0_5 c_p0_5 : Nat} (h_p0_5 : SlR (FE (I1 .i64)) 1 m (.slice a_p0_5 q_p0_5 c_p0_5) p0_5) {r : Int × Int × Int × Int × Int × List Int × Int} (hm : terrain_Dilate p0_0 p0_1 p0_2 p0_3 p0_4 p0_5 p1 = some r) :
    Go.E.Spec Try.prog 25 [.agg #[.int .i64 p0_0, .int .i64 p0_1, .int .i64 p0_2, .int .i64 p0_3, .int .i64 p0_4, .slice a_p0_5 q_p0_5 c_p0_5], .int .i64 p1] m (terrain_Dilate_Q r) := by
  refine Spec_enter Try.func25 rfl rfl rfl (fun w0 => ?_)
  refine WK.sub (e' := [(0, .agg #[.int .i64 p0_0, .int .i64 p0_1, .int .i64 p0_2, .int .i64 p0_3, .int .i64 p0_4, .slice a_p0_5 q_p0_5 c_p0_5]), (1, .int .i64 p1)]) ⟨rfl, rfl, trivial⟩ ?_
  obtain rfl := SlR.qlen h_p0_5
  refine WK.sub (e' := [(0, .agg #[.int .i64 p0_0, .int .i64 p0_1, .int .i64 p0_2, .int .i64 p0_3, .int .i64 p0_4, .slice a_p0_5 p0_5.length c_p0_5]), (1, .int .i64 p1)]) ⟨rfl, rfl, trivial⟩ ?_
  unfold terrain_Dilate at hm
  refine WK_seq ?_
  refine WK_region ?_
  refine WO_box [.int .i64 p0_0, .int .i64 p0_1, .int .i64 p0_2, .int .i64 p0_3, .int .i64 p0_4, .slice a_p0_5 p0_5.length c_p0_5] rfl rfl trivial rfl rfl rfl (fun b1 => ?_)
  refine WO.cls (C' := St w0 m m [[⟨b1, 25, [.int .i64 p0_0, .int .i64 p0_1, .int .i64 p0_2, .int .i64 p0_3, .int .i64 p0_4, .slice a_p0_5 p0_5.length c_p0_5]⟩]]) (fun _ h => h) ?_
  refine WO_alloc tbok [.int .i64 0, .int .i64 0, .int .i64 0, .int .i64 0, .int .i64 0, .slice none 0 0] rfl rfl trivial rfl rfl rfl rfl (fun b2 => ?_)
  refine WO.cls (C' := St w0 m m [[⟨b1, 25, [.int .i64 p0_0, .int .i64 p0_1, .int .i64 p0_2, .int .i64 p0_3, .int .i64 p0_4, .slice a_p0_5 p0_5.length c_p0_5]⟩], [⟨b2, 25, [.int .i64 0, .int .i64 0, .int .i64 0, .int .i64 0, .int .i64 0, .slice none 0 0]⟩]]) (fun _ h => h) ?_
  refine WO_pure tbok 1 [(1, .int .i64 p1), (2, .pointer (some ⟨b1, 0, none⟩)), (4, .pointer (some ⟨b2, 0, none⟩)), (5, .int .i64 0)] rfl ⟨rfl, rfl, rfl, rfl, trivial⟩ ?_
  refine WO_end ?_
  refine WK_seq ?_
  refine WK_seq ?_
  refine WK_region ?_
  refine WO_loadB tbok 0 rfl rfl rfl rfl (fun _ h => h) rfl rfl ?_
  refine WO_pure tbok 1 [(1, .int .i64 p1), (2, .pointer (some ⟨b1, 0, none⟩)), (4, .pointer (some ⟨b2, 0, none⟩)), (5, .int .i64 0), (7, .agg #[.int .i64 p0_0, .int .i64 p0_1, .int .i64 p0_2, .int .i64 p0_3, .int .i64 p0_4, .slice a_p0_5 p0_5.length c_p0_5]), (8, .int .i64 p1)] rfl ⟨rfl, rfl, rfl, rfl, rfl, rfl, trivial⟩ ?_
  obtain ⟨y_1, hc3, hm⟩ := bind_some hm
  refine WO_call0 (.int .i64 y_1) rfl rfl trivial rfl rfl rfl rfl St_closed ⟨51, #[], #[], rfl, callable_51, fun w hw => ⟨_, hw.sat, terrain_checked_walk h_p0_5 hc3⟩⟩ ?_
  refine WO_pure tbok 1 [(1, .int .i64 p1), (2, .pointer (some ⟨b1, 0, none⟩)), (4, .pointer (some ⟨b2, 0, none⟩)), (5, .int .i64 0), (6, .int .i64 y_1)] rfl ⟨rfl, rfl, rfl, rfl, rfl, trivial⟩ ?_
  refine WO_end ?_
  refine WK_seq ?_
  refine WK_region ?_
  refine WO_pure tbok 2 [(1, .int .i64 p1), (2, .pointer (some ⟨b1, 0, none⟩)), (4, .pointer (some ⟨b2, 0, none⟩)), (5, .int .i64 0), (6, .int .i64 y_1), (11, .bool (y_1 != 0))] rfl ⟨rfl, rfl, rfl, rfl, rfl, rfl, trivial⟩ ?_
  refine WO_end ?_
  refine WK_cond (b := y_1 != 0) rfl (fun hb4 => ?_) (fun hb4 => ?_)
  · have hm := ifT hb4 hm
    refine WK_seq ?_
    refine WK_region ?_
    refine WO_pure tbok 2 [(1, .int .i64 p1), (2, .pointer (some ⟨b1, 0, none⟩)), (4, .pointer (some ⟨b2, 0, none⟩)), (5, .int .i64 0), (12, .agg #[.int .i64 0, .int .i64 0, .int .i64 0, .int .i64 0, .int .i64 0, .slice none 0 0]), (13, .int .i64 y_1)] rfl ⟨rfl, rfl, rfl, rfl, rfl, rfl, trivial⟩ ?_
    refine WO_storeB tbok 1 [.int .i64 0, .int .i64 0, .int .i64 0, .int .i64 0, .int .i64 0, .slice none 0 0] rfl rfl rfl rfl rfl rfl rfl ?_
    refine WO.cls (C' := St w0 m m [[⟨b1, 25, [.int .i64 p0_0, .int .i64 p0_1, .int .i64 p0_2, .int .i64 p0_3, .int .i64 p0_4, .slice a_p0_5 p0_5.length c_p0_5]⟩], [⟨b2, 25, [.int .i64 0, .int .i64 0, .int .i64 0, .int .i64 0, .int .i64 0, .slice none 0 0]⟩]]) (fun _ h => h) ?_
    refine WO_pure tbok 1 [(1, .int .i64 p1), (2, .pointer (some ⟨b1, 0, none⟩)), (4, .pointer (some ⟨b2, 0, none⟩)), (5, .int .i64 y_1)] rfl ⟨rfl, rfl, rfl, rfl, trivial⟩ ?_
    refine WO_end ?_
    cases hm
    exact WK_ret (ret_out (L := []) (RLc_cell tbok 1 rfl rfl rfl (RLc_tmp rfl RLc_nil)) (List.nil_sublist _) ⟨none, 0, 0, rfl, SlR_nil⟩)
  · have hm := ifF hb4 hm
    refine WK_skip ?_
    refine WK_seq ?_
    refine WK_region ?_
    refine WO_loadB tbok 0 rfl rfl rfl rfl (fun _ h => h) rfl rfl ?_
    refine WO_pure tbok 1 [(4, .pointer (some ⟨b2, 0, none⟩)), (5, .int .i64 0), (14, .agg #[.int .i64 p0_0, .int .i64 p0_1, .int .i64 p0_2, .int .i64 p0_3, .int .i64 p0_4, .slice a_p0_5 p0_5.length c_p0_5]), (15, .int .i64 p1)] rfl ⟨rfl, rfl, rfl, rfl, trivial⟩ ?_
    obtain ⟨⟨y_4, y_5, y_6, y_7, y_8, y_9⟩, hc5, hm⟩ := bind_some hm
    refine WO_call2 (terrain_filtered_Q (y_4, y_5, y_6, y_7, y_8, y_9)) rfl rfl trivial rfl rfl rfl rfl ⟨52, #[], #[], rfl, callable_52, terrain_filtered_walk h_p0_5 (fun m1 hm1 z_2 z_3 _ h => specV_cap callable_54 (terrain_greatest_walk h)) hc5⟩ (fun v9 m10 L8 hle11 hq => ?_)
    obtain ⟨a6, qa6, c7, rfl, h12⟩ := hq
    obtain rfl := SlR.qlen h12
    refine WO.cls (C' := St w0 m m10 [[⟨b1, 25, [.int .i64 p0_0, .int .i64 p0_1, .int .i64 p0_2, .int .i64 p0_3, .int .i64 p0_4, .slice a_p0_5 p0_5.length c_p0_5]⟩], [⟨b2, 25, [.int .i64 0, .int .i64 0, .int .i64 0, .int .i64 0, .int .i64 0, .slice none 0 0]⟩], L8]) (fun _ h => h.sub (by simp)) ?_
    refine WO_storeB tbok 1 [.int .i64 y_4, .int .i64 y_5, .int .i64 y_6, .int .i64 y_7, .int .i64 y_8, .slice a6 ((y_9).length) c7] rfl rfl rfl rfl rfl rfl rfl ?_
    refine WO.cls (C' := St w0 m m10 [[⟨b1, 25, [.int .i64 p0_0, .int .i64 p0_1, .int .i64 p0_2, .int .i64 p0_3, .int .i64 p0_4, .slice a_p0_5 p0_5.length c_p0_5]⟩], [⟨b2, 25, [.int .i64 y_4, .int .i64 y_5, .int .i64 y_6, .int .i64 y_7, .int .i64 y_8, .slice a6 ((y_9).length) c7]⟩], L8]) (fun _ h => h) ?_
    refine WO_pure tbok 1 [(4, .pointer (some ⟨b2, 0, none⟩)), (5, .int .i64 0)] rfl ⟨rfl, rfl, trivial⟩ ?_
    refine WO_end ?_
    cases hm
    exact WK_ret (ret_out (L := []) (RLc_cell tbok 1 rfl rfl rfl (RLc_tmp rfl RLc_nil)) (List.nil_sublist _) ⟨a6, _, c7, rfl, h12⟩)
end Go.Proofs.Ytcaeieofjchpjaa
