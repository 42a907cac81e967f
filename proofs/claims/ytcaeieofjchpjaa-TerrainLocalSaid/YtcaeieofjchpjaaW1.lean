import Derived.Test.YtcaeieofjchpjaaTab
import Derived.Test.YtcaeieofjchpjaaM
set_option linter.unusedVariables false
set_option maxRecDepth 100000
set_option maxHeartbeats 4000000
namespace Go.Proofs.Ytcaeieofjchpjaa
open Go.E Go.RowKit
attribute [local irreducible] Go.E.WO Go.E.WK
theorem terrain_Check_c1_walk {m : Mu} {p0 : Int}   {r : Bool} (hm : terrain_Check_c1 p0 = some r) :
    Go.E.Spec Try.prog 47 [.int .i64 p0] m (fun v _ _ => v = .bool r) := by
  refine Spec_enter Try.func47 rfl rfl rfl (fun w0 => ?_)
  refine WK.sub (e' := [(0, .int .i64 p0)]) ⟨rfl, trivial⟩ ?_
  refine WK.sub (e' := [(0, .int .i64 p0)]) ⟨rfl, trivial⟩ ?_
  unfold terrain_Check_c1 at hm
  refine WK_seq ?_
  refine WK_region ?_
  refine WO_pure tbok 1 [(0, .int .i64 p0), (2, .bool false)] rfl ⟨rfl, rfl, trivial⟩ ?_
  refine WO_end ?_
  refine WK_seq ?_
  refine WK_region ?_
  refine WO_pure tbok 3 [(0, .int .i64 p0), (2, .bool false), (5, .bool (decide (2 ≤ p0)))] rfl ⟨rfl, rfl, rfl, trivial⟩ ?_
  refine WO_split (d := 5) (b := decide (2 ≤ p0)) rfl (fun hb1 => ?_) (fun hb1 => ?_)
  · have hm := ifT hb1 hm
    refine WO_pure tbok 4 [(2, .bool (decide (p0 ≤ 64)))] rfl ⟨rfl, trivial⟩ ?_
    refine WO_end ?_
    cases hm
    exact WK_ret (ret_out (L := []) (RLc_tmp rfl RLc_nil) (List.nil_sublist _) rfl)
  · have hm := ifF hb1 hm
    refine WO_pure tbok 4 [(2, .bool false)] rfl ⟨rfl, trivial⟩ ?_
    refine WO_end ?_
    cases hm
    exact WK_ret (ret_out (L := []) (RLc_tmp rfl RLc_nil) (List.nil_sublist _) rfl)
theorem terrain_far_walk {m : Mu} {p0 : Int}   {r : Bool} (hm : terrain_far p0 = some r) :
    Go.E.Spec Try.prog 41 [.int .i64 p0] m (fun v _ _ => v = .bool r) := by
  refine Spec_enter Try.func41 rfl rfl rfl (fun w0 => ?_)
  refine WK.sub (e' := [(0, .int .i64 p0)]) ⟨rfl, trivial⟩ ?_
  refine WK.sub (e' := [(0, .int .i64 p0)]) ⟨rfl, trivial⟩ ?_
  unfold terrain_far at hm
  refine WK_seq ?_
  refine WK_region ?_
  refine WO_pure tbok 1 [(0, .int .i64 p0), (2, .bool false)] rfl ⟨rfl, rfl, trivial⟩ ?_
  refine WO_end ?_
  refine WK_seq ?_
  refine WK_region ?_
  refine WO_pure tbok 3 [(0, .int .i64 p0), (2, .bool false), (5, .bool (decide (p0 < (-1048576))))] rfl ⟨rfl, rfl, rfl, trivial⟩ ?_
  refine WO_split (d := 5) (b := decide (p0 < (-1048576))) rfl (fun hb1 => ?_) (fun hb1 => ?_)
  · have hm := ifT hb1 hm
    refine WO_pure tbok 4 [(2, .bool true)] rfl ⟨rfl, trivial⟩ ?_
    refine WO_end ?_
    cases hm
    exact WK_ret (ret_out (L := []) (RLc_tmp rfl RLc_nil) (List.nil_sublist _) rfl)
  · have hm := ifF hb1 hm
    refine WO_pure tbok 4 [(2, .bool (decide (1048576 < p0)))] rfl ⟨rfl, trivial⟩ ?_
    refine WO_end ?_
    cases hm
    exact WK_ret (ret_out (L := []) (RLc_tmp rfl RLc_nil) (List.nil_sublist _) rfl)
theorem slices_IndexFunc_sint_walk {m : Mu} {p0 : List Int} {p1 : Int → Option Bool} {a_p0 : Option Addr} {q_p0 c_p0 : Nat} {p1v : Value} (h_p0 : SlR (FE (I1 .i64)) 1 m (.slice a_p0 q_p0 c_p0) p0) (hp1 : ∀ (m1 : Mu), Le m m1 → ∀ (u1 : Int), ∀ (r : Bool), p1 u1 = some r → SpecV Try.prog p1v [.int .i64 u1] m1 (fun v _ _ => v = .bool r)) {r : Int} (hm : slices_IndexFunc_sint p0 p1 = some r) :
    Go.E.Spec Try.prog 59 [.slice a_p0 q_p0 c_p0, p1v] m (fun v _ _ => v = .int .i64 r) := by
  refine Spec_enter Try.func59 rfl rfl rfl (fun w0 => ?_)
  refine WK.sub (e' := [(0, .slice a_p0 q_p0 c_p0), (1, p1v)]) ⟨rfl, rfl, trivial⟩ ?_
  obtain rfl := SlR.qlen h_p0
  refine WK.sub (e' := [(0, .slice a_p0 p0.length c_p0), (1, p1v)]) ⟨rfl, rfl, trivial⟩ ?_
  unfold slices_IndexFunc_sint at hm
  refine WK_seq ?_
  refine WK_region ?_
  refine WO_pure tbok 1 [(0, .slice a_p0 p0.length c_p0), (1, p1v), (4, .int .i64 0)] rfl ⟨rfl, rfl, rfl, trivial⟩ ?_
  refine WO_end ?_
  refine WK_seq ?_
  refine WK_seq ?_
  refine WK_region ?_
  refine WO_pure tbok 3 [(0, .slice a_p0 p0.length c_p0), (1, p1v), (4, .int .i64 0), (7, .int .i64 (p0.length : Int)), (8, .int .i64 0)] rfl ⟨rfl, rfl, rfl, rfl, rfl, trivial⟩ ?_
  refine WO_end ?_
  obtain ⟨x1, hx2, hm⟩ := bind_some hm
  refine WK_join (β := Unit × Unit) (fun p => Sum.inr p.1 = x1) (fun p => [(4, .int .i64 0)]) (fun p => St w0 m m []) ?_ (fun hk3 => ?_)
  · rintro ⟨⟨⟩, ⟨⟩⟩ hq9
    subst hq9
    refine WK.sub (e' := [(4, .int .i64 0)]) ⟨rfl, trivial⟩ (WK.cls (C' := St w0 m m []) (fun _ h => h) ?_)
    refine WK_seq ?_
    refine WK_region ?_
    refine WO_pure tbok 1 [(4, .int .i64 (-1))] rfl ⟨rfl, trivial⟩ ?_
    refine WO_end ?_
    cases hm
    exact WK_ret (ret_out (L := []) (RLc_tmp rfl RLc_nil) (List.nil_sublist _) rfl)
  · refine WK_block ?_
    refine WK_loop (S := Int) (G := Unit) (fun s => slices_IndexFunc_sint_s1 p0 p1 s) (fun s g => [(0, .slice a_p0 p0.length c_p0), (1, p1v), (4, .int .i64 0), (7, .int .i64 (p0.length : Int)), (8, .int .i64 s)]) (fun s g => St w0 m m []) (fun s g => True) FUEL 0 () x1 hx2 trivial ⟨rfl, rfl, rfl, rfl, rfl, trivial⟩ (fun _ h => h) ?_
    rintro s_1 ⟨⟩ o5 fl6 hm4 - hn7 hd8
    have hm4 : slices_IndexFunc_sint_s1 p0 p1 s_1 = some o5 := hm4
    unfold slices_IndexFunc_sint_s1 at hm4
    refine WK.sub (e' := [(0, .slice a_p0 p0.length c_p0), (1, p1v), (4, .int .i64 0), (7, .int .i64 (p0.length : Int)), (8, .int .i64 s_1)]) ⟨rfl, rfl, rfl, rfl, rfl, trivial⟩ (WK.cls (C' := St w0 m m []) (fun _ h => h) ?_)
    refine WK_seq ?_
    refine WK_region ?_
    refine WO_pure tbok 1 [(0, .slice a_p0 p0.length c_p0), (1, p1v), (4, .int .i64 0), (7, .int .i64 (p0.length : Int)), (8, .int .i64 s_1), (9, .bool (decide (s_1 < (p0.length : Int))))] rfl ⟨rfl, rfl, rfl, rfl, rfl, rfl, trivial⟩ ?_
    refine WO_end ?_
    refine WK_seq ?_
    refine WK_cond (b := decide (s_1 < (p0.length : Int))) rfl (fun hb10 => ?_) (fun hb10 => ?_)
    · have hm4 := ifT hb10 hm4
      refine WK_skip ?_
      refine WK_seq ?_
      refine WK_block ?_
      refine WK_seq ?_
      refine WK_region ?_
      refine WO_pure tbok 2 [(0, .slice a_p0 p0.length c_p0), (1, p1v), (4, .int .i64 0), (5, .int .i64 s_1), (7, .int .i64 (p0.length : Int)), (8, .int .i64 s_1)] rfl ⟨rfl, rfl, rfl, rfl, rfl, rfl, trivial⟩ ?_
      refine WO_end ?_
      refine WK_seq ?_
      refine WK_region ?_
      refine WO_pure tbok 3 [(0, .slice a_p0 p0.length c_p0), (1, p1v), (4, .int .i64 0), (5, .int .i64 s_1), (7, .int .i64 (p0.length : Int)), (8, .int .i64 s_1), (11, p1v), (12, .slice a_p0 p0.length c_p0), (13, .int .i64 s_1)] rfl ⟨rfl, rfl, rfl, rfl, rfl, rfl, rfl, rfl, rfl, trivial⟩ ?_
      obtain ⟨v_2, hy11, hm4⟩ := bind_some hm4
      obtain ⟨hc12, hy11⟩ := ix_some hy11
      refine WO_index tbok rfl rfl rfl rfl rfl rfl rfl rfl (SlR.addr h_p0) hc12 ?_
      refine WO_loadE tbok rfl rfl rfl rfl (fun _ h => St.sat h) h_p0 hy11 rfl ?_
      obtain ⟨y_3, hc13, hm4⟩ := bind_some hm4
      obtain ⟨f0, first0, cap0, hf0, hcal0, hsp0⟩ := hp1 _ (Le.refl _) v_2 _ hc13
      refine WO_call0 (.bool y_3) rfl rfl trivial rfl rfl rfl rfl St_closed ⟨f0, first0, cap0, hf0, hcal0, fun w hw => ⟨m, hw.sat, hsp0⟩⟩ ?_
      refine WO_end ?_
      refine WK_cond (b := y_3) rfl (fun hb14 => ?_) (fun hb14 => ?_)
      · have hm4 := ifT hb14 hm4
        refine WK_seq ?_
        refine WK_region ?_
        refine WO_pure tbok 2 [(0, .slice a_p0 p0.length c_p0), (1, p1v), (4, .int .i64 s_1), (7, .int .i64 (p0.length : Int)), (8, .int .i64 s_1)] rfl ⟨rfl, rfl, rfl, rfl, rfl, trivial⟩ ?_
        refine WO_end ?_
        cases hm4
        have hq := hd8 _ rfl
        subst hq
        have hm : some _ = some _ := hm
        cases hm
        exact WK_ret (ret_out (L := []) (RLc_tmp rfl RLc_nil) (List.nil_sublist _) rfl)
      · have hm4 := ifF hb14 hm4
        refine WK_skip ?_
        refine WK_blk ?_
        refine WK_region ?_
        refine WO_pure tbok 2 [(0, .slice a_p0 p0.length c_p0), (1, p1v), (4, .int .i64 0), (7, .int .i64 (p0.length : Int)), (8, .int .i64 (w64 (s_1 + 1)))] rfl ⟨rfl, rfl, rfl, rfl, rfl, trivial⟩ ?_
        refine WO_end ?_
        cases hm4
        refine WK.sub ?_ (WK.cls (fun _ h => h) (hn7 _ () rfl trivial))
        exact ⟨rfl, rfl, rfl, rfl, rfl, trivial⟩
    · have hm4 := ifF hb10 hm4
      refine WK_exit rfl ?_
      cases hm4
      refine WK.sub ?_ (WK.cls (fun _ h => h) (hk3 ((), ()) (hd8 _ rfl)))
      exact ⟨rfl, trivial⟩
theorem slices_ContainsFunc_sint_walk {m : Mu} {p0 : List Int} {p1 : Int → Option Bool} {a_p0 : Option Addr} {q_p0 c_p0 : Nat} {p1v : Value} (h_p0 : SlR (FE (I1 .i64)) 1 m (.slice a_p0 q_p0 c_p0) p0) (hp1 : ∀ (m1 : Mu), Le m m1 → ∀ (u1 : Int), ∀ (r : Bool), p1 u1 = some r → SpecV Try.prog p1v [.int .i64 u1] m1 (fun v _ _ => v = .bool r)) {r : Bool} (hm : slices_ContainsFunc_sint p0 p1 = some r) :
    Go.E.Spec Try.prog 48 [.slice a_p0 q_p0 c_p0, p1v] m (fun v _ _ => v = .bool r) := by
  refine Spec_enter Try.func48 rfl rfl rfl (fun w0 => ?_)
  refine WK.sub (e' := [(0, .slice a_p0 q_p0 c_p0), (1, p1v)]) ⟨rfl, rfl, trivial⟩ ?_
  obtain rfl := SlR.qlen h_p0
  refine WK.sub (e' := [(0, .slice a_p0 p0.length c_p0), (1, p1v)]) ⟨rfl, rfl, trivial⟩ ?_
  unfold slices_ContainsFunc_sint at hm
  refine WK_seq ?_
  refine WK_region ?_
  refine WO_pure tbok 1 [(0, .slice a_p0 p0.length c_p0), (1, p1v), (4, .bool false)] rfl ⟨rfl, rfl, rfl, trivial⟩ ?_
  refine WO_end ?_
  refine WK_seq ?_
  refine WK_region ?_
  refine WO_pure tbok 2 [(4, .bool false), (5, .slice a_p0 p0.length c_p0), (6, p1v)] rfl ⟨rfl, rfl, rfl, trivial⟩ ?_
  obtain ⟨y_1, hc1, hm⟩ := bind_some hm
  refine WO_call0 (.int .i64 y_1) rfl rfl trivial rfl rfl rfl rfl St_closed ⟨59, #[], #[], rfl, callable_59, fun w hw => ⟨_, hw.sat, slices_IndexFunc_sint_walk h_p0 hp1 hc1⟩⟩ ?_
  refine WO_pure tbok 2 [(4, .bool (decide (0 ≤ y_1)))] rfl ⟨rfl, trivial⟩ ?_
  refine WO_end ?_
  cases hm
  exact WK_ret (ret_out (L := []) (RLc_tmp rfl RLc_nil) (List.nil_sublist _) rfl)
theorem terrain_Check_c2_walk {m : Mu} {p0 : Int}   {r : Bool} (hm : terrain_Check_c2 p0 = some r) :
    Go.E.Spec Try.prog 49 [.int .i64 p0] m (fun v _ _ => v = .bool r) := by
  refine Spec_enter Try.func49 rfl rfl rfl (fun w0 => ?_)
  refine WK.sub (e' := [(0, .int .i64 p0)]) ⟨rfl, trivial⟩ ?_
  refine WK.sub (e' := [(0, .int .i64 p0)]) ⟨rfl, trivial⟩ ?_
  unfold terrain_Check_c2 at hm
  refine WK_seq ?_
  refine WK_region ?_
  refine WO_pure tbok 1 [(0, .int .i64 p0), (2, .bool false)] rfl ⟨rfl, rfl, trivial⟩ ?_
  refine WO_end ?_
  refine WK_seq ?_
  refine WK_region ?_
  refine WO_pure tbok 3 [(0, .int .i64 p0), (2, .bool false), (5, .bool (p0 != (-2147483648)))] rfl ⟨rfl, rfl, rfl, trivial⟩ ?_
  refine WO_split (d := 5) (b := p0 != (-2147483648)) rfl (fun hb1 => ?_) (fun hb1 => ?_)
  · have hm := ifT hb1 hm
    refine WO_pure tbok 1 [(2, .bool false), (5, .bool true), (6, .int .i64 p0)] rfl ⟨rfl, rfl, rfl, trivial⟩ ?_
    obtain ⟨y_1, hc2, hm⟩ := bind_some hm
    refine WO_call0 (.bool y_1) rfl rfl trivial rfl rfl rfl rfl St_closed ⟨41, #[], #[], rfl, callable_41, fun w hw => ⟨_, hw.sat, terrain_far_walk hc2⟩⟩ ?_
    refine WO_pure tbok 2 [(2, .bool y_1)] rfl ⟨rfl, trivial⟩ ?_
    refine WO_end ?_
    cases hm
    exact WK_ret (ret_out (L := []) (RLc_tmp rfl RLc_nil) (List.nil_sublist _) rfl)
  · have hm := ifF hb1 hm
    refine WO_pure tbok 1 [(2, .bool false), (5, .bool false)] rfl ⟨rfl, rfl, trivial⟩ ?_
    refine WO_skip rfl rfl ?_
    refine WO_pure tbok 2 [(2, .bool false)] rfl ⟨rfl, trivial⟩ ?_
    refine WO_end ?_
    cases hm
    exact WK_ret (ret_out (L := []) (RLc_tmp rfl RLc_nil) (List.nil_sublist _) rfl)
theorem terrain_Check_walk {m : Mu} {p0_0 : Int} {p0_1 : Int} {p0_2 : Int} {p0_3 : Int} {p0_4 : Int} {p0_5 : List Int} {a_p0_5 : Option Addr} {q_p0_5 c_p0_5 : Nat} (h_p0_5 : SlR (FE (I1 .i64)) 1 m (.slice a_p0_5 q_p0_5 c_p0_5) p0_5) {r : Int} (hm : terrain_Check p0_0 p0_1 p0_2 p0_3 p0_4 p0_5 = some r) :
    Go.E.Spec Try.prog 16 [.agg #[.int .i64 p0_0, .int .i64 p0_1, .int .i64 p0_2, .int .i64 p0_3, .int .i64 p0_4, .slice a_p0_5 q_p0_5 c_p0_5]] m (fun v _ _ => v = .int .i64 r) := by
  refine Spec_enter Try.func16 rfl rfl rfl (fun w0 => ?_)
  refine WK.sub (e' := [(0, .agg #[.int .i64 p0_0, .int .i64 p0_1, .int .i64 p0_2, .int .i64 p0_3, .int .i64 p0_4, .slice a_p0_5 q_p0_5 c_p0_5])]) ⟨rfl, trivial⟩ ?_
  obtain rfl := SlR.qlen h_p0_5
  refine WK.sub (e' := [(0, .agg #[.int .i64 p0_0, .int .i64 p0_1, .int .i64 p0_2, .int .i64 p0_3, .int .i64 p0_4, .slice a_p0_5 p0_5.length c_p0_5])]) ⟨rfl, trivial⟩ ?_
  unfold terrain_Check at hm
  refine WK_seq ?_
  refine WK_region ?_
  refine WO_box [.int .i64 p0_0, .int .i64 p0_1, .int .i64 p0_2, .int .i64 p0_3, .int .i64 p0_4, .slice a_p0_5 p0_5.length c_p0_5] rfl rfl trivial rfl rfl rfl (fun b1 => ?_)
  refine WO.cls (C' := St w0 m m [[⟨b1, 25, [.int .i64 p0_0, .int .i64 p0_1, .int .i64 p0_2, .int .i64 p0_3, .int .i64 p0_4, .slice a_p0_5 p0_5.length c_p0_5]⟩]]) (fun _ h => h) ?_
  refine WO_pure tbok 1 [(1, .pointer (some ⟨b1, 0, none⟩)), (2, .int .i64 0)] rfl ⟨rfl, rfl, trivial⟩ ?_
  refine WO_end ?_
  refine WK_seq ?_
  refine WK_region ?_
  refine WO_pure tbok 1 [(1, .pointer (some ⟨b1, 0, none⟩)), (2, .int .i64 0), (3, .func (.func 47) #[] #[])] rfl ⟨rfl, rfl, rfl, trivial⟩ ?_
  refine WO_end ?_
  refine WK_seq ?_
  refine WK_seq ?_
  obtain ⟨s_1, hx2, hm⟩ := bind_some hm
  refine WK_meet [(1, .pointer (some ⟨b1, 0, none⟩)), (2, .int .i64 0), (41, .bool s_1)] (St w0 m m [[⟨b1, 25, [.int .i64 p0_0, .int .i64 p0_1, .int .i64 p0_2, .int .i64 p0_3, .int .i64 p0_4, .slice a_p0_5 p0_5.length c_p0_5]⟩]]) ?_ (fun hk3 => ?_)
  · refine WK_cond (b := s_1) rfl (fun hb4 => ?_) (fun hb4 => ?_)
    · have hm := ifT hb4 hm
      refine WK_seq ?_
      refine WK_region ?_
      refine WO_pure tbok 1 [(1, .pointer (some ⟨b1, 0, none⟩)), (2, .int .i64 2)] rfl ⟨rfl, rfl, trivial⟩ ?_
      refine WO_end ?_
      cases hm
      exact WK_ret (ret_out (L := []) (RLc_tmp rfl RLc_nil) (List.nil_sublist _) rfl)
    · have hm := ifF hb4 hm
      refine WK_skip ?_
      refine WK_seq ?_
      refine WK_seq ?_
      refine WK_region ?_
      refine WO_pure tbok 1 [(1, .pointer (some ⟨b1, 0, none⟩)), (2, .int .i64 0), (42, .pointer (some ⟨b1, 5, none⟩))] rfl ⟨rfl, rfl, rfl, trivial⟩ ?_
      refine WO_loadB tbok 0 rfl rfl rfl rfl (fun _ h => h) rfl rfl ?_
      refine WO_pure tbok 2 [(1, .pointer (some ⟨b1, 0, none⟩)), (2, .int .i64 0), (44, .int .i64 (p0_5.length : Int)), (45, .pointer (some ⟨b1, 3, none⟩))] rfl ⟨rfl, rfl, rfl, rfl, trivial⟩ ?_
      refine WO_loadB tbok 0 rfl rfl rfl rfl (fun _ h => h) rfl rfl ?_
      refine WO_pure tbok 1 [(1, .pointer (some ⟨b1, 0, none⟩)), (2, .int .i64 0), (44, .int .i64 (p0_5.length : Int)), (46, .int .i64 p0_3), (47, .pointer (some ⟨b1, 4, none⟩))] rfl ⟨rfl, rfl, rfl, rfl, rfl, trivial⟩ ?_
      refine WO_loadB tbok 0 rfl rfl rfl rfl (fun _ h => h) rfl rfl ?_
      refine WO_pure tbok 2 [(1, .pointer (some ⟨b1, 0, none⟩)), (2, .int .i64 0), (50, .bool ((p0_5.length : Int) != (w64 (p0_3 * p0_4))))] rfl ⟨rfl, rfl, rfl, trivial⟩ ?_
      refine WO_end ?_
      refine WK_cond (b := (p0_5.length : Int) != (w64 (p0_3 * p0_4))) rfl (fun hb5 => ?_) (fun hb5 => ?_)
      · have hm := ifT hb5 hm
        refine WK_seq ?_
        refine WK_region ?_
        refine WO_pure tbok 1 [(1, .pointer (some ⟨b1, 0, none⟩)), (2, .int .i64 4)] rfl ⟨rfl, rfl, trivial⟩ ?_
        refine WO_end ?_
        cases hm
        exact WK_ret (ret_out (L := []) (RLc_tmp rfl RLc_nil) (List.nil_sublist _) rfl)
      · have hm := ifF hb5 hm
        refine WK_skip ?_
        refine WK_seq ?_
        refine WK_seq ?_
        refine WK_region ?_
        refine WO_pure tbok 1 [(2, .int .i64 0), (51, .pointer (some ⟨b1, 5, none⟩))] rfl ⟨rfl, rfl, trivial⟩ ?_
        refine WO_loadB tbok 0 rfl rfl rfl rfl (fun _ h => h) rfl rfl ?_
        obtain ⟨y_3, hc6, hm⟩ := bind_some hm
        refine WO_call0 (.bool y_3) rfl rfl trivial rfl rfl rfl rfl St_closed ⟨48, #[], #[], rfl, callable_48, fun w hw => ⟨_, hw.sat, slices_ContainsFunc_sint_walk h_p0_5 (fun m1 hm1 z_2 _ h => specV_cap callable_49 (terrain_Check_c2_walk h)) hc6⟩⟩ ?_
        refine WO_end ?_
        refine WK_cond (b := y_3) rfl (fun hb7 => ?_) (fun hb7 => ?_)
        · have hm := ifT hb7 hm
          refine WK_seq ?_
          refine WK_region ?_
          refine WO_pure tbok 1 [(2, .int .i64 2)] rfl ⟨rfl, trivial⟩ ?_
          refine WO_end ?_
          cases hm
          exact WK_ret (ret_out (L := []) (RLc_tmp rfl RLc_nil) (List.nil_sublist _) rfl)
        · have hm := ifF hb7 hm
          refine WK_skip ?_
          refine WK_seq ?_
          refine WK_region ?_
          refine WO_pure tbok 1 [(2, .int .i64 0)] rfl ⟨rfl, trivial⟩ ?_
          refine WO_end ?_
          cases hm
          exact WK_ret (ret_out (L := []) (RLc_tmp rfl RLc_nil) (List.nil_sublist _) rfl)
  · refine WK_region ?_
    refine WO_pure tbok 2 [(1, .pointer (some ⟨b1, 0, none⟩)), (2, .int .i64 0), (3, .func (.func 47) #[] #[]), (4, .func (.func 47) #[] #[]), (5, .pointer (some ⟨b1, 3, none⟩))] rfl ⟨rfl, rfl, rfl, rfl, rfl, trivial⟩ ?_
    refine WO_loadB tbok 0 rfl rfl rfl rfl (fun _ h => h) rfl rfl ?_
    obtain ⟨y_4, hc8, hx2⟩ := bind_some hx2
    refine WO_call0 (.bool y_4) rfl rfl trivial rfl rfl rfl rfl St_closed ⟨47, #[], #[], rfl, callable_47, fun w hw => ⟨_, hw.sat, terrain_Check_c1_walk hc8⟩⟩ ?_
    refine WO_pure tbok 2 [(1, .pointer (some ⟨b1, 0, none⟩)), (2, .int .i64 0), (3, .func (.func 47) #[] #[]), (9, .bool (!y_4))] rfl ⟨rfl, rfl, rfl, rfl, trivial⟩ ?_
    refine WO_split (d := 9) (b := !y_4) rfl (fun hb9 => ?_) (fun hb9 => ?_)
    · have hx2 := ifT hb9 hx2
      refine WO_pure tbok 3 [(1, .pointer (some ⟨b1, 0, none⟩)), (2, .int .i64 0), (9, .bool true)] rfl ⟨rfl, rfl, rfl, trivial⟩ ?_
      refine WO_skip rfl rfl ?_
      refine WO_pure tbok 21 [(1, .pointer (some ⟨b1, 0, none⟩)), (2, .int .i64 0), (32, .bool true)] rfl ⟨rfl, rfl, rfl, trivial⟩ ?_
      refine WO_skip rfl rfl ?_
      refine WO_pure tbok 4 [(1, .pointer (some ⟨b1, 0, none⟩)), (2, .int .i64 0), (37, .bool true)] rfl ⟨rfl, rfl, rfl, trivial⟩ ?_
      refine WO_skip rfl rfl ?_
      refine WO_pure tbok 1 [(1, .pointer (some ⟨b1, 0, none⟩)), (2, .int .i64 0), (41, .bool true)] rfl ⟨rfl, rfl, rfl, trivial⟩ ?_
      refine WO_end ?_
      cases hx2
      refine WK.sub ?_ (WK.cls (fun _ h => h) hk3)
      exact ⟨rfl, rfl, rfl, trivial⟩
    · have hx2 := ifF hb9 hx2
      refine WO_pure tbok 2 [(1, .pointer (some ⟨b1, 0, none⟩)), (2, .int .i64 0), (9, .bool false), (10, .func (.func 47) #[] #[]), (11, .pointer (some ⟨b1, 4, none⟩))] rfl ⟨rfl, rfl, rfl, rfl, rfl, trivial⟩ ?_
      refine WO_loadB tbok 0 rfl rfl rfl rfl (fun _ h => h) rfl rfl ?_
      obtain ⟨y_5, hc10, hx2⟩ := bind_some hx2
      refine WO_call0 (.bool y_5) rfl rfl trivial rfl rfl rfl rfl St_closed ⟨47, #[], #[], rfl, callable_47, fun w hw => ⟨_, hw.sat, terrain_Check_c1_walk hc10⟩⟩ ?_
      refine WO_pure tbok 3 [(1, .pointer (some ⟨b1, 0, none⟩)), (2, .int .i64 0), (16, .bool (!y_5))] rfl ⟨rfl, rfl, rfl, trivial⟩ ?_
      refine WO_split (d := 16) (b := !y_5) rfl (fun hb11 => ?_) (fun hb11 => ?_)
      · have hx2 := ifT hb11 hx2
        refine WO_pure tbok 18 [(1, .pointer (some ⟨b1, 0, none⟩)), (2, .int .i64 0), (32, .bool true)] rfl ⟨rfl, rfl, rfl, trivial⟩ ?_
        refine WO_skip rfl rfl ?_
        refine WO_pure tbok 4 [(1, .pointer (some ⟨b1, 0, none⟩)), (2, .int .i64 0), (37, .bool true)] rfl ⟨rfl, rfl, rfl, trivial⟩ ?_
        refine WO_skip rfl rfl ?_
        refine WO_pure tbok 1 [(1, .pointer (some ⟨b1, 0, none⟩)), (2, .int .i64 0), (41, .bool true)] rfl ⟨rfl, rfl, rfl, trivial⟩ ?_
        refine WO_end ?_
        cases hx2
        refine WK.sub ?_ (WK.cls (fun _ h => h) hk3)
        exact ⟨rfl, rfl, rfl, trivial⟩
      · have hx2 := ifF hb11 hx2
        refine WO_pure tbok 1 [(1, .pointer (some ⟨b1, 0, none⟩)), (2, .int .i64 0), (16, .bool false), (17, .pointer (some ⟨b1, 2, none⟩))] rfl ⟨rfl, rfl, rfl, rfl, trivial⟩ ?_
        refine WO_loadB tbok 0 rfl rfl rfl rfl (fun _ h => h) rfl rfl ?_
        refine WO_pure tbok 3 [(1, .pointer (some ⟨b1, 0, none⟩)), (2, .int .i64 0), (21, .bool (decide (p0_2 < 2)))] rfl ⟨rfl, rfl, rfl, trivial⟩ ?_
        refine WO_split (d := 21) (b := decide (p0_2 < 2)) rfl (fun hb12 => ?_) (fun hb12 => ?_)
        · have hx2 := ifT hb12 hx2
          refine WO_pure tbok 13 [(1, .pointer (some ⟨b1, 0, none⟩)), (2, .int .i64 0), (32, .bool true)] rfl ⟨rfl, rfl, rfl, trivial⟩ ?_
          refine WO_skip rfl rfl ?_
          refine WO_pure tbok 4 [(1, .pointer (some ⟨b1, 0, none⟩)), (2, .int .i64 0), (37, .bool true)] rfl ⟨rfl, rfl, rfl, trivial⟩ ?_
          refine WO_skip rfl rfl ?_
          refine WO_pure tbok 1 [(1, .pointer (some ⟨b1, 0, none⟩)), (2, .int .i64 0), (41, .bool true)] rfl ⟨rfl, rfl, rfl, trivial⟩ ?_
          refine WO_end ?_
          cases hx2
          refine WK.sub ?_ (WK.cls (fun _ h => h) hk3)
          exact ⟨rfl, rfl, rfl, trivial⟩
        · have hx2 := ifF hb12 hx2
          refine WO_pure tbok 1 [(1, .pointer (some ⟨b1, 0, none⟩)), (2, .int .i64 0), (21, .bool false), (22, .pointer (some ⟨b1, 2, none⟩))] rfl ⟨rfl, rfl, rfl, rfl, trivial⟩ ?_
          refine WO_loadB tbok 0 rfl rfl rfl rfl (fun _ h => h) rfl rfl ?_
          refine WO_pure tbok 3 [(1, .pointer (some ⟨b1, 0, none⟩)), (2, .int .i64 0), (26, .bool (decide (65536 < p0_2)))] rfl ⟨rfl, rfl, rfl, trivial⟩ ?_
          refine WO_split (d := 26) (b := decide (65536 < p0_2)) rfl (fun hb13 => ?_) (fun hb13 => ?_)
          · have hx2 := ifT hb13 hx2
            refine WO_pure tbok 8 [(1, .pointer (some ⟨b1, 0, none⟩)), (2, .int .i64 0), (32, .bool true)] rfl ⟨rfl, rfl, rfl, trivial⟩ ?_
            refine WO_skip rfl rfl ?_
            refine WO_pure tbok 4 [(1, .pointer (some ⟨b1, 0, none⟩)), (2, .int .i64 0), (37, .bool true)] rfl ⟨rfl, rfl, rfl, trivial⟩ ?_
            refine WO_skip rfl rfl ?_
            refine WO_pure tbok 1 [(1, .pointer (some ⟨b1, 0, none⟩)), (2, .int .i64 0), (41, .bool true)] rfl ⟨rfl, rfl, rfl, trivial⟩ ?_
            refine WO_end ?_
            cases hx2
            refine WK.sub ?_ (WK.cls (fun _ h => h) hk3)
            exact ⟨rfl, rfl, rfl, trivial⟩
          · have hx2 := ifF hb13 hx2
            refine WO_pure tbok 1 [(1, .pointer (some ⟨b1, 0, none⟩)), (2, .int .i64 0), (26, .bool false), (27, .pointer (some ⟨b1, 2, none⟩))] rfl ⟨rfl, rfl, rfl, rfl, trivial⟩ ?_
            refine WO_loadB tbok 0 rfl rfl rfl rfl (fun _ h => h) rfl rfl ?_
            refine WO_pure tbok 4 [(1, .pointer (some ⟨b1, 0, none⟩)), (2, .int .i64 0), (32, .bool ((Int.tmod p0_2 2) != 0))] rfl ⟨rfl, rfl, rfl, trivial⟩ ?_
            refine WO_split (d := 32) (b := (Int.tmod p0_2 2) != 0) rfl (fun hb14 => ?_) (fun hb14 => ?_)
            · have hx2 := ifT hb14 hx2
              refine WO_pure tbok 2 [(1, .pointer (some ⟨b1, 0, none⟩)), (2, .int .i64 0), (32, .bool true)] rfl ⟨rfl, rfl, rfl, trivial⟩ ?_
              refine WO_skip rfl rfl ?_
              refine WO_pure tbok 4 [(1, .pointer (some ⟨b1, 0, none⟩)), (2, .int .i64 0), (37, .bool true)] rfl ⟨rfl, rfl, rfl, trivial⟩ ?_
              refine WO_skip rfl rfl ?_
              refine WO_pure tbok 1 [(1, .pointer (some ⟨b1, 0, none⟩)), (2, .int .i64 0), (41, .bool true)] rfl ⟨rfl, rfl, rfl, trivial⟩ ?_
              refine WO_end ?_
              cases hx2
              refine WK.sub ?_ (WK.cls (fun _ h => h) hk3)
              exact ⟨rfl, rfl, rfl, trivial⟩
            · have hx2 := ifF hb14 hx2
              refine WO_pure tbok 1 [(1, .pointer (some ⟨b1, 0, none⟩)), (2, .int .i64 0), (32, .bool false), (33, .pointer (some ⟨b1, 0, none⟩))] rfl ⟨rfl, rfl, rfl, rfl, trivial⟩ ?_
              refine WO_loadB tbok 0 rfl rfl rfl rfl (fun _ h => h) rfl rfl ?_
              obtain ⟨y_6, hc15, hx2⟩ := bind_some hx2
              refine WO_call0 (.bool y_6) rfl rfl trivial rfl rfl rfl rfl St_closed ⟨41, #[], #[], rfl, callable_41, fun w hw => ⟨_, hw.sat, terrain_far_walk hc15⟩⟩ ?_
              refine WO_pure tbok 2 [(1, .pointer (some ⟨b1, 0, none⟩)), (2, .int .i64 0), (37, .bool y_6)] rfl ⟨rfl, rfl, rfl, trivial⟩ ?_
              refine WO_split (d := 37) (b := y_6) rfl (fun hb16 => ?_) (fun hb16 => ?_)
              · have hx2 := ifT hb16 hx2
                refine WO_pure tbok 2 [(1, .pointer (some ⟨b1, 0, none⟩)), (2, .int .i64 0), (37, .bool true)] rfl ⟨rfl, rfl, rfl, trivial⟩ ?_
                refine WO_skip rfl rfl ?_
                refine WO_pure tbok 1 [(1, .pointer (some ⟨b1, 0, none⟩)), (2, .int .i64 0), (41, .bool true)] rfl ⟨rfl, rfl, rfl, trivial⟩ ?_
                refine WO_end ?_
                cases hx2
                refine WK.sub ?_ (WK.cls (fun _ h => h) hk3)
                exact ⟨rfl, rfl, rfl, trivial⟩
              · have hx2 := ifF hb16 hx2
                refine WO_pure tbok 1 [(1, .pointer (some ⟨b1, 0, none⟩)), (2, .int .i64 0), (37, .bool false), (38, .pointer (some ⟨b1, 1, none⟩))] rfl ⟨rfl, rfl, rfl, rfl, trivial⟩ ?_
                refine WO_loadB tbok 0 rfl rfl rfl rfl (fun _ h => h) rfl rfl ?_
                obtain ⟨y_7, hc17, hx2⟩ := bind_some hx2
                refine WO_call0 (.bool y_7) rfl rfl trivial rfl rfl rfl rfl St_closed ⟨41, #[], #[], rfl, callable_41, fun w hw => ⟨_, hw.sat, terrain_far_walk hc17⟩⟩ ?_
                refine WO_pure tbok 1 [(1, .pointer (some ⟨b1, 0, none⟩)), (2, .int .i64 0), (41, .bool y_7)] rfl ⟨rfl, rfl, rfl, trivial⟩ ?_
                refine WO_end ?_
                cases hx2
                refine WK.sub ?_ (WK.cls (fun _ h => h) hk3)
                exact ⟨rfl, rfl, rfl, trivial⟩
theorem terrain_checked_walk {m : Mu} {p0_0 : Int} {p0_1 : Int} {p0_2 : Int} {p0_3 : Int} {p0_4 : Int} {p0_5 : List Int} {p1 : Int} {a_p0_5 : Option Addr} {q_p0_5 c_p0_5 : Nat} (h_p0_5 : SlR (FE (I1 .i64)) 1 m (.slice a_p0_5 q_p0_5 c_p0_5) p0_5) {r : Int} (hm : terrain_checked p0_0 p0_1 p0_2 p0_3 p0_4 p0_5 p1 = some r) :
    Go.E.Spec Try.prog 51 [.agg #[.int .i64 p0_0, .int .i64 p0_1, .int .i64 p0_2, .int .i64 p0_3, .int .i64 p0_4, .slice a_p0_5 q_p0_5 c_p0_5], .int .i64 p1] m (fun v _ _ => v = .int .i64 r) := by
  refine Spec_enter Try.func51 rfl rfl rfl (fun w0 => ?_)
  refine WK.sub (e' := [(0, .agg #[.int .i64 p0_0, .int .i64 p0_1, .int .i64 p0_2, .int .i64 p0_3, .int .i64 p0_4, .slice a_p0_5 q_p0_5 c_p0_5]), (1, .int .i64 p1)]) ⟨rfl, rfl, trivial⟩ ?_
  obtain rfl := SlR.qlen h_p0_5
  refine WK.sub (e' := [(0, .agg #[.int .i64 p0_0, .int .i64 p0_1, .int .i64 p0_2, .int .i64 p0_3, .int .i64 p0_4, .slice a_p0_5 p0_5.length c_p0_5]), (1, .int .i64 p1)]) ⟨rfl, rfl, trivial⟩ ?_
  unfold terrain_checked at hm
  refine WK_seq ?_
  refine WK_region ?_
  refine WO_box [.int .i64 p0_0, .int .i64 p0_1, .int .i64 p0_2, .int .i64 p0_3, .int .i64 p0_4, .slice a_p0_5 p0_5.length c_p0_5] rfl rfl trivial rfl rfl rfl (fun b1 => ?_)
  refine WO.cls (C' := St w0 m m [[⟨b1, 25, [.int .i64 p0_0, .int .i64 p0_1, .int .i64 p0_2, .int .i64 p0_3, .int .i64 p0_4, .slice a_p0_5 p0_5.length c_p0_5]⟩]]) (fun _ h => h) ?_
  refine WO_pure tbok 1 [(1, .int .i64 p1), (2, .pointer (some ⟨b1, 0, none⟩)), (4, .int .i64 0)] rfl ⟨rfl, rfl, rfl, trivial⟩ ?_
  refine WO_end ?_
  refine WK_seq ?_
  refine WK_seq ?_
  refine WK_region ?_
  refine WO_loadB tbok 0 rfl rfl rfl rfl (fun _ h => h) rfl rfl ?_
  obtain ⟨y_1, hc2, hm⟩ := bind_some hm
  refine WO_call0 (.int .i64 y_1) rfl rfl trivial rfl rfl rfl rfl St_closed ⟨16, #[], #[], rfl, callable_16, fun w hw => ⟨_, hw.sat, terrain_Check_walk h_p0_5 hc2⟩⟩ ?_
  refine WO_pure tbok 1 [(1, .int .i64 p1), (4, .int .i64 0), (5, .int .i64 y_1)] rfl ⟨rfl, rfl, rfl, trivial⟩ ?_
  refine WO_end ?_
  refine WK_seq ?_
  refine WK_region ?_
  refine WO_pure tbok 2 [(1, .int .i64 p1), (4, .int .i64 0), (5, .int .i64 y_1), (9, .bool (y_1 != 0))] rfl ⟨rfl, rfl, rfl, rfl, trivial⟩ ?_
  refine WO_end ?_
  refine WK_cond (b := y_1 != 0) rfl (fun hb3 => ?_) (fun hb3 => ?_)
  · have hm := ifT hb3 hm
    refine WK_seq ?_
    refine WK_region ?_
    refine WO_pure tbok 2 [(1, .int .i64 p1), (4, .int .i64 y_1)] rfl ⟨rfl, rfl, trivial⟩ ?_
    refine WO_end ?_
    cases hm
    exact WK_ret (ret_out (L := []) (RLc_tmp rfl RLc_nil) (List.nil_sublist _) rfl)
  · have hm := ifF hb3 hm
    refine WK_skip ?_
    refine WK_seq ?_
    refine WK_seq ?_
    obtain ⟨s_2, hx4, hm⟩ := bind_some hm
    refine WK_meet [(4, .int .i64 0), (16, .bool s_2)] (St w0 m m [[⟨b1, 25, [.int .i64 p0_0, .int .i64 p0_1, .int .i64 p0_2, .int .i64 p0_3, .int .i64 p0_4, .slice a_p0_5 p0_5.length c_p0_5]⟩]]) ?_ (fun hk5 => ?_)
    · refine WK_cond (b := s_2) rfl (fun hb6 => ?_) (fun hb6 => ?_)
      · have hm := ifT hb6 hm
        refine WK_seq ?_
        refine WK_region ?_
        refine WO_pure tbok 1 [(4, .int .i64 2)] rfl ⟨rfl, trivial⟩ ?_
        refine WO_end ?_
        cases hm
        exact WK_ret (ret_out (L := []) (RLc_tmp rfl RLc_nil) (List.nil_sublist _) rfl)
      · have hm := ifF hb6 hm
        refine WK_skip ?_
        refine WK_seq ?_
        refine WK_region ?_
        refine WO_pure tbok 1 [(4, .int .i64 0)] rfl ⟨rfl, trivial⟩ ?_
        refine WO_end ?_
        cases hm
        exact WK_ret (ret_out (L := []) (RLc_tmp rfl RLc_nil) (List.nil_sublist _) rfl)
    · refine WK_region ?_
      refine WO_pure tbok 3 [(1, .int .i64 p1), (4, .int .i64 0), (13, .bool (decide (p1 < 0)))] rfl ⟨rfl, rfl, rfl, trivial⟩ ?_
      refine WO_split (d := 13) (b := decide (p1 < 0)) rfl (fun hb7 => ?_) (fun hb7 => ?_)
      · have hx4 := ifT hb7 hx4
        refine WO_pure tbok 3 [(4, .int .i64 0), (16, .bool true)] rfl ⟨rfl, rfl, trivial⟩ ?_
        refine WO_end ?_
        cases hx4
        refine WK.sub ?_ (WK.cls (fun _ h => h) hk5)
        exact ⟨rfl, rfl, trivial⟩
      · have hx4 := ifF hb7 hx4
        refine WO_pure tbok 3 [(4, .int .i64 0), (16, .bool (decide (8 < p1)))] rfl ⟨rfl, rfl, trivial⟩ ?_
        refine WO_end ?_
        cases hx4
        refine WK.sub ?_ (WK.cls (fun _ h => h) hk5)
        exact ⟨rfl, rfl, trivial⟩
theorem bits_Mul64_walk {m : Mu} {p0 : Int} {p1 : Int}   {r : Int × Int} (hm : bits_Mul64 p0 p1 = some r) :
    Go.E.Spec Try.prog 62 [.int .u64 p0, .int .u64 p1] m (fun v _ _ => v = .tuple #[.int .u64 r.1, .int .u64 r.2]) := by
  refine Spec_enter Try.func62 rfl rfl rfl (fun w0 => ?_)
  refine WK.sub (e' := [(0, .int .u64 p0), (1, .int .u64 p1)]) ⟨rfl, rfl, trivial⟩ ?_
  refine WK.sub (e' := [(0, .int .u64 p0), (1, .int .u64 p1)]) ⟨rfl, rfl, trivial⟩ ?_
  unfold bits_Mul64 at hm
  refine WK_seq ?_
  refine WK_region ?_
  refine WO_pure tbok 2 [(0, .int .u64 p0), (1, .int .u64 p1), (4, .int .u64 0), (5, .int .u64 0)] rfl ⟨rfl, rfl, rfl, rfl, trivial⟩ ?_
  refine WO_end ?_
  refine WK_seq ?_
  refine WK_region ?_
  refine WO_pure tbok 3 [(0, .int .u64 p0), (1, .int .u64 p1), (4, .int .u64 0), (5, .int .u64 0), (6, .int .u64 (wu64 (((BitVec.ofInt 64 p0 &&& BitVec.ofInt 64 4294967295).toNat : Int))))] rfl ⟨rfl, rfl, rfl, rfl, rfl, trivial⟩ ?_
  refine WO_end ?_
  refine WK_seq ?_
  refine WK_region ?_
  refine WO_pure tbok 1 [(0, .int .u64 p0), (1, .int .u64 p1), (4, .int .u64 0), (5, .int .u64 0), (6, .int .u64 (wu64 (((BitVec.ofInt 64 p0 &&& BitVec.ofInt 64 4294967295).toNat : Int)))), (16, .int .u64 p0)] rfl ⟨rfl, rfl, rfl, rfl, rfl, rfl, trivial⟩ ?_
  refine WO_shr rfl rfl rfl rfl rfl (by decide) ?_
  refine WO_pure tbok 1 [(0, .int .u64 p0), (1, .int .u64 p1), (4, .int .u64 0), (5, .int .u64 0), (6, .int .u64 (wu64 (((BitVec.ofInt 64 p0 &&& BitVec.ofInt 64 4294967295).toNat : Int)))), (7, .int .u64 (Int.fdiv p0 (2 ^ (min (32 : Int).toNat 64))))] rfl ⟨rfl, rfl, rfl, rfl, rfl, rfl, trivial⟩ ?_
  refine WO_end ?_
  refine WK_seq ?_
  refine WK_region ?_
  refine WO_pure tbok 3 [(0, .int .u64 p0), (1, .int .u64 p1), (4, .int .u64 0), (5, .int .u64 0), (6, .int .u64 (wu64 (((BitVec.ofInt 64 p0 &&& BitVec.ofInt 64 4294967295).toNat : Int)))), (7, .int .u64 (Int.fdiv p0 (2 ^ (min (32 : Int).toNat 64)))), (8, .int .u64 (wu64 (((BitVec.ofInt 64 p1 &&& BitVec.ofInt 64 4294967295).toNat : Int))))] rfl ⟨rfl, rfl, rfl, rfl, rfl, rfl, rfl, trivial⟩ ?_
  refine WO_end ?_
  refine WK_seq ?_
  refine WK_region ?_
  refine WO_pure tbok 1 [(0, .int .u64 p0), (1, .int .u64 p1), (4, .int .u64 0), (5, .int .u64 0), (6, .int .u64 (wu64 (((BitVec.ofInt 64 p0 &&& BitVec.ofInt 64 4294967295).toNat : Int)))), (7, .int .u64 (Int.fdiv p0 (2 ^ (min (32 : Int).toNat 64)))), (8, .int .u64 (wu64 (((BitVec.ofInt 64 p1 &&& BitVec.ofInt 64 4294967295).toNat : Int)))), (20, .int .u64 p1)] rfl ⟨rfl, rfl, rfl, rfl, rfl, rfl, rfl, rfl, trivial⟩ ?_
  refine WO_shr rfl rfl rfl rfl rfl (by decide) ?_
  refine WO_pure tbok 1 [(0, .int .u64 p0), (1, .int .u64 p1), (4, .int .u64 0), (5, .int .u64 0), (6, .int .u64 (wu64 (((BitVec.ofInt 64 p0 &&& BitVec.ofInt 64 4294967295).toNat : Int)))), (7, .int .u64 (Int.fdiv p0 (2 ^ (min (32 : Int).toNat 64)))), (8, .int .u64 (wu64 (((BitVec.ofInt 64 p1 &&& BitVec.ofInt 64 4294967295).toNat : Int)))), (9, .int .u64 (Int.fdiv p1 (2 ^ (min (32 : Int).toNat 64))))] rfl ⟨rfl, rfl, rfl, rfl, rfl, rfl, rfl, rfl, trivial⟩ ?_
  refine WO_end ?_
  refine WK_seq ?_
  refine WK_region ?_
  refine WO_pure tbok 4 [(0, .int .u64 p0), (1, .int .u64 p1), (4, .int .u64 0), (5, .int .u64 0), (6, .int .u64 (wu64 (((BitVec.ofInt 64 p0 &&& BitVec.ofInt 64 4294967295).toNat : Int)))), (7, .int .u64 (Int.fdiv p0 (2 ^ (min (32 : Int).toNat 64)))), (8, .int .u64 (wu64 (((BitVec.ofInt 64 p1 &&& BitVec.ofInt 64 4294967295).toNat : Int)))), (9, .int .u64 (Int.fdiv p1 (2 ^ (min (32 : Int).toNat 64)))), (10, .int .u64 (wu64 ((wu64 (((BitVec.ofInt 64 p0 &&& BitVec.ofInt 64 4294967295).toNat : Int))) * (wu64 (((BitVec.ofInt 64 p1 &&& BitVec.ofInt 64 4294967295).toNat : Int))))))] rfl ⟨rfl, rfl, rfl, rfl, rfl, rfl, rfl, rfl, rfl, trivial⟩ ?_
  refine WO_end ?_
  refine WK_seq ?_
  refine WK_region ?_
  refine WO_pure tbok 4 [(0, .int .u64 p0), (1, .int .u64 p1), (4, .int .u64 0), (5, .int .u64 0), (6, .int .u64 (wu64 (((BitVec.ofInt 64 p0 &&& BitVec.ofInt 64 4294967295).toNat : Int)))), (7, .int .u64 (Int.fdiv p0 (2 ^ (min (32 : Int).toNat 64)))), (9, .int .u64 (Int.fdiv p1 (2 ^ (min (32 : Int).toNat 64)))), (27, .int .u64 (wu64 ((Int.fdiv p0 (2 ^ (min (32 : Int).toNat 64))) * (wu64 (((BitVec.ofInt 64 p1 &&& BitVec.ofInt 64 4294967295).toNat : Int)))))), (28, .int .u64 (wu64 ((wu64 (((BitVec.ofInt 64 p0 &&& BitVec.ofInt 64 4294967295).toNat : Int))) * (wu64 (((BitVec.ofInt 64 p1 &&& BitVec.ofInt 64 4294967295).toNat : Int))))))] rfl ⟨rfl, rfl, rfl, rfl, rfl, rfl, rfl, rfl, rfl, trivial⟩ ?_
  refine WO_shr rfl rfl rfl rfl rfl (by decide) ?_
  refine WO_pure tbok 2 [(0, .int .u64 p0), (1, .int .u64 p1), (4, .int .u64 0), (5, .int .u64 0), (6, .int .u64 (wu64 (((BitVec.ofInt 64 p0 &&& BitVec.ofInt 64 4294967295).toNat : Int)))), (7, .int .u64 (Int.fdiv p0 (2 ^ (min (32 : Int).toNat 64)))), (9, .int .u64 (Int.fdiv p1 (2 ^ (min (32 : Int).toNat 64)))), (11, .int .u64 (wu64 ((wu64 ((Int.fdiv p0 (2 ^ (min (32 : Int).toNat 64))) * (wu64 (((BitVec.ofInt 64 p1 &&& BitVec.ofInt 64 4294967295).toNat : Int))))) + (Int.fdiv (wu64 ((wu64 (((BitVec.ofInt 64 p0 &&& BitVec.ofInt 64 4294967295).toNat : Int))) * (wu64 (((BitVec.ofInt 64 p1 &&& BitVec.ofInt 64 4294967295).toNat : Int))))) (2 ^ (min (32 : Int).toNat 64))))))] rfl ⟨rfl, rfl, rfl, rfl, rfl, rfl, rfl, rfl, trivial⟩ ?_
  refine WO_end ?_
  refine WK_seq ?_
  refine WK_region ?_
  refine WO_pure tbok 3 [(0, .int .u64 p0), (1, .int .u64 p1), (4, .int .u64 0), (5, .int .u64 0), (6, .int .u64 (wu64 (((BitVec.ofInt 64 p0 &&& BitVec.ofInt 64 4294967295).toNat : Int)))), (7, .int .u64 (Int.fdiv p0 (2 ^ (min (32 : Int).toNat 64)))), (9, .int .u64 (Int.fdiv p1 (2 ^ (min (32 : Int).toNat 64)))), (11, .int .u64 (wu64 ((wu64 ((Int.fdiv p0 (2 ^ (min (32 : Int).toNat 64))) * (wu64 (((BitVec.ofInt 64 p1 &&& BitVec.ofInt 64 4294967295).toNat : Int))))) + (Int.fdiv (wu64 ((wu64 (((BitVec.ofInt 64 p0 &&& BitVec.ofInt 64 4294967295).toNat : Int))) * (wu64 (((BitVec.ofInt 64 p1 &&& BitVec.ofInt 64 4294967295).toNat : Int))))) (2 ^ (min (32 : Int).toNat 64)))))), (12, .int .u64 (wu64 (((BitVec.ofInt 64 (wu64 ((wu64 ((Int.fdiv p0 (2 ^ (min (32 : Int).toNat 64))) * (wu64 (((BitVec.ofInt 64 p1 &&& BitVec.ofInt 64 4294967295).toNat : Int))))) + (Int.fdiv (wu64 ((wu64 (((BitVec.ofInt 64 p0 &&& BitVec.ofInt 64 4294967295).toNat : Int))) * (wu64 (((BitVec.ofInt 64 p1 &&& BitVec.ofInt 64 4294967295).toNat : Int))))) (2 ^ (min (32 : Int).toNat 64))))) &&& BitVec.ofInt 64 4294967295).toNat : Int))))] rfl ⟨rfl, rfl, rfl, rfl, rfl, rfl, rfl, rfl, rfl, trivial⟩ ?_
  refine WO_end ?_
  refine WK_seq ?_
  refine WK_region ?_
  refine WO_pure tbok 1 [(0, .int .u64 p0), (1, .int .u64 p1), (4, .int .u64 0), (5, .int .u64 0), (6, .int .u64 (wu64 (((BitVec.ofInt 64 p0 &&& BitVec.ofInt 64 4294967295).toNat : Int)))), (7, .int .u64 (Int.fdiv p0 (2 ^ (min (32 : Int).toNat 64)))), (9, .int .u64 (Int.fdiv p1 (2 ^ (min (32 : Int).toNat 64)))), (12, .int .u64 (wu64 (((BitVec.ofInt 64 (wu64 ((wu64 ((Int.fdiv p0 (2 ^ (min (32 : Int).toNat 64))) * (wu64 (((BitVec.ofInt 64 p1 &&& BitVec.ofInt 64 4294967295).toNat : Int))))) + (Int.fdiv (wu64 ((wu64 (((BitVec.ofInt 64 p0 &&& BitVec.ofInt 64 4294967295).toNat : Int))) * (wu64 (((BitVec.ofInt 64 p1 &&& BitVec.ofInt 64 4294967295).toNat : Int))))) (2 ^ (min (32 : Int).toNat 64))))) &&& BitVec.ofInt 64 4294967295).toNat : Int)))), (33, .int .u64 (wu64 ((wu64 ((Int.fdiv p0 (2 ^ (min (32 : Int).toNat 64))) * (wu64 (((BitVec.ofInt 64 p1 &&& BitVec.ofInt 64 4294967295).toNat : Int))))) + (Int.fdiv (wu64 ((wu64 (((BitVec.ofInt 64 p0 &&& BitVec.ofInt 64 4294967295).toNat : Int))) * (wu64 (((BitVec.ofInt 64 p1 &&& BitVec.ofInt 64 4294967295).toNat : Int))))) (2 ^ (min (32 : Int).toNat 64))))))] rfl ⟨rfl, rfl, rfl, rfl, rfl, rfl, rfl, rfl, rfl, trivial⟩ ?_
  refine WO_shr rfl rfl rfl rfl rfl (by decide) ?_
  refine WO_pure tbok 1 [(0, .int .u64 p0), (1, .int .u64 p1), (4, .int .u64 0), (5, .int .u64 0), (6, .int .u64 (wu64 (((BitVec.ofInt 64 p0 &&& BitVec.ofInt 64 4294967295).toNat : Int)))), (7, .int .u64 (Int.fdiv p0 (2 ^ (min (32 : Int).toNat 64)))), (9, .int .u64 (Int.fdiv p1 (2 ^ (min (32 : Int).toNat 64)))), (12, .int .u64 (wu64 (((BitVec.ofInt 64 (wu64 ((wu64 ((Int.fdiv p0 (2 ^ (min (32 : Int).toNat 64))) * (wu64 (((BitVec.ofInt 64 p1 &&& BitVec.ofInt 64 4294967295).toNat : Int))))) + (Int.fdiv (wu64 ((wu64 (((BitVec.ofInt 64 p0 &&& BitVec.ofInt 64 4294967295).toNat : Int))) * (wu64 (((BitVec.ofInt 64 p1 &&& BitVec.ofInt 64 4294967295).toNat : Int))))) (2 ^ (min (32 : Int).toNat 64))))) &&& BitVec.ofInt 64 4294967295).toNat : Int)))), (13, .int .u64 (Int.fdiv (wu64 ((wu64 ((Int.fdiv p0 (2 ^ (min (32 : Int).toNat 64))) * (wu64 (((BitVec.ofInt 64 p1 &&& BitVec.ofInt 64 4294967295).toNat : Int))))) + (Int.fdiv (wu64 ((wu64 (((BitVec.ofInt 64 p0 &&& BitVec.ofInt 64 4294967295).toNat : Int))) * (wu64 (((BitVec.ofInt 64 p1 &&& BitVec.ofInt 64 4294967295).toNat : Int))))) (2 ^ (min (32 : Int).toNat 64))))) (2 ^ (min (32 : Int).toNat 64))))] rfl ⟨rfl, rfl, rfl, rfl, rfl, rfl, rfl, rfl, rfl, trivial⟩ ?_
  refine WO_end ?_
  refine WK_seq ?_
  refine WK_region ?_
  refine WO_pure tbok 6 [(0, .int .u64 p0), (1, .int .u64 p1), (4, .int .u64 0), (5, .int .u64 0), (7, .int .u64 (Int.fdiv p0 (2 ^ (min (32 : Int).toNat 64)))), (9, .int .u64 (Int.fdiv p1 (2 ^ (min (32 : Int).toNat 64)))), (12, .int .u64 (wu64 ((wu64 (((BitVec.ofInt 64 (wu64 ((wu64 ((Int.fdiv p0 (2 ^ (min (32 : Int).toNat 64))) * (wu64 (((BitVec.ofInt 64 p1 &&& BitVec.ofInt 64 4294967295).toNat : Int))))) + (Int.fdiv (wu64 ((wu64 (((BitVec.ofInt 64 p0 &&& BitVec.ofInt 64 4294967295).toNat : Int))) * (wu64 (((BitVec.ofInt 64 p1 &&& BitVec.ofInt 64 4294967295).toNat : Int))))) (2 ^ (min (32 : Int).toNat 64))))) &&& BitVec.ofInt 64 4294967295).toNat : Int))) + (wu64 ((wu64 (((BitVec.ofInt 64 p0 &&& BitVec.ofInt 64 4294967295).toNat : Int))) * (Int.fdiv p1 (2 ^ (min (32 : Int).toNat 64)))))))), (13, .int .u64 (Int.fdiv (wu64 ((wu64 ((Int.fdiv p0 (2 ^ (min (32 : Int).toNat 64))) * (wu64 (((BitVec.ofInt 64 p1 &&& BitVec.ofInt 64 4294967295).toNat : Int))))) + (Int.fdiv (wu64 ((wu64 (((BitVec.ofInt 64 p0 &&& BitVec.ofInt 64 4294967295).toNat : Int))) * (wu64 (((BitVec.ofInt 64 p1 &&& BitVec.ofInt 64 4294967295).toNat : Int))))) (2 ^ (min (32 : Int).toNat 64))))) (2 ^ (min (32 : Int).toNat 64))))] rfl ⟨rfl, rfl, rfl, rfl, rfl, rfl, rfl, rfl, trivial⟩ ?_
  refine WO_end ?_
  refine WK_seq ?_
  refine WK_region ?_
  refine WO_pure tbok 6 [(0, .int .u64 p0), (1, .int .u64 p1), (4, .int .u64 0), (5, .int .u64 0), (44, .int .u64 (wu64 ((wu64 ((Int.fdiv p0 (2 ^ (min (32 : Int).toNat 64))) * (Int.fdiv p1 (2 ^ (min (32 : Int).toNat 64))))) + (Int.fdiv (wu64 ((wu64 ((Int.fdiv p0 (2 ^ (min (32 : Int).toNat 64))) * (wu64 (((BitVec.ofInt 64 p1 &&& BitVec.ofInt 64 4294967295).toNat : Int))))) + (Int.fdiv (wu64 ((wu64 (((BitVec.ofInt 64 p0 &&& BitVec.ofInt 64 4294967295).toNat : Int))) * (wu64 (((BitVec.ofInt 64 p1 &&& BitVec.ofInt 64 4294967295).toNat : Int))))) (2 ^ (min (32 : Int).toNat 64))))) (2 ^ (min (32 : Int).toNat 64)))))), (45, .int .u64 (wu64 ((wu64 (((BitVec.ofInt 64 (wu64 ((wu64 ((Int.fdiv p0 (2 ^ (min (32 : Int).toNat 64))) * (wu64 (((BitVec.ofInt 64 p1 &&& BitVec.ofInt 64 4294967295).toNat : Int))))) + (Int.fdiv (wu64 ((wu64 (((BitVec.ofInt 64 p0 &&& BitVec.ofInt 64 4294967295).toNat : Int))) * (wu64 (((BitVec.ofInt 64 p1 &&& BitVec.ofInt 64 4294967295).toNat : Int))))) (2 ^ (min (32 : Int).toNat 64))))) &&& BitVec.ofInt 64 4294967295).toNat : Int))) + (wu64 ((wu64 (((BitVec.ofInt 64 p0 &&& BitVec.ofInt 64 4294967295).toNat : Int))) * (Int.fdiv p1 (2 ^ (min (32 : Int).toNat 64))))))))] rfl ⟨rfl, rfl, rfl, rfl, rfl, rfl, trivial⟩ ?_
  refine WO_shr rfl rfl rfl rfl rfl (by decide) ?_
  refine WO_pure tbok 2 [(0, .int .u64 p0), (1, .int .u64 p1), (4, .int .u64 (wu64 ((wu64 ((wu64 ((Int.fdiv p0 (2 ^ (min (32 : Int).toNat 64))) * (Int.fdiv p1 (2 ^ (min (32 : Int).toNat 64))))) + (Int.fdiv (wu64 ((wu64 ((Int.fdiv p0 (2 ^ (min (32 : Int).toNat 64))) * (wu64 (((BitVec.ofInt 64 p1 &&& BitVec.ofInt 64 4294967295).toNat : Int))))) + (Int.fdiv (wu64 ((wu64 (((BitVec.ofInt 64 p0 &&& BitVec.ofInt 64 4294967295).toNat : Int))) * (wu64 (((BitVec.ofInt 64 p1 &&& BitVec.ofInt 64 4294967295).toNat : Int))))) (2 ^ (min (32 : Int).toNat 64))))) (2 ^ (min (32 : Int).toNat 64))))) + (Int.fdiv (wu64 ((wu64 (((BitVec.ofInt 64 (wu64 ((wu64 ((Int.fdiv p0 (2 ^ (min (32 : Int).toNat 64))) * (wu64 (((BitVec.ofInt 64 p1 &&& BitVec.ofInt 64 4294967295).toNat : Int))))) + (Int.fdiv (wu64 ((wu64 (((BitVec.ofInt 64 p0 &&& BitVec.ofInt 64 4294967295).toNat : Int))) * (wu64 (((BitVec.ofInt 64 p1 &&& BitVec.ofInt 64 4294967295).toNat : Int))))) (2 ^ (min (32 : Int).toNat 64))))) &&& BitVec.ofInt 64 4294967295).toNat : Int))) + (wu64 ((wu64 (((BitVec.ofInt 64 p0 &&& BitVec.ofInt 64 4294967295).toNat : Int))) * (Int.fdiv p1 (2 ^ (min (32 : Int).toNat 64))))))) (2 ^ (min (32 : Int).toNat 64)))))), (5, .int .u64 0)] rfl ⟨rfl, rfl, rfl, rfl, trivial⟩ ?_
  refine WO_end ?_
  refine WK_seq ?_
  refine WK_region ?_
  refine WO_pure tbok 4 [(4, .int .u64 (wu64 ((wu64 ((wu64 ((Int.fdiv p0 (2 ^ (min (32 : Int).toNat 64))) * (Int.fdiv p1 (2 ^ (min (32 : Int).toNat 64))))) + (Int.fdiv (wu64 ((wu64 ((Int.fdiv p0 (2 ^ (min (32 : Int).toNat 64))) * (wu64 (((BitVec.ofInt 64 p1 &&& BitVec.ofInt 64 4294967295).toNat : Int))))) + (Int.fdiv (wu64 ((wu64 (((BitVec.ofInt 64 p0 &&& BitVec.ofInt 64 4294967295).toNat : Int))) * (wu64 (((BitVec.ofInt 64 p1 &&& BitVec.ofInt 64 4294967295).toNat : Int))))) (2 ^ (min (32 : Int).toNat 64))))) (2 ^ (min (32 : Int).toNat 64))))) + (Int.fdiv (wu64 ((wu64 (((BitVec.ofInt 64 (wu64 ((wu64 ((Int.fdiv p0 (2 ^ (min (32 : Int).toNat 64))) * (wu64 (((BitVec.ofInt 64 p1 &&& BitVec.ofInt 64 4294967295).toNat : Int))))) + (Int.fdiv (wu64 ((wu64 (((BitVec.ofInt 64 p0 &&& BitVec.ofInt 64 4294967295).toNat : Int))) * (wu64 (((BitVec.ofInt 64 p1 &&& BitVec.ofInt 64 4294967295).toNat : Int))))) (2 ^ (min (32 : Int).toNat 64))))) &&& BitVec.ofInt 64 4294967295).toNat : Int))) + (wu64 ((wu64 (((BitVec.ofInt 64 p0 &&& BitVec.ofInt 64 4294967295).toNat : Int))) * (Int.fdiv p1 (2 ^ (min (32 : Int).toNat 64))))))) (2 ^ (min (32 : Int).toNat 64)))))), (5, .int .u64 (wu64 (p0 * p1)))] rfl ⟨rfl, rfl, trivial⟩ ?_
  refine WO_end ?_
  cases hm
  exact WK_ret (ret_out (L := []) (RLc_tmp rfl (RLc_tmp rfl RLc_nil)) (List.nil_sublist _) rfl)
theorem bits_Mul_walk {m : Mu} {p0 : Int} {p1 : Int}   {r : Int × Int} (hm : bits_Mul p0 p1 = some r) :
    Go.E.Spec Try.prog 60 [.int .u64 p0, .int .u64 p1] m (fun v _ _ => v = .tuple #[.int .u64 r.1, .int .u64 r.2]) := by
  refine Spec_enter Try.func60 rfl rfl rfl (fun w0 => ?_)
  refine WK.sub (e' := [(0, .int .u64 p0), (1, .int .u64 p1)]) ⟨rfl, rfl, trivial⟩ ?_
  refine WK.sub (e' := [(0, .int .u64 p0), (1, .int .u64 p1)]) ⟨rfl, rfl, trivial⟩ ?_
  unfold bits_Mul at hm
  refine WK_seq ?_
  refine WK_region ?_
  refine WO_pure tbok 2 [(0, .int .u64 p0), (1, .int .u64 p1), (4, .int .u64 0), (5, .int .u64 0)] rfl ⟨rfl, rfl, rfl, rfl, trivial⟩ ?_
  refine WO_end ?_
  refine WK_seq ?_
  refine WK_condF rfl ?_
  refine WK_skip ?_
  refine WK_seq ?_
  refine WK_region ?_
  refine WO_pure tbok 2 [(4, .int .u64 0), (5, .int .u64 0), (23, .int .u64 p0), (24, .int .u64 p1)] rfl ⟨rfl, rfl, rfl, rfl, trivial⟩ ?_
  obtain ⟨⟨y_1, y_2⟩, hc1, hm⟩ := bind_some hm
  refine WO_call0 (.tuple #[.int .u64 y_1, .int .u64 y_2]) rfl rfl trivial rfl rfl rfl rfl St_closed ⟨62, #[], #[], rfl, callable_62, fun w hw => ⟨_, hw.sat, bits_Mul64_walk hc1⟩⟩ ?_
  refine WO_pure tbok 5 [(4, .int .u64 0), (5, .int .u64 0), (8, .int .u64 y_1), (9, .int .u64 y_2)] rfl ⟨rfl, rfl, rfl, rfl, trivial⟩ ?_
  refine WO_end ?_
  refine WK_seq ?_
  refine WK_region ?_
  refine WO_pure tbok 4 [(4, .int .u64 y_1), (5, .int .u64 y_2)] rfl ⟨rfl, rfl, trivial⟩ ?_
  refine WO_end ?_
  cases hm
  exact WK_ret (ret_out (L := []) (RLc_tmp rfl (RLc_tmp rfl RLc_nil)) (List.nil_sublist _) rfl)
def slices_Repeat_sint_Q (r : List Int) : Value → List Ent → Prop := fun v L => ∃ (a0 : Option Addr) (q0 c0 : Nat), v = .slice a0 q0 c0 ∧ OwnE 3 1 (I1 .i64) (.slice a0 q0 c0) r L
theorem slices_Repeat_sint_walk {m : Mu} {p0 : List Int} {p1 : Int} {a_p0 : Option Addr} {q_p0 c_p0 : Nat} (h_p0 : SlR (FE (I1 .i64)) 1 m (.slice a_p0 q_p0 c_p0) p0) {r : List Int} (hm : slices_Repeat_sint p0 p1 = some r) :
    Go.E.Spec Try.prog 58 [.slice a_p0 q_p0 c_p0, .int .i64 p1] m (fun v _ L => slices_Repeat_sint_Q r v L) := by
  refine Spec_enter Try.func58 rfl rfl rfl (fun w0 => ?_)
  refine WK.sub (e' := [(0, .slice a_p0 q_p0 c_p0), (1, .int .i64 p1)]) ⟨rfl, rfl, trivial⟩ ?_
  obtain rfl := SlR.qlen h_p0
  refine WK.sub (e' := [(0, .slice a_p0 p0.length c_p0), (1, .int .i64 p1)]) ⟨rfl, rfl, trivial⟩ ?_
  unfold slices_Repeat_sint at hm
  refine WK_seq ?_
  refine WK_region ?_
  refine WO_pure tbok 1 [(0, .slice a_p0 p0.length c_p0), (1, .int .i64 p1), (4, .slice none 0 0)] rfl ⟨rfl, rfl, rfl, trivial⟩ ?_
  refine WO_end ?_
  refine WK_seq ?_
  refine WK_seq ?_
  refine WK_region ?_
  refine WO_pure tbok 2 [(0, .slice a_p0 p0.length c_p0), (1, .int .i64 p1), (4, .slice none 0 0), (10, .bool (decide (p1 < 0)))] rfl ⟨rfl, rfl, rfl, rfl, trivial⟩ ?_
  refine WO_end ?_
  refine WK_cond (b := decide (p1 < 0)) rfl (fun hb1 => ?_) (fun hb1 => ?_)
  · have hm := ifT hb1 hm
    refine WK_region ?_
    cases hm
  · have hm := ifF hb1 hm
    refine WK_skip ?_
    refine WK_seq ?_
    refine WK_region ?_
    refine WO_pure tbok 5 [(0, .slice a_p0 p0.length c_p0), (4, .slice none 0 0), (15, .int .u64 (wu64 ((p0.length : Int)))), (17, .int .u64 (wu64 (p1)))] rfl ⟨rfl, rfl, rfl, rfl, trivial⟩ ?_
    obtain ⟨⟨y_1, y_2⟩, hc2, hm⟩ := bind_some hm
    refine WO_call0 (.tuple #[.int .u64 y_1, .int .u64 y_2]) rfl rfl trivial rfl rfl rfl rfl St_closed ⟨60, #[], #[], rfl, callable_60, fun w hw => ⟨_, hw.sat, bits_Mul_walk hc2⟩⟩ ?_
    refine WO_pure tbok 5 [(0, .slice a_p0 p0.length c_p0), (4, .slice none 0 0), (5, .int .u64 y_1), (6, .int .u64 y_2)] rfl ⟨rfl, rfl, rfl, rfl, trivial⟩ ?_
    refine WO_end ?_
    refine WK_seq ?_
    refine WK_seq ?_
    obtain ⟨s_3, hx3, hm⟩ := bind_some hm
    refine WK_meet [(0, .slice a_p0 p0.length c_p0), (4, .slice none 0 0), (6, .int .u64 y_2), (26, .bool s_3)] (St w0 m m []) ?_ (fun hk4 => ?_)
    · refine WK_cond (b := s_3) rfl (fun hb5 => ?_) (fun hb5 => ?_)
      · have hm := ifT hb5 hm
        refine WK_region ?_
        cases hm
      · have hm := ifF hb5 hm
        refine WK_skip ?_
        refine WK_seq ?_
        refine WK_region ?_
        refine WO_pure tbok 2 [(0, .slice a_p0 p0.length c_p0), (4, .slice none 0 0), (29, .int .i64 (w64 (y_2)))] rfl ⟨rfl, rfl, rfl, trivial⟩ ?_
        obtain ⟨hc6, hm⟩ := chk_some hm
        refine WO_make (E := (I1 .i64)) tbok (fun _ => rfl) (by decide) (0 : Int) rfl rfl trivial rfl rfl rfl rfl rfl rfl rfl rfl rfl (mk_ok (by decide) hc6) (fun b7 c8 L9 hL9 => ?_)
        refine WO.cls (C' := St w0 m m [L9]) (fun _ h => h) ?_
        refine WO_pure tbok 1 [(0, .slice a_p0 p0.length c_p0), (4, .slice none 0 0), (7, .slice (some ⟨b7, 0, none⟩) ((List.replicate (w64 (y_2)).toNat (0 : Int)).length) c8)] rfl ⟨rfl, rfl, rfl, trivial⟩ ?_
        refine WO_end ?_
        refine WK_seq ?_
        refine WK_region ?_
        refine WO_pure tbok 2 [(4, .slice none 0 0), (7, .slice (some ⟨b7, 0, none⟩) ((List.replicate (w64 (y_2)).toNat (0 : Int)).length) c8), (31, .slice (some ⟨b7, 0, none⟩) ((List.replicate (w64 (y_2)).toNat (0 : Int)).length) c8), (32, .slice a_p0 p0.length c_p0)] rfl ⟨rfl, rfl, rfl, rfl, trivial⟩ ?_
        have hz11 : OwnE 3 1 (I1 .i64) (.slice (some ⟨b7, 0, none⟩) ((List.replicate (w64 (y_2)).toNat (0 : Int)).length) c8) (List.replicate (w64 (y_2)).toNat (0 : Int)) L9 := hL9
        refine WO_copy (E := (I1 .i64)) tbok (fun _ => rfl) (fun _ => rfl) 0 (0) p0 ((List.replicate (w64 (y_2)).toNat (0 : Int)).length) rfl rfl rfl rfl rfl rfl rfl rfl rfl rfl hz11 rfl (OwnE.qlen hz11) (by rw [Nat.zero_add]; exact Nat.le_refl _) DstAt.whole (fun w hw => ⟨_, hw.sat, h_p0⟩) (fun L10 hL10 => ?_)
        refine WO.cls (C' := St w0 m m [L10]) (fun _ h => h) ?_
        refine WO_pure tbok 1 [(4, .slice none 0 0), (7, .slice (some ⟨b7, 0, none⟩) ((List.replicate (w64 (y_2)).toNat (0 : Int)).length) c8), (8, .int .i64 (cpn ((List.replicate (w64 (y_2)).toNat (0 : Int)).length) p0))] rfl ⟨rfl, rfl, rfl, trivial⟩ ?_
        refine WO_end ?_
        refine WK_seq ?_
        obtain ⟨x14, hx15, hm⟩ := bind_some hm
        refine WK_join (β := (List Int) × (List Ent)) (fun p => p.1 = x14 ∧ OwnE 3 1 (I1 .i64) (.slice (some ⟨b7, 0, none⟩) ((List.replicate (w64 (y_2)).toNat (0 : Int)).length) c8) p.1 p.2) (fun p => [(4, .slice none 0 0), (7, .slice (some ⟨b7, 0, none⟩) ((List.replicate (w64 (y_2)).toNat (0 : Int)).length) c8)]) (fun p => St w0 m m [p.2]) ?_ (fun hk16 => ?_)
        · rintro ⟨l_6, L13⟩ ⟨hq22, hL13⟩
          subst hq22
          refine WK.sub (e' := [(4, .slice none 0 0), (7, .slice (some ⟨b7, 0, none⟩) ((List.replicate (w64 (y_2)).toNat (0 : Int)).length) c8)]) ⟨rfl, rfl, trivial⟩ (WK.cls (C' := St w0 m m [L13]) (fun _ h => h) ?_)
          refine WK_seq ?_
          refine WK_region ?_
          refine WO_pure tbok 2 [(4, .slice (some ⟨b7, 0, none⟩) ((List.replicate (w64 (y_2)).toNat (0 : Int)).length) c8)] rfl ⟨rfl, trivial⟩ ?_
          refine WO_end ?_
          cases hm
          exact WK_ret (ret_out (L := L13) (RLc_tmp rfl RLc_nil) (seg_sub 0 rfl) ⟨(some ⟨b7, 0, none⟩), ((List.replicate (w64 (y_2)).toNat (0 : Int)).length), c8, rfl, hL13⟩)
        · refine WK_block ?_
          refine WK_loop (S := List Int × Int) (G := List Ent) (fun s => slices_Repeat_sint_s1 y_2 s.1 s.2) (fun s g => [(4, .slice none 0 0), (7, .slice (some ⟨b7, 0, none⟩) ((List.replicate (w64 (y_2)).toNat (0 : Int)).length) c8), (8, .int .i64 s.2)]) (fun s g => St w0 m m [g]) (fun s g => OwnE 3 1 (I1 .i64) (.slice (some ⟨b7, 0, none⟩) ((List.replicate (w64 (y_2)).toNat (0 : Int)).length) c8) s.1 g) FUEL ((cpy (List.replicate (w64 (y_2)).toNat (0 : Int)) 0 ((List.replicate (w64 (y_2)).toNat (0 : Int)).length) p0), (cpn ((List.replicate (w64 (y_2)).toNat (0 : Int)).length) p0)) L10 x14 hx15 hL10 ⟨rfl, rfl, rfl, trivial⟩ (fun _ h => h) ?_
          rintro ⟨l_4, s_5⟩ L12 o18 fl19 hm17 hL12 hn20 hd21
          have hm17 : slices_Repeat_sint_s1 y_2 l_4 s_5 = some o18 := hm17
          unfold slices_Repeat_sint_s1 at hm17
          refine WK.sub (e' := [(4, .slice none 0 0), (7, .slice (some ⟨b7, 0, none⟩) ((List.replicate (w64 (y_2)).toNat (0 : Int)).length) c8), (8, .int .i64 s_5)]) ⟨rfl, rfl, rfl, trivial⟩ (WK.cls (C' := St w0 m m [L12]) (fun _ h => h) ?_)
          refine WK_seq ?_
          refine WK_seq ?_
          refine WK_region ?_
          refine WO_pure tbok 4 [(4, .slice none 0 0), (7, .slice (some ⟨b7, 0, none⟩) ((List.replicate (w64 (y_2)).toNat (0 : Int)).length) c8), (8, .int .i64 s_5), (37, .bool (decide (s_5 < ((List.replicate (w64 (y_2)).toNat (0 : Int)).length : Int))))] rfl ⟨rfl, rfl, rfl, rfl, trivial⟩ ?_
          refine WO_end ?_
          refine WK_cond (b := decide (s_5 < ((List.replicate (w64 (y_2)).toNat (0 : Int)).length : Int))) rfl (fun hb23 => ?_) (fun hb23 => ?_)
          · have hm17 := ifT hb23 hm17
            refine WK_skip ?_
            refine WK_block ?_
            refine WK_plan 7 [0, 1, 2, 4, 5] (.run [3, 6] .fin) follows_ok (by kernel_rfl) St_closed ?_
            refine WO_pure tbok 5 [(4, .slice none 0 0), (7, .slice (some ⟨b7, 0, none⟩) ((List.replicate (w64 (y_2)).toNat (0 : Int)).length) c8), (8, .int .i64 s_5), (38, .int .i64 s_5), (39, .slice (some ⟨b7, 0, none⟩) ((List.replicate (w64 (y_2)).toNat (0 : Int)).length) c8), (40, .int .i64 s_5), (42, .slice (some ⟨b7, 0, none⟩) ((List.replicate (w64 (y_2)).toNat (0 : Int)).length) c8), (43, .int .i64 s_5)] rfl ⟨rfl, rfl, rfl, rfl, rfl, rfl, rfl, rfl, trivial⟩ ?_
            refine WO_plan ?_
            refine WT_run ?_
            obtain ⟨hc24, hm17⟩ := chk_some hm17
            have hc24 : 0 ≤ (s_5 : Int) ∧ (s_5 : Int) ≤ (l_4.length : Int) ∧ (l_4.length : Int) ≤ (l_4.length : Int) := hc24
            have hz28 : OwnE 3 1 (I1 .i64) (.slice (some ⟨b7, 0, none⟩) ((List.replicate (w64 (y_2)).toNat (0 : Int)).length) c8) l_4 L12 := hL12
            refine WO_sliceV (E := (I1 .i64)) tbok (fun _ => rfl) (some (s_5 : Int)) none (s_5 : Int).toNat l_4.length rfl rfl rfl rfl rfl rfl rfl rfl rfl rfl hz28 (by simp only [Option.getD_some] <;> omega) (by have := OwnE.qlen hz28; simp only [Option.getD_none] <;> omega) (by omega) (by omega) (fun a25 c26 h27 h27d => ?_)
            obtain ⟨hc29, hm17⟩ := chk_some hm17
            have hc29 : 0 ≤ (0 : Int) ∧ (0 : Int) ≤ (s_5 : Int) ∧ (s_5 : Int) ≤ (l_4.length : Int) := hc29
            have hz33 : OwnE 3 1 (I1 .i64) (.slice (some ⟨b7, 0, none⟩) ((List.replicate (w64 (y_2)).toNat (0 : Int)).length) c8) l_4 L12 := hL12
            refine WO_sliceV (E := (I1 .i64)) tbok (fun _ => rfl) none (some (s_5 : Int)) (0 : Int).toNat (s_5 : Int).toNat rfl rfl rfl rfl rfl rfl rfl rfl rfl rfl hz33 rfl (by simp only [Option.getD_some] <;> omega) (by omega) (by omega) (fun a30 c31 h32 h32d => ?_)
            refine WO_tree rfl ?_
            refine WT_fin ?_
            have hz35 : OwnE 3 1 (I1 .i64) (.slice (some ⟨b7, 0, none⟩) ((List.replicate (w64 (y_2)).toNat (0 : Int)).length) c8) l_4 L12 := hL12
            refine WO_copy (E := (I1 .i64)) tbok (fun _ => rfl) (fun _ => rfl) 0 ((s_5 : Int).toNat) ((l_4.take (s_5 : Int).toNat).drop (0 : Int).toNat) (((l_4.take l_4.length).drop (s_5 : Int).toNat).length) rfl rfl rfl rfl rfl rfl rfl rfl rfl rfl hz35 rfl rfl (by rw [List.length_drop, List.length_take]; omega) h27d (fun w hw => ⟨_, hw.satV, (h32 _ (fun _ hx => hw.memV (i := 0) rfl hx))⟩) (fun L34 hL34 => ?_)
            refine WO.cls (C' := St w0 m m [L34]) (fun _ h => h) ?_
            refine WO_pure tbok 2 [(4, .slice none 0 0), (7, .slice (some ⟨b7, 0, none⟩) ((List.replicate (w64 (y_2)).toNat (0 : Int)).length) c8), (8, .int .i64 (w64 (s_5 + (cpn (((l_4.take l_4.length).drop (s_5 : Int).toNat).length) ((l_4.take (s_5 : Int).toNat).drop (0 : Int).toNat)))))] rfl ⟨rfl, rfl, rfl, trivial⟩ ?_
            refine WO_end ?_
            refine WK_blk ?_
            cases hm17
            refine WK.sub ?_ (WK.cls (fun _ h => h) (hn20 _ L34 rfl hL34))
            exact ⟨rfl, rfl, rfl, trivial⟩
          · have hm17 := ifF hb23 hm17
            refine WK_exit rfl ?_
            cases hm17
            refine WK.sub ?_ (WK.cls (fun _ h => h) (hk16 (l_4, L12) ⟨(hd21 _ rfl), hL12⟩))
            exact ⟨rfl, rfl, trivial⟩
    · refine WK_region ?_
      refine WO_pure tbok 3 [(0, .slice a_p0 p0.length c_p0), (4, .slice none 0 0), (6, .int .u64 y_2), (23, .bool (decide (0 < y_1)))] rfl ⟨rfl, rfl, rfl, rfl, trivial⟩ ?_
      refine WO_split (d := 23) (b := decide (0 < y_1)) rfl (fun hb36 => ?_) (fun hb36 => ?_)
      · have hx3 := ifT hb36 hx3
        refine WO_pure tbok 3 [(0, .slice a_p0 p0.length c_p0), (4, .slice none 0 0), (6, .int .u64 y_2), (26, .bool true)] rfl ⟨rfl, rfl, rfl, rfl, trivial⟩ ?_
        refine WO_end ?_
        cases hx3
        refine WK.sub ?_ (WK.cls (fun _ h => h) hk4)
        exact ⟨rfl, rfl, rfl, rfl, trivial⟩
      · have hx3 := ifF hb36 hx3
        refine WO_pure tbok 3 [(0, .slice a_p0 p0.length c_p0), (4, .slice none 0 0), (6, .int .u64 y_2), (26, .bool (decide (9223372036854775807 < y_2)))] rfl ⟨rfl, rfl, rfl, rfl, trivial⟩ ?_
        refine WO_end ?_
        cases hx3
        refine WK.sub ?_ (WK.cls (fun _ h => h) hk4)
        exact ⟨rfl, rfl, rfl, rfl, trivial⟩
def terrain_blank_Q (r : List Int) : Value → List Ent → Prop := fun v L => ∃ (a0 : Option Addr) (q0 c0 : Nat), v = .slice a0 q0 c0 ∧ OwnE 3 1 (I1 .i64) (.slice a0 q0 c0) r L
theorem terrain_blank_walk {m : Mu} {p0 : Int}   {r : List Int} (hm : terrain_blank p0 = some r) :
    Go.E.Spec Try.prog 42 [.int .i64 p0] m (fun v _ L => terrain_blank_Q r v L) := by
  refine Spec_enter Try.func42 rfl rfl rfl (fun w0 => ?_)
  refine WK.sub (e' := [(0, .int .i64 p0)]) ⟨rfl, trivial⟩ ?_
  refine WK.sub (e' := [(0, .int .i64 p0)]) ⟨rfl, trivial⟩ ?_
  unfold terrain_blank at hm
  refine WK_seq ?_
  refine WK_region ?_
  refine WO_pure tbok 1 [(0, .int .i64 p0), (2, .slice none 0 0)] rfl ⟨rfl, rfl, trivial⟩ ?_
  refine WO_end ?_
  refine WK_seq ?_
  refine WK_region ?_
  refine WO_bslice (E := (I1 .i64)) tbok (fun _ => rfl) (by decide) [.int .i64 (-2147483648)] ([(-2147483648)] : List Int) rfl rfl trivial rfl rfl rfl rfl rfl rfl rfl rfl rfl rfl rfl rfl (fun b1 hb1 => ?_)
  refine WO.cls (C' := St w0 m m [[⟨b1, 3, ([(-2147483648)] : List Int).flatMap (I1 .i64)⟩]]) (fun _ h => h) ?_
  refine WO_pure tbok 1 [(2, .slice none 0 0), (3, .slice (some ⟨b1, 0, none⟩) 1 1), (4, .int .i64 p0)] rfl ⟨rfl, rfl, rfl, trivial⟩ ?_
  obtain ⟨y_1, hc2, hm⟩ := bind_some hm
  refine WO_call1 (slices_Repeat_sint_Q y_1) rfl rfl trivial rfl rfl rfl rfl ⟨58, #[], #[], rfl, callable_58, fun w hw => ⟨_, hw.satV, slices_Repeat_sint_walk (OwnE.rd (E := (I1 .i64)) (k := 1) (fun _ => rfl) hb1 (fun _ hx => hw.memV (i := 0) rfl hx)) hc2⟩⟩ (fun v6 L5 hq => ?_)
  obtain ⟨a3, qa3, c4, rfl, hL5⟩ := hq
  obtain rfl := OwnE.qlen hL5
  refine WO.cls (C' := St w0 m m [[⟨b1, 3, ([(-2147483648)] : List Int).flatMap (I1 .i64)⟩], L5]) (fun _ h => h) ?_
  refine WO_pure tbok 1 [(2, .slice a3 ((y_1).length) c4)] rfl ⟨rfl, trivial⟩ ?_
  refine WO_end ?_
  cases hm
  exact WK_ret (ret_out (L := L5) (RLc_tmp rfl RLc_nil) (seg_sub 1 rfl) ⟨a3, _, c4, rfl, hL5⟩)
def terrain_with_Q (r : Int × Int × Int × Int × Int × List Int) : Value → Mu → List Ent → Prop := fun v m L => ∃ (a0 : Option Addr) (q0 c0 : Nat), v = .agg #[.int .i64 r.1, .int .i64 r.2.1, .int .i64 r.2.2.1, .int .i64 r.2.2.2.1, .int .i64 r.2.2.2.2.1, .slice a0 q0 c0] ∧ SlR (FE (I1 .i64)) 1 m (.slice a0 q0 c0) r.2.2.2.2.2
theorem terrain_with_walk {m : Mu} {p0_0 : Int} {p0_1 : Int} {p0_2 : Int} {p0_3 : Int} {p0_4 : Int} {p0_5 : List Int} {p1 : List Int} {a_p0_5 : Option Addr} {q_p0_5 c_p0_5 : Nat} {a_p1 : Option Addr} {q_p1 c_p1 : Nat} (h_p0_5 : SlR (FE (I1 .i64)) 1 m (.slice a_p0_5 q_p0_5 c_p0_5) p0_5) (h_p1 : SlR (FE (I1 .i64)) 1 m (.slice a_p1 q_p1 c_p1) p1) {r : Int × Int × Int × Int × Int × List Int} (hm : terrain_with p0_0 p0_1 p0_2 p0_3 p0_4 p0_5 p1 = some r) :
    Go.E.Spec Try.prog 44 [.agg #[.int .i64 p0_0, .int .i64 p0_1, .int .i64 p0_2, .int .i64 p0_3, .int .i64 p0_4, .slice a_p0_5 q_p0_5 c_p0_5], .slice a_p1 q_p1 c_p1] m (terrain_with_Q r) := by
  refine Spec_enter Try.func44 rfl rfl rfl (fun w0 => ?_)
  refine WK.sub (e' := [(0, .agg #[.int .i64 p0_0, .int .i64 p0_1, .int .i64 p0_2, .int .i64 p0_3, .int .i64 p0_4, .slice a_p0_5 q_p0_5 c_p0_5]), (1, .slice a_p1 q_p1 c_p1)]) ⟨rfl, rfl, trivial⟩ ?_
  obtain rfl := SlR.qlen h_p0_5
  obtain rfl := SlR.qlen h_p1
  refine WK.sub (e' := [(0, .agg #[.int .i64 p0_0, .int .i64 p0_1, .int .i64 p0_2, .int .i64 p0_3, .int .i64 p0_4, .slice a_p0_5 p0_5.length c_p0_5]), (1, .slice a_p1 p1.length c_p1)]) ⟨rfl, rfl, trivial⟩ ?_
  unfold terrain_with at hm
  refine WK_seq ?_
  refine WK_region ?_
  refine WO_box [.int .i64 p0_0, .int .i64 p0_1, .int .i64 p0_2, .int .i64 p0_3, .int .i64 p0_4, .slice a_p0_5 p0_5.length c_p0_5] rfl rfl trivial rfl rfl rfl (fun b1 => ?_)
  refine WO.cls (C' := St w0 m m [[⟨b1, 25, [.int .i64 p0_0, .int .i64 p0_1, .int .i64 p0_2, .int .i64 p0_3, .int .i64 p0_4, .slice a_p0_5 p0_5.length c_p0_5]⟩]]) (fun _ h => h) ?_
  refine WO_alloc tbok [.int .i64 0, .int .i64 0, .int .i64 0, .int .i64 0, .int .i64 0, .slice none 0 0] rfl rfl trivial rfl rfl rfl rfl (fun b2 => ?_)
  refine WO.cls (C' := St w0 m m [[⟨b1, 25, [.int .i64 p0_0, .int .i64 p0_1, .int .i64 p0_2, .int .i64 p0_3, .int .i64 p0_4, .slice a_p0_5 p0_5.length c_p0_5]⟩], [⟨b2, 25, [.int .i64 0, .int .i64 0, .int .i64 0, .int .i64 0, .int .i64 0, .slice none 0 0]⟩]]) (fun _ h => h) ?_
  refine WO_end ?_
  refine WK_seq ?_
  refine WK_region ?_
  refine WO_pure tbok 2 [(2, .pointer (some ⟨b1, 0, none⟩)), (4, .pointer (some ⟨b2, 0, none⟩)), (5, .slice a_p1 p1.length c_p1), (6, .pointer (some ⟨b1, 5, none⟩))] rfl ⟨rfl, rfl, rfl, rfl, trivial⟩ ?_
  refine WO_storeB tbok 0 [.int .i64 p0_0, .int .i64 p0_1, .int .i64 p0_2, .int .i64 p0_3, .int .i64 p0_4, .slice a_p1 p1.length c_p1] rfl rfl rfl rfl rfl rfl rfl ?_
  refine WO.cls (C' := St w0 m m [[⟨b1, 25, [.int .i64 p0_0, .int .i64 p0_1, .int .i64 p0_2, .int .i64 p0_3, .int .i64 p0_4, .slice a_p1 p1.length c_p1]⟩], [⟨b2, 25, [.int .i64 0, .int .i64 0, .int .i64 0, .int .i64 0, .int .i64 0, .slice none 0 0]⟩]]) (fun _ h => h) ?_
  refine WO_end ?_
  refine WK_seq ?_
  refine WK_region ?_
  refine WO_loadB tbok 0 rfl rfl rfl rfl (fun _ h => h) rfl rfl ?_
  refine WO_storeB tbok 1 [.int .i64 p0_0, .int .i64 p0_1, .int .i64 p0_2, .int .i64 p0_3, .int .i64 p0_4, .slice a_p1 p1.length c_p1] rfl rfl rfl rfl rfl rfl rfl ?_
  refine WO.cls (C' := St w0 m m [[⟨b1, 25, [.int .i64 p0_0, .int .i64 p0_1, .int .i64 p0_2, .int .i64 p0_3, .int .i64 p0_4, .slice a_p1 p1.length c_p1]⟩], [⟨b2, 25, [.int .i64 p0_0, .int .i64 p0_1, .int .i64 p0_2, .int .i64 p0_3, .int .i64 p0_4, .slice a_p1 p1.length c_p1]⟩]]) (fun _ h => h) ?_
  refine WO_end ?_
  cases hm
  exact WK_ret (ret_out (L := []) (RLc_cell tbok 1 rfl rfl rfl RLc_nil) (List.nil_sublist _) ⟨a_p1, p1.length, c_p1, rfl, h_p1⟩)
def terrain_filtered_Q (r : Int × Int × Int × Int × Int × List Int) : Value → Mu → List Ent → Prop := fun v m L => ∃ (a0 : Option Addr) (q0 c0 : Nat), v = .agg #[.int .i64 r.1, .int .i64 r.2.1, .int .i64 r.2.2.1, .int .i64 r.2.2.2.1, .int .i64 r.2.2.2.2.1, .slice a0 q0 c0] ∧ SlR (FE (I1 .i64)) 1 m (.slice a0 q0 c0) r.2.2.2.2.2
theorem terrain_filtered_walk {m : Mu} {p0_0 : Int} {p0_1 : Int} {p0_2 : Int} {p0_3 : Int} {p0_4 : Int} {p0_5 : List Int} {p1 : Int} {p2 : Int → Int → Option Int} {a_p0_5 : Option Addr} {q_p0_5 c_p0_5 : Nat} {p2v : Value} (h_p0_5 : SlR (FE (I1 .i64)) 1 m (.slice a_p0_5 q_p0_5 c_p0_5) p0_5) (hp2 : ∀ (m1 : Mu), Le m m1 → ∀ (u1 : Int), ∀ (u2 : Int), ∀ (r : Int), p2 u1 u2 = some r → SpecV Try.prog p2v [.int .i64 u1, .int .i64 u2] m1 (fun v _ _ => v = .int .i64 r)) {r : Int × Int × Int × Int × Int × List Int} (hm : terrain_filtered p0_0 p0_1 p0_2 p0_3 p0_4 p0_5 p1 p2 = some r) :
    Go.E.Spec Try.prog 52 [.agg #[.int .i64 p0_0, .int .i64 p0_1, .int .i64 p0_2, .int .i64 p0_3, .int .i64 p0_4, .slice a_p0_5 q_p0_5 c_p0_5], .int .i64 p1, p2v] m (terrain_filtered_Q r) := by
  refine Spec_enter Try.func52 rfl rfl rfl (fun w0 => ?_)
  refine WK.sub (e' := [(0, .agg #[.int .i64 p0_0, .int .i64 p0_1, .int .i64 p0_2, .int .i64 p0_3, .int .i64 p0_4, .slice a_p0_5 q_p0_5 c_p0_5]), (1, .int .i64 p1), (2, p2v)]) ⟨rfl, rfl, rfl, trivial⟩ ?_
  obtain rfl := SlR.qlen h_p0_5
  refine WK.sub (e' := [(0, .agg #[.int .i64 p0_0, .int .i64 p0_1, .int .i64 p0_2, .int .i64 p0_3, .int .i64 p0_4, .slice a_p0_5 p0_5.length c_p0_5]), (1, .int .i64 p1), (2, p2v)]) ⟨rfl, rfl, rfl, trivial⟩ ?_
  unfold terrain_filtered at hm
  refine WK_seq ?_
  refine WK_region ?_
  refine WO_box [.int .i64 p0_0, .int .i64 p0_1, .int .i64 p0_2, .int .i64 p0_3, .int .i64 p0_4, .slice a_p0_5 p0_5.length c_p0_5] rfl rfl trivial rfl rfl rfl (fun b1 => ?_)
  refine WO.cls (C' := St w0 m m [[⟨b1, 25, [.int .i64 p0_0, .int .i64 p0_1, .int .i64 p0_2, .int .i64 p0_3, .int .i64 p0_4, .slice a_p0_5 p0_5.length c_p0_5]⟩]]) (fun _ h => h) ?_
  refine WO_alloc tbok [.int .i64 0, .int .i64 0, .int .i64 0, .int .i64 0, .int .i64 0, .slice none 0 0] rfl rfl trivial rfl rfl rfl rfl (fun b2 => ?_)
  refine WO.cls (C' := St w0 m m [[⟨b1, 25, [.int .i64 p0_0, .int .i64 p0_1, .int .i64 p0_2, .int .i64 p0_3, .int .i64 p0_4, .slice a_p0_5 p0_5.length c_p0_5]⟩], [⟨b2, 25, [.int .i64 0, .int .i64 0, .int .i64 0, .int .i64 0, .int .i64 0, .slice none 0 0]⟩]]) (fun _ h => h) ?_
  refine WO_end ?_
  refine WK_seq ?_
  refine WK_region ?_
  refine WO_pure tbok 1 [(1, .int .i64 p1), (2, p2v), (3, .pointer (some ⟨b1, 0, none⟩)), (6, .pointer (some ⟨b2, 0, none⟩)), (15, .pointer (some ⟨b1, 5, none⟩))] rfl ⟨rfl, rfl, rfl, rfl, rfl, trivial⟩ ?_
  refine WO_loadB tbok 0 rfl rfl rfl rfl (fun _ h => h) rfl rfl ?_
  refine WO_pure tbok 1 [(1, .int .i64 p1), (2, p2v), (3, .pointer (some ⟨b1, 0, none⟩)), (6, .pointer (some ⟨b2, 0, none⟩)), (17, .int .i64 (p0_5.length : Int))] rfl ⟨rfl, rfl, rfl, rfl, rfl, trivial⟩ ?_
  obtain ⟨y_1, hc3, hm⟩ := bind_some hm
  refine WO_call1 (terrain_blank_Q y_1) rfl rfl trivial rfl rfl rfl rfl ⟨42, #[], #[], rfl, callable_42, fun w hw => ⟨_, hw.sat, terrain_blank_walk hc3⟩⟩ (fun v7 L6 hq => ?_)
  obtain ⟨a4, qa4, c5, rfl, hL6⟩ := hq
  obtain rfl := OwnE.qlen hL6
  refine WO.cls (C' := St w0 m m [[⟨b1, 25, [.int .i64 p0_0, .int .i64 p0_1, .int .i64 p0_2, .int .i64 p0_3, .int .i64 p0_4, .slice a_p0_5 p0_5.length c_p0_5]⟩], [⟨b2, 25, [.int .i64 0, .int .i64 0, .int .i64 0, .int .i64 0, .int .i64 0, .slice none 0 0]⟩], L6]) (fun _ h => h) ?_
  refine WO_pure tbok 1 [(1, .int .i64 p1), (2, p2v), (3, .pointer (some ⟨b1, 0, none⟩)), (6, .pointer (some ⟨b2, 0, none⟩)), (7, .slice a4 ((y_1).length) c5)] rfl ⟨rfl, rfl, rfl, rfl, rfl, trivial⟩ ?_
  refine WO_end ?_
  refine WK_seq ?_
  refine WK_seq ?_
  refine WK_region ?_
  refine WO_pure tbok 1 [(1, .int .i64 p1), (2, p2v), (3, .pointer (some ⟨b1, 0, none⟩)), (6, .pointer (some ⟨b2, 0, none⟩)), (7, .slice a4 ((y_1).length) c5), (19, .pointer (some ⟨b1, 5, none⟩))] rfl ⟨rfl, rfl, rfl, rfl, rfl, rfl, trivial⟩ ?_
  refine WO_loadB tbok 0 rfl rfl rfl rfl (fun _ h => h) rfl rfl ?_
  refine WO_pure tbok 2 [(1, .int .i64 p1), (2, p2v), (3, .pointer (some ⟨b1, 0, none⟩)), (6, .pointer (some ⟨b2, 0, none⟩)), (7, .slice a4 ((y_1).length) c5), (20, .slice a_p0_5 p0_5.length c_p0_5), (21, .int .i64 (p0_5.length : Int)), (22, .int .i64 0)] rfl ⟨rfl, rfl, rfl, rfl, rfl, rfl, rfl, rfl, trivial⟩ ?_
  refine WO_end ?_
  obtain ⟨x10, hx11, hm⟩ := bind_some hm
  refine WK_join (β := (List Int) × (List Ent)) (fun p => p.1 = x10 ∧ OwnE 3 1 (I1 .i64) (.slice a4 ((y_1).length) c5) p.1 p.2) (fun p => [(3, .pointer (some ⟨b1, 0, none⟩)), (6, .pointer (some ⟨b2, 0, none⟩)), (7, .slice a4 ((y_1).length) c5)]) (fun p => St w0 m m [[⟨b1, 25, [.int .i64 p0_0, .int .i64 p0_1, .int .i64 p0_2, .int .i64 p0_3, .int .i64 p0_4, .slice a_p0_5 p0_5.length c_p0_5]⟩], [⟨b2, 25, [.int .i64 0, .int .i64 0, .int .i64 0, .int .i64 0, .int .i64 0, .slice none 0 0]⟩], p.2]) ?_ (fun hk12 => ?_)
  · rintro ⟨l_4, L9⟩ ⟨hq18, hL9⟩
    subst hq18
    refine WK.sub (e' := [(3, .pointer (some ⟨b1, 0, none⟩)), (6, .pointer (some ⟨b2, 0, none⟩)), (7, .slice a4 ((y_1).length) c5)]) ⟨rfl, rfl, rfl, trivial⟩ (WK.cls (C' := St w0 m m [[⟨b1, 25, [.int .i64 p0_0, .int .i64 p0_1, .int .i64 p0_2, .int .i64 p0_3, .int .i64 p0_4, .slice a_p0_5 p0_5.length c_p0_5]⟩], [⟨b2, 25, [.int .i64 0, .int .i64 0, .int .i64 0, .int .i64 0, .int .i64 0, .slice none 0 0]⟩], L9]) (fun _ h => h) ?_)
    refine WK_seq ?_
    refine WK_region ?_
    refine WO_loadB tbok 0 rfl rfl rfl rfl (fun _ h => h) rfl rfl ?_
    refine WO_pure tbok 1 [(6, .pointer (some ⟨b2, 0, none⟩)), (94, .agg #[.int .i64 p0_0, .int .i64 p0_1, .int .i64 p0_2, .int .i64 p0_3, .int .i64 p0_4, .slice a_p0_5 p0_5.length c_p0_5]), (95, .slice a4 ((y_1).length) c5)] rfl ⟨rfl, rfl, rfl, trivial⟩ ?_
    refine WO_freeze 2 rfl (fun m19 hle20 hmm21 => ?_)
    refine WO.cls (C' := St w0 m m19 [[⟨b1, 25, [.int .i64 p0_0, .int .i64 p0_1, .int .i64 p0_2, .int .i64 p0_3, .int .i64 p0_4, .slice a_p0_5 p0_5.length c_p0_5]⟩], [⟨b2, 25, [.int .i64 0, .int .i64 0, .int .i64 0, .int .i64 0, .int .i64 0, .slice none 0 0]⟩], []]) (fun _ h => h) ?_
    obtain ⟨⟨y_5, y_6, y_7, y_8, y_9, y_10⟩, hc22, hm⟩ := bind_some hm
    refine WO_call2 (terrain_with_Q (y_5, y_6, y_7, y_8, y_9, y_10)) rfl rfl trivial rfl rfl rfl rfl ⟨44, #[], #[], rfl, callable_44, terrain_with_walk (h_p0_5.mono (mono_FE _) hle20) (OwnE.rd (E := (I1 .i64)) (k := 1) (fun _ => rfl) hL9 hmm21) hc22⟩ (fun v26 m27 L25 hle28 hq => ?_)
    obtain ⟨a23, qa23, c24, rfl, h29⟩ := hq
    obtain rfl := SlR.qlen h29
    refine WO.cls (C' := St w0 m m27 [[⟨b1, 25, [.int .i64 p0_0, .int .i64 p0_1, .int .i64 p0_2, .int .i64 p0_3, .int .i64 p0_4, .slice a_p0_5 p0_5.length c_p0_5]⟩], [⟨b2, 25, [.int .i64 0, .int .i64 0, .int .i64 0, .int .i64 0, .int .i64 0, .slice none 0 0]⟩], [], L25]) (fun _ h => h.sub (by simp)) ?_
    refine WO_storeB tbok 1 [.int .i64 y_5, .int .i64 y_6, .int .i64 y_7, .int .i64 y_8, .int .i64 y_9, .slice a23 ((y_10).length) c24] rfl rfl rfl rfl rfl rfl rfl ?_
    refine WO.cls (C' := St w0 m m27 [[⟨b1, 25, [.int .i64 p0_0, .int .i64 p0_1, .int .i64 p0_2, .int .i64 p0_3, .int .i64 p0_4, .slice a_p0_5 p0_5.length c_p0_5]⟩], [⟨b2, 25, [.int .i64 y_5, .int .i64 y_6, .int .i64 y_7, .int .i64 y_8, .int .i64 y_9, .slice a23 ((y_10).length) c24]⟩], [], L25]) (fun _ h => h) ?_
    refine WO_end ?_
    cases hm
    exact WK_ret (ret_out (L := []) (RLc_cell tbok 1 rfl rfl rfl RLc_nil) (List.nil_sublist _) ⟨a23, _, c24, rfl, h29⟩)
  · refine WK_block ?_
    refine WK_loop (S := List Int × Int) (G := List Ent) (fun s => terrain_filtered_s1 p0_3 p0_4 p0_5 p1 p2 s.1 s.2) (fun s g => [(1, .int .i64 p1), (2, p2v), (3, .pointer (some ⟨b1, 0, none⟩)), (6, .pointer (some ⟨b2, 0, none⟩)), (7, .slice a4 ((y_1).length) c5), (20, .slice a_p0_5 p0_5.length c_p0_5), (21, .int .i64 (p0_5.length : Int)), (22, .int .i64 s.2)]) (fun s g => St w0 m m [[⟨b1, 25, [.int .i64 p0_0, .int .i64 p0_1, .int .i64 p0_2, .int .i64 p0_3, .int .i64 p0_4, .slice a_p0_5 p0_5.length c_p0_5]⟩], [⟨b2, 25, [.int .i64 0, .int .i64 0, .int .i64 0, .int .i64 0, .int .i64 0, .slice none 0 0]⟩], g]) (fun s g => OwnE 3 1 (I1 .i64) (.slice a4 ((y_1).length) c5) s.1 g) FUEL (y_1, 0) L6 x10 hx11 hL6 ⟨rfl, rfl, rfl, rfl, rfl, rfl, rfl, rfl, trivial⟩ (fun _ h => h) ?_
    rintro ⟨l_2, s_3⟩ L8 o14 fl15 hm13 hL8 hn16 hd17
    have hm13 : terrain_filtered_s1 p0_3 p0_4 p0_5 p1 p2 l_2 s_3 = some o14 := hm13
    unfold terrain_filtered_s1 at hm13
    refine WK.sub (e' := [(1, .int .i64 p1), (2, p2v), (3, .pointer (some ⟨b1, 0, none⟩)), (6, .pointer (some ⟨b2, 0, none⟩)), (7, .slice a4 ((y_1).length) c5), (20, .slice a_p0_5 p0_5.length c_p0_5), (21, .int .i64 (p0_5.length : Int)), (22, .int .i64 s_3)]) ⟨rfl, rfl, rfl, rfl, rfl, rfl, rfl, rfl, trivial⟩ (WK.cls (C' := St w0 m m [[⟨b1, 25, [.int .i64 p0_0, .int .i64 p0_1, .int .i64 p0_2, .int .i64 p0_3, .int .i64 p0_4, .slice a_p0_5 p0_5.length c_p0_5]⟩], [⟨b2, 25, [.int .i64 0, .int .i64 0, .int .i64 0, .int .i64 0, .int .i64 0, .slice none 0 0]⟩], L8]) (fun _ h => h) ?_)
    refine WK_seq ?_
    refine WK_region ?_
    refine WO_pure tbok 1 [(1, .int .i64 p1), (2, p2v), (3, .pointer (some ⟨b1, 0, none⟩)), (6, .pointer (some ⟨b2, 0, none⟩)), (7, .slice a4 ((y_1).length) c5), (20, .slice a_p0_5 p0_5.length c_p0_5), (21, .int .i64 (p0_5.length : Int)), (22, .int .i64 s_3), (23, .bool (decide (s_3 < (p0_5.length : Int))))] rfl ⟨rfl, rfl, rfl, rfl, rfl, rfl, rfl, rfl, rfl, trivial⟩ ?_
    refine WO_end ?_
    refine WK_seq ?_
    refine WK_cond (b := decide (s_3 < (p0_5.length : Int))) rfl (fun hb30 => ?_) (fun hb30 => ?_)
    · have hm13 := ifT hb30 hm13
      refine WK_skip ?_
      refine WK_seq ?_
      refine WK_block ?_
      refine WK_seq ?_
      refine WK_region ?_
      refine WO_pure tbok 1 [(1, .int .i64 p1), (2, p2v), (3, .pointer (some ⟨b1, 0, none⟩)), (6, .pointer (some ⟨b2, 0, none⟩)), (7, .slice a4 ((y_1).length) c5), (20, .slice a_p0_5 p0_5.length c_p0_5), (21, .int .i64 (p0_5.length : Int)), (22, .int .i64 s_3), (24, .int .i64 s_3)] rfl ⟨rfl, rfl, rfl, rfl, rfl, rfl, rfl, rfl, rfl, trivial⟩ ?_
      obtain ⟨v_11, hy31, hm13⟩ := bind_some hm13
      obtain ⟨hc32, hy31⟩ := ix_some hy31
      refine WO_index tbok rfl rfl rfl rfl rfl rfl rfl rfl (SlR.addr h_p0_5) hc32 ?_
      refine WO_loadE tbok rfl rfl rfl rfl (fun _ h => St.sat h) h_p0_5 hy31 rfl ?_
      refine WO_pure tbok 2 [(1, .int .i64 p1), (2, p2v), (3, .pointer (some ⟨b1, 0, none⟩)), (6, .pointer (some ⟨b2, 0, none⟩)), (7, .slice a4 ((y_1).length) c5), (8, .int .i64 s_3), (9, .int .i64 v_11), (20, .slice a_p0_5 p0_5.length c_p0_5), (21, .int .i64 (p0_5.length : Int)), (22, .int .i64 s_3)] rfl ⟨rfl, rfl, rfl, rfl, rfl, rfl, rfl, rfl, rfl, rfl, trivial⟩ ?_
      refine WO_end ?_
      refine WK_seq ?_
      refine WK_seq ?_
      refine WK_region ?_
      refine WO_pure tbok 2 [(1, .int .i64 p1), (2, p2v), (3, .pointer (some ⟨b1, 0, none⟩)), (6, .pointer (some ⟨b2, 0, none⟩)), (7, .slice a4 ((y_1).length) c5), (8, .int .i64 s_3), (9, .int .i64 v_11), (20, .slice a_p0_5 p0_5.length c_p0_5), (21, .int .i64 (p0_5.length : Int)), (22, .int .i64 s_3), (28, .bool (v_11 == (-2147483648)))] rfl ⟨rfl, rfl, rfl, rfl, rfl, rfl, rfl, rfl, rfl, rfl, rfl, trivial⟩ ?_
      refine WO_end ?_
      refine WK_cond (b := v_11 == (-2147483648)) rfl (fun hb33 => ?_) (fun hb33 => ?_)
      · have hm13 := ifT hb33 hm13
        refine WK_exit rfl ?_
        refine WK_region ?_
        refine WO_pure tbok 2 [(1, .int .i64 p1), (2, p2v), (3, .pointer (some ⟨b1, 0, none⟩)), (6, .pointer (some ⟨b2, 0, none⟩)), (7, .slice a4 ((y_1).length) c5), (20, .slice a_p0_5 p0_5.length c_p0_5), (21, .int .i64 (p0_5.length : Int)), (22, .int .i64 (w64 (s_3 + 1)))] rfl ⟨rfl, rfl, rfl, rfl, rfl, rfl, rfl, rfl, trivial⟩ ?_
        refine WO_end ?_
        cases hm13
        refine WK.sub ?_ (WK.cls (fun _ h => h) (hn16 _ L8 rfl hL8))
        exact ⟨rfl, rfl, rfl, rfl, rfl, rfl, rfl, rfl, trivial⟩
      · have hm13 := ifF hb33 hm13
        refine WK_skip ?_
        refine WK_seq ?_
        refine WK_region ?_
        refine WO_pure tbok 3 [(1, .int .i64 p1), (2, p2v), (3, .pointer (some ⟨b1, 0, none⟩)), (6, .pointer (some ⟨b2, 0, none⟩)), (7, .slice a4 ((y_1).length) c5), (8, .int .i64 s_3), (20, .slice a_p0_5 p0_5.length c_p0_5), (21, .int .i64 (p0_5.length : Int)), (22, .int .i64 s_3), (29, .slice a4 ((y_1).length) c5), (30, .int .i64 s_3), (31, .int .i64 v_11)] rfl ⟨rfl, rfl, rfl, rfl, rfl, rfl, rfl, rfl, rfl, rfl, rfl, rfl, trivial⟩ ?_
        obtain ⟨hc34, hm13⟩ := chk_some hm13
        refine WO_index tbok rfl rfl rfl rfl rfl rfl rfl rfl (OwnE.addr hL8) (by simpa using hc34) ?_
        refine WO_storeO (E := (I1 .i64)) tbok (fun _ => rfl) 2 v_11 rfl rfl rfl rfl rfl hL8 rfl (by simpa using idx_lt hc34) rfl rfl rfl rfl (fun L35 hL35 => ?_)
        refine WO.cls (C' := St w0 m m [[⟨b1, 25, [.int .i64 p0_0, .int .i64 p0_1, .int .i64 p0_2, .int .i64 p0_3, .int .i64 p0_4, .slice a_p0_5 p0_5.length c_p0_5]⟩], [⟨b2, 25, [.int .i64 0, .int .i64 0, .int .i64 0, .int .i64 0, .int .i64 0, .slice none 0 0]⟩], L35]) (fun _ h => h) ?_
        refine WO_end ?_
        refine WK_seq ?_
        refine WK_draw 10 [0, 1, 2, 3, 4, 5, 6, 7, 8, 9] follows_ok (by kernel_rfl) St_closed ?_
        refine WO_pure tbok 2 [(1, .int .i64 p1), (2, p2v), (3, .pointer (some ⟨b1, 0, none⟩)), (6, .pointer (some ⟨b2, 0, none⟩)), (7, .slice a4 ((y_1).length) c5), (8, .int .i64 s_3), (20, .slice a_p0_5 p0_5.length c_p0_5), (21, .int .i64 (p0_5.length : Int)), (22, .int .i64 s_3), (33, .int .i64 s_3), (34, .pointer (some ⟨b1, 3, none⟩))] rfl ⟨rfl, rfl, rfl, rfl, rfl, rfl, rfl, rfl, rfl, rfl, rfl, trivial⟩ ?_
        refine WO_loadB tbok 0 rfl rfl rfl rfl (fun _ h => h) rfl rfl ?_
        obtain ⟨hc36, hm13⟩ := chk_some hm13
        refine WO_rem rfl rfl rfl rfl rfl hc36 ?_
        refine WO_pure tbok 2 [(1, .int .i64 p1), (2, p2v), (3, .pointer (some ⟨b1, 0, none⟩)), (6, .pointer (some ⟨b2, 0, none⟩)), (7, .slice a4 ((y_1).length) c5), (8, .int .i64 s_3), (20, .slice a_p0_5 p0_5.length c_p0_5), (21, .int .i64 (p0_5.length : Int)), (22, .int .i64 s_3), (36, .int .i64 (Int.tmod s_3 p0_3)), (37, .int .i64 s_3), (38, .pointer (some ⟨b1, 3, none⟩))] rfl ⟨rfl, rfl, rfl, rfl, rfl, rfl, rfl, rfl, rfl, rfl, rfl, rfl, trivial⟩ ?_
        refine WO_loadB tbok 0 rfl rfl rfl rfl (fun _ h => h) rfl rfl ?_
        obtain ⟨hc37, hm13⟩ := chk_some hm13
        refine WO_quo rfl rfl rfl rfl rfl hc37 ?_
        refine WO_pure tbok 2 [(1, .int .i64 p1), (2, p2v), (3, .pointer (some ⟨b1, 0, none⟩)), (6, .pointer (some ⟨b2, 0, none⟩)), (7, .slice a4 ((y_1).length) c5), (8, .int .i64 s_3), (10, .int .i64 (Int.tmod s_3 p0_3)), (11, .int .i64 (w64 (Int.tdiv s_3 p0_3))), (20, .slice a_p0_5 p0_5.length c_p0_5), (21, .int .i64 (p0_5.length : Int)), (22, .int .i64 s_3)] rfl ⟨rfl, rfl, rfl, rfl, rfl, rfl, rfl, rfl, rfl, rfl, rfl, trivial⟩ ?_
        refine WO_tail ?_
        refine WO_end ?_
        refine WK_seq ?_
        refine WK_region ?_
        refine WO_pure tbok 5 [(1, .int .i64 p1), (2, p2v), (3, .pointer (some ⟨b1, 0, none⟩)), (6, .pointer (some ⟨b2, 0, none⟩)), (7, .slice a4 ((y_1).length) c5), (8, .int .i64 s_3), (10, .int .i64 (Int.tmod s_3 p0_3)), (11, .int .i64 (w64 (Int.tdiv s_3 p0_3))), (12, .int .i64 (if 0 < (w64 ((w64 (Int.tdiv s_3 p0_3)) - p1)) then (w64 ((w64 (Int.tdiv s_3 p0_3)) - p1)) else 0)), (20, .slice a_p0_5 p0_5.length c_p0_5), (21, .int .i64 (p0_5.length : Int)), (22, .int .i64 s_3)] rfl ⟨rfl, rfl, rfl, rfl, rfl, rfl, rfl, rfl, rfl, rfl, rfl, rfl, trivial⟩ ?_
        refine WO_end ?_
        obtain ⟨x40, hx41, hm13⟩ := bind_some hm13
        refine WK_join (β := (List Int) × (List Ent)) (fun p => p.1 = x40 ∧ OwnE 3 1 (I1 .i64) (.slice a4 ((y_1).length) c5) p.1 p.2) (fun p => [(1, .int .i64 p1), (2, p2v), (3, .pointer (some ⟨b1, 0, none⟩)), (6, .pointer (some ⟨b2, 0, none⟩)), (7, .slice a4 ((y_1).length) c5), (20, .slice a_p0_5 p0_5.length c_p0_5), (21, .int .i64 (p0_5.length : Int)), (22, .int .i64 s_3)]) (fun p => St w0 m m [[⟨b1, 25, [.int .i64 p0_0, .int .i64 p0_1, .int .i64 p0_2, .int .i64 p0_3, .int .i64 p0_4, .slice a_p0_5 p0_5.length c_p0_5]⟩], [⟨b2, 25, [.int .i64 0, .int .i64 0, .int .i64 0, .int .i64 0, .int .i64 0, .slice none 0 0]⟩], p.2]) ?_ (fun hk42 => ?_)
        · rintro ⟨l_14, L39⟩ ⟨hq48, hL39⟩
          subst hq48
          refine WK.sub (e' := [(1, .int .i64 p1), (2, p2v), (3, .pointer (some ⟨b1, 0, none⟩)), (6, .pointer (some ⟨b2, 0, none⟩)), (7, .slice a4 ((y_1).length) c5), (20, .slice a_p0_5 p0_5.length c_p0_5), (21, .int .i64 (p0_5.length : Int)), (22, .int .i64 s_3)]) ⟨rfl, rfl, rfl, rfl, rfl, rfl, rfl, rfl, trivial⟩ (WK.cls (C' := St w0 m m [[⟨b1, 25, [.int .i64 p0_0, .int .i64 p0_1, .int .i64 p0_2, .int .i64 p0_3, .int .i64 p0_4, .slice a_p0_5 p0_5.length c_p0_5]⟩], [⟨b2, 25, [.int .i64 0, .int .i64 0, .int .i64 0, .int .i64 0, .int .i64 0, .slice none 0 0]⟩], L39]) (fun _ h => h) ?_)
          refine WK_blk ?_
          refine WK_region ?_
          refine WO_pure tbok 2 [(1, .int .i64 p1), (2, p2v), (3, .pointer (some ⟨b1, 0, none⟩)), (6, .pointer (some ⟨b2, 0, none⟩)), (7, .slice a4 ((y_1).length) c5), (20, .slice a_p0_5 p0_5.length c_p0_5), (21, .int .i64 (p0_5.length : Int)), (22, .int .i64 (w64 (s_3 + 1)))] rfl ⟨rfl, rfl, rfl, rfl, rfl, rfl, rfl, rfl, trivial⟩ ?_
          refine WO_end ?_
          cases hm13
          refine WK.sub ?_ (WK.cls (fun _ h => h) (hn16 _ L39 rfl hL39))
          exact ⟨rfl, rfl, rfl, rfl, rfl, rfl, rfl, rfl, trivial⟩
        · refine WK_block ?_
          refine WK_loop (S := List Int × Int) (G := List Ent) (fun s => terrain_filtered_s2 p0_3 p0_4 p0_5 p1 p2 s_3 s.1 s.2) (fun s g => [(1, .int .i64 p1), (2, p2v), (3, .pointer (some ⟨b1, 0, none⟩)), (6, .pointer (some ⟨b2, 0, none⟩)), (7, .slice a4 ((y_1).length) c5), (8, .int .i64 s_3), (10, .int .i64 (Int.tmod s_3 p0_3)), (11, .int .i64 (w64 (Int.tdiv s_3 p0_3))), (12, .int .i64 s.2), (20, .slice a_p0_5 p0_5.length c_p0_5), (21, .int .i64 (p0_5.length : Int)), (22, .int .i64 s_3)]) (fun s g => St w0 m m [[⟨b1, 25, [.int .i64 p0_0, .int .i64 p0_1, .int .i64 p0_2, .int .i64 p0_3, .int .i64 p0_4, .slice a_p0_5 p0_5.length c_p0_5]⟩], [⟨b2, 25, [.int .i64 0, .int .i64 0, .int .i64 0, .int .i64 0, .int .i64 0, .slice none 0 0]⟩], g]) (fun s g => OwnE 3 1 (I1 .i64) (.slice a4 ((y_1).length) c5) s.1 g) FUEL ((l_2.set s_3.toNat v_11), (if 0 < (w64 ((w64 (Int.tdiv s_3 p0_3)) - p1)) then (w64 ((w64 (Int.tdiv s_3 p0_3)) - p1)) else 0)) L35 x40 hx41 hL35 ⟨rfl, rfl, rfl, rfl, rfl, rfl, rfl, rfl, rfl, rfl, rfl, rfl, trivial⟩ (fun _ h => h) ?_
          rintro ⟨l_12, s_13⟩ L38 o44 fl45 hm43 hL38 hn46 hd47
          have hm43 : terrain_filtered_s2 p0_3 p0_4 p0_5 p1 p2 s_3 l_12 s_13 = some o44 := hm43
          unfold terrain_filtered_s2 at hm43
          refine WK.sub (e' := [(1, .int .i64 p1), (2, p2v), (3, .pointer (some ⟨b1, 0, none⟩)), (6, .pointer (some ⟨b2, 0, none⟩)), (7, .slice a4 ((y_1).length) c5), (8, .int .i64 s_3), (10, .int .i64 (Int.tmod s_3 p0_3)), (11, .int .i64 (w64 (Int.tdiv s_3 p0_3))), (12, .int .i64 s_13), (20, .slice a_p0_5 p0_5.length c_p0_5), (21, .int .i64 (p0_5.length : Int)), (22, .int .i64 s_3)]) ⟨rfl, rfl, rfl, rfl, rfl, rfl, rfl, rfl, rfl, rfl, rfl, rfl, trivial⟩ (WK.cls (C' := St w0 m m [[⟨b1, 25, [.int .i64 p0_0, .int .i64 p0_1, .int .i64 p0_2, .int .i64 p0_3, .int .i64 p0_4, .slice a_p0_5 p0_5.length c_p0_5]⟩], [⟨b2, 25, [.int .i64 0, .int .i64 0, .int .i64 0, .int .i64 0, .int .i64 0, .slice none 0 0]⟩], L38]) (fun _ h => h) ?_)
          refine WK_seq ?_
          refine WK_seq ?_
          refine WK_region ?_
          refine WO_pure tbok 2 [(1, .int .i64 p1), (2, p2v), (3, .pointer (some ⟨b1, 0, none⟩)), (6, .pointer (some ⟨b2, 0, none⟩)), (7, .slice a4 ((y_1).length) c5), (8, .int .i64 s_3), (10, .int .i64 (Int.tmod s_3 p0_3)), (11, .int .i64 (w64 (Int.tdiv s_3 p0_3))), (12, .int .i64 s_13), (20, .slice a_p0_5 p0_5.length c_p0_5), (21, .int .i64 (p0_5.length : Int)), (22, .int .i64 s_3), (45, .int .i64 s_13), (46, .pointer (some ⟨b1, 4, none⟩))] rfl ⟨rfl, rfl, rfl, rfl, rfl, rfl, rfl, rfl, rfl, rfl, rfl, rfl, rfl, rfl, trivial⟩ ?_
          refine WO_loadB tbok 0 rfl rfl rfl rfl (fun _ h => h) rfl rfl ?_
          refine WO_pure tbok 6 [(1, .int .i64 p1), (2, p2v), (3, .pointer (some ⟨b1, 0, none⟩)), (6, .pointer (some ⟨b2, 0, none⟩)), (7, .slice a4 ((y_1).length) c5), (8, .int .i64 s_3), (10, .int .i64 (Int.tmod s_3 p0_3)), (11, .int .i64 (w64 (Int.tdiv s_3 p0_3))), (12, .int .i64 s_13), (20, .slice a_p0_5 p0_5.length c_p0_5), (21, .int .i64 (p0_5.length : Int)), (22, .int .i64 s_3), (53, .bool (decide (s_13 ≤ (if (w64 ((w64 (Int.tdiv s_3 p0_3)) + p1)) < (w64 (p0_4 - 1)) then (w64 ((w64 (Int.tdiv s_3 p0_3)) + p1)) else (w64 (p0_4 - 1))))))] rfl ⟨rfl, rfl, rfl, rfl, rfl, rfl, rfl, rfl, rfl, rfl, rfl, rfl, rfl, trivial⟩ ?_
          refine WO_end ?_
          refine WK_cond (b := decide (s_13 ≤ (if (w64 ((w64 (Int.tdiv s_3 p0_3)) + p1)) < (w64 (p0_4 - 1)) then (w64 ((w64 (Int.tdiv s_3 p0_3)) + p1)) else (w64 (p0_4 - 1))))) rfl (fun hb49 => ?_) (fun hb49 => ?_)
          · have hm43 := ifT hb49 hm43
            refine WK_skip ?_
            refine WK_seq ?_
            refine WK_block ?_
            refine WK_seq ?_
            refine WK_region ?_
            refine WO_pure tbok 5 [(1, .int .i64 p1), (2, p2v), (3, .pointer (some ⟨b1, 0, none⟩)), (6, .pointer (some ⟨b2, 0, none⟩)), (7, .slice a4 ((y_1).length) c5), (8, .int .i64 s_3), (10, .int .i64 (Int.tmod s_3 p0_3)), (11, .int .i64 (w64 (Int.tdiv s_3 p0_3))), (12, .int .i64 s_13), (13, .int .i64 (if 0 < (w64 ((Int.tmod s_3 p0_3) - p1)) then (w64 ((Int.tmod s_3 p0_3) - p1)) else 0)), (20, .slice a_p0_5 p0_5.length c_p0_5), (21, .int .i64 (p0_5.length : Int)), (22, .int .i64 s_3)] rfl ⟨rfl, rfl, rfl, rfl, rfl, rfl, rfl, rfl, rfl, rfl, rfl, rfl, rfl, trivial⟩ ?_
            refine WO_end ?_
            obtain ⟨x52, hx53, hm43⟩ := bind_some hm43
            refine WK_join (β := (List Int) × (List Ent)) (fun p => p.1 = x52 ∧ OwnE 3 1 (I1 .i64) (.slice a4 ((y_1).length) c5) p.1 p.2) (fun p => [(1, .int .i64 p1), (2, p2v), (3, .pointer (some ⟨b1, 0, none⟩)), (6, .pointer (some ⟨b2, 0, none⟩)), (7, .slice a4 ((y_1).length) c5), (8, .int .i64 s_3), (10, .int .i64 (Int.tmod s_3 p0_3)), (11, .int .i64 (w64 (Int.tdiv s_3 p0_3))), (12, .int .i64 s_13), (20, .slice a_p0_5 p0_5.length c_p0_5), (21, .int .i64 (p0_5.length : Int)), (22, .int .i64 s_3)]) (fun p => St w0 m m [[⟨b1, 25, [.int .i64 p0_0, .int .i64 p0_1, .int .i64 p0_2, .int .i64 p0_3, .int .i64 p0_4, .slice a_p0_5 p0_5.length c_p0_5]⟩], [⟨b2, 25, [.int .i64 0, .int .i64 0, .int .i64 0, .int .i64 0, .int .i64 0, .slice none 0 0]⟩], p.2]) ?_ (fun hk54 => ?_)
            · rintro ⟨l_17, L51⟩ ⟨hq60, hL51⟩
              subst hq60
              refine WK.sub (e' := [(1, .int .i64 p1), (2, p2v), (3, .pointer (some ⟨b1, 0, none⟩)), (6, .pointer (some ⟨b2, 0, none⟩)), (7, .slice a4 ((y_1).length) c5), (8, .int .i64 s_3), (10, .int .i64 (Int.tmod s_3 p0_3)), (11, .int .i64 (w64 (Int.tdiv s_3 p0_3))), (12, .int .i64 s_13), (20, .slice a_p0_5 p0_5.length c_p0_5), (21, .int .i64 (p0_5.length : Int)), (22, .int .i64 s_3)]) ⟨rfl, rfl, rfl, rfl, rfl, rfl, rfl, rfl, rfl, rfl, rfl, rfl, trivial⟩ (WK.cls (C' := St w0 m m [[⟨b1, 25, [.int .i64 p0_0, .int .i64 p0_1, .int .i64 p0_2, .int .i64 p0_3, .int .i64 p0_4, .slice a_p0_5 p0_5.length c_p0_5]⟩], [⟨b2, 25, [.int .i64 0, .int .i64 0, .int .i64 0, .int .i64 0, .int .i64 0, .slice none 0 0]⟩], L51]) (fun _ h => h) ?_)
              refine WK_blk ?_
              refine WK_region ?_
              refine WO_pure tbok 3 [(1, .int .i64 p1), (2, p2v), (3, .pointer (some ⟨b1, 0, none⟩)), (6, .pointer (some ⟨b2, 0, none⟩)), (7, .slice a4 ((y_1).length) c5), (8, .int .i64 s_3), (10, .int .i64 (Int.tmod s_3 p0_3)), (11, .int .i64 (w64 (Int.tdiv s_3 p0_3))), (12, .int .i64 (w64 (s_13 + 1))), (20, .slice a_p0_5 p0_5.length c_p0_5), (21, .int .i64 (p0_5.length : Int)), (22, .int .i64 s_3)] rfl ⟨rfl, rfl, rfl, rfl, rfl, rfl, rfl, rfl, rfl, rfl, rfl, rfl, trivial⟩ ?_
              refine WO_end ?_
              cases hm43
              refine WK.sub ?_ (WK.cls (fun _ h => h) (hn46 _ L51 rfl hL51))
              exact ⟨rfl, rfl, rfl, rfl, rfl, rfl, rfl, rfl, rfl, rfl, rfl, rfl, trivial⟩
            · refine WK_block ?_
              refine WK_loop (S := List Int × Int) (G := List Ent) (fun s => terrain_filtered_s3 p0_3 p0_5 p1 p2 s_3 s_13 s.1 s.2) (fun s g => [(1, .int .i64 p1), (2, p2v), (3, .pointer (some ⟨b1, 0, none⟩)), (6, .pointer (some ⟨b2, 0, none⟩)), (7, .slice a4 ((y_1).length) c5), (8, .int .i64 s_3), (10, .int .i64 (Int.tmod s_3 p0_3)), (11, .int .i64 (w64 (Int.tdiv s_3 p0_3))), (12, .int .i64 s_13), (13, .int .i64 s.2), (20, .slice a_p0_5 p0_5.length c_p0_5), (21, .int .i64 (p0_5.length : Int)), (22, .int .i64 s_3)]) (fun s g => St w0 m m [[⟨b1, 25, [.int .i64 p0_0, .int .i64 p0_1, .int .i64 p0_2, .int .i64 p0_3, .int .i64 p0_4, .slice a_p0_5 p0_5.length c_p0_5]⟩], [⟨b2, 25, [.int .i64 0, .int .i64 0, .int .i64 0, .int .i64 0, .int .i64 0, .slice none 0 0]⟩], g]) (fun s g => OwnE 3 1 (I1 .i64) (.slice a4 ((y_1).length) c5) s.1 g) FUEL (l_12, (if 0 < (w64 ((Int.tmod s_3 p0_3) - p1)) then (w64 ((Int.tmod s_3 p0_3) - p1)) else 0)) L38 x52 hx53 hL38 ⟨rfl, rfl, rfl, rfl, rfl, rfl, rfl, rfl, rfl, rfl, rfl, rfl, rfl, trivial⟩ (fun _ h => h) ?_
              rintro ⟨l_15, s_16⟩ L50 o56 fl57 hm55 hL50 hn58 hd59
              have hm55 : terrain_filtered_s3 p0_3 p0_5 p1 p2 s_3 s_13 l_15 s_16 = some o56 := hm55
              unfold terrain_filtered_s3 at hm55
              refine WK.sub (e' := [(1, .int .i64 p1), (2, p2v), (3, .pointer (some ⟨b1, 0, none⟩)), (6, .pointer (some ⟨b2, 0, none⟩)), (7, .slice a4 ((y_1).length) c5), (8, .int .i64 s_3), (10, .int .i64 (Int.tmod s_3 p0_3)), (11, .int .i64 (w64 (Int.tdiv s_3 p0_3))), (12, .int .i64 s_13), (13, .int .i64 s_16), (20, .slice a_p0_5 p0_5.length c_p0_5), (21, .int .i64 (p0_5.length : Int)), (22, .int .i64 s_3)]) ⟨rfl, rfl, rfl, rfl, rfl, rfl, rfl, rfl, rfl, rfl, rfl, rfl, rfl, trivial⟩ (WK.cls (C' := St w0 m m [[⟨b1, 25, [.int .i64 p0_0, .int .i64 p0_1, .int .i64 p0_2, .int .i64 p0_3, .int .i64 p0_4, .slice a_p0_5 p0_5.length c_p0_5]⟩], [⟨b2, 25, [.int .i64 0, .int .i64 0, .int .i64 0, .int .i64 0, .int .i64 0, .slice none 0 0]⟩], L50]) (fun _ h => h) ?_)
              refine WK_seq ?_
              refine WK_seq ?_
              refine WK_region ?_
              refine WO_pure tbok 2 [(1, .int .i64 p1), (2, p2v), (3, .pointer (some ⟨b1, 0, none⟩)), (6, .pointer (some ⟨b2, 0, none⟩)), (7, .slice a4 ((y_1).length) c5), (8, .int .i64 s_3), (10, .int .i64 (Int.tmod s_3 p0_3)), (11, .int .i64 (w64 (Int.tdiv s_3 p0_3))), (12, .int .i64 s_13), (13, .int .i64 s_16), (20, .slice a_p0_5 p0_5.length c_p0_5), (21, .int .i64 (p0_5.length : Int)), (22, .int .i64 s_3), (60, .int .i64 s_16), (61, .pointer (some ⟨b1, 3, none⟩))] rfl ⟨rfl, rfl, rfl, rfl, rfl, rfl, rfl, rfl, rfl, rfl, rfl, rfl, rfl, rfl, rfl, trivial⟩ ?_
              refine WO_loadB tbok 0 rfl rfl rfl rfl (fun _ h => h) rfl rfl ?_
              refine WO_pure tbok 6 [(1, .int .i64 p1), (2, p2v), (3, .pointer (some ⟨b1, 0, none⟩)), (6, .pointer (some ⟨b2, 0, none⟩)), (7, .slice a4 ((y_1).length) c5), (8, .int .i64 s_3), (10, .int .i64 (Int.tmod s_3 p0_3)), (11, .int .i64 (w64 (Int.tdiv s_3 p0_3))), (12, .int .i64 s_13), (13, .int .i64 s_16), (20, .slice a_p0_5 p0_5.length c_p0_5), (21, .int .i64 (p0_5.length : Int)), (22, .int .i64 s_3), (68, .bool (decide (s_16 ≤ (if (w64 ((Int.tmod s_3 p0_3) + p1)) < (w64 (p0_3 - 1)) then (w64 ((Int.tmod s_3 p0_3) + p1)) else (w64 (p0_3 - 1))))))] rfl ⟨rfl, rfl, rfl, rfl, rfl, rfl, rfl, rfl, rfl, rfl, rfl, rfl, rfl, rfl, trivial⟩ ?_
              refine WO_end ?_
              refine WK_cond (b := decide (s_16 ≤ (if (w64 ((Int.tmod s_3 p0_3) + p1)) < (w64 (p0_3 - 1)) then (w64 ((Int.tmod s_3 p0_3) + p1)) else (w64 (p0_3 - 1))))) rfl (fun hb61 => ?_) (fun hb61 => ?_)
              · have hm55 := ifT hb61 hm55
                refine WK_skip ?_
                refine WK_seq ?_
                refine WK_block ?_
                refine WK_seq ?_
                refine WK_region ?_
                refine WO_pure tbok 1 [(1, .int .i64 p1), (2, p2v), (3, .pointer (some ⟨b1, 0, none⟩)), (6, .pointer (some ⟨b2, 0, none⟩)), (7, .slice a4 ((y_1).length) c5), (8, .int .i64 s_3), (10, .int .i64 (Int.tmod s_3 p0_3)), (11, .int .i64 (w64 (Int.tdiv s_3 p0_3))), (12, .int .i64 s_13), (13, .int .i64 s_16), (20, .slice a_p0_5 p0_5.length c_p0_5), (21, .int .i64 (p0_5.length : Int)), (22, .int .i64 s_3), (71, .pointer (some ⟨b1, 5, none⟩))] rfl ⟨rfl, rfl, rfl, rfl, rfl, rfl, rfl, rfl, rfl, rfl, rfl, rfl, rfl, rfl, trivial⟩ ?_
                refine WO_loadB tbok 0 rfl rfl rfl rfl (fun _ h => h) rfl rfl ?_
                refine WO_pure tbok 2 [(1, .int .i64 p1), (2, p2v), (3, .pointer (some ⟨b1, 0, none⟩)), (6, .pointer (some ⟨b2, 0, none⟩)), (7, .slice a4 ((y_1).length) c5), (8, .int .i64 s_3), (10, .int .i64 (Int.tmod s_3 p0_3)), (11, .int .i64 (w64 (Int.tdiv s_3 p0_3))), (12, .int .i64 s_13), (13, .int .i64 s_16), (20, .slice a_p0_5 p0_5.length c_p0_5), (21, .int .i64 (p0_5.length : Int)), (22, .int .i64 s_3), (72, .slice a_p0_5 p0_5.length c_p0_5), (73, .int .i64 s_13), (74, .pointer (some ⟨b1, 3, none⟩))] rfl ⟨rfl, rfl, rfl, rfl, rfl, rfl, rfl, rfl, rfl, rfl, rfl, rfl, rfl, rfl, rfl, rfl, trivial⟩ ?_
                refine WO_loadB tbok 0 rfl rfl rfl rfl (fun _ h => h) rfl rfl ?_
                refine WO_pure tbok 3 [(1, .int .i64 p1), (2, p2v), (3, .pointer (some ⟨b1, 0, none⟩)), (6, .pointer (some ⟨b2, 0, none⟩)), (7, .slice a4 ((y_1).length) c5), (8, .int .i64 s_3), (10, .int .i64 (Int.tmod s_3 p0_3)), (11, .int .i64 (w64 (Int.tdiv s_3 p0_3))), (12, .int .i64 s_13), (13, .int .i64 s_16), (20, .slice a_p0_5 p0_5.length c_p0_5), (21, .int .i64 (p0_5.length : Int)), (22, .int .i64 s_3), (72, .slice a_p0_5 p0_5.length c_p0_5), (78, .int .i64 (w64 ((w64 (s_13 * p0_3)) + s_16)))] rfl ⟨rfl, rfl, rfl, rfl, rfl, rfl, rfl, rfl, rfl, rfl, rfl, rfl, rfl, rfl, rfl, trivial⟩ ?_
                obtain ⟨v_18, hy62, hm55⟩ := bind_some hm55
                obtain ⟨hc63, hy62⟩ := ix_some hy62
                refine WO_index tbok rfl rfl rfl rfl rfl rfl rfl rfl (SlR.addr h_p0_5) hc63 ?_
                refine WO_loadE tbok rfl rfl rfl rfl (fun _ h => St.sat h) h_p0_5 hy62 rfl ?_
                refine WO_pure tbok 1 [(1, .int .i64 p1), (2, p2v), (3, .pointer (some ⟨b1, 0, none⟩)), (6, .pointer (some ⟨b2, 0, none⟩)), (7, .slice a4 ((y_1).length) c5), (8, .int .i64 s_3), (10, .int .i64 (Int.tmod s_3 p0_3)), (11, .int .i64 (w64 (Int.tdiv s_3 p0_3))), (12, .int .i64 s_13), (13, .int .i64 s_16), (14, .int .i64 v_18), (20, .slice a_p0_5 p0_5.length c_p0_5), (21, .int .i64 (p0_5.length : Int)), (22, .int .i64 s_3)] rfl ⟨rfl, rfl, rfl, rfl, rfl, rfl, rfl, rfl, rfl, rfl, rfl, rfl, rfl, rfl, trivial⟩ ?_
                refine WO_end ?_
                refine WK_seq ?_
                refine WK_region ?_
                refine WO_pure tbok 2 [(1, .int .i64 p1), (2, p2v), (3, .pointer (some ⟨b1, 0, none⟩)), (6, .pointer (some ⟨b2, 0, none⟩)), (7, .slice a4 ((y_1).length) c5), (8, .int .i64 s_3), (10, .int .i64 (Int.tmod s_3 p0_3)), (11, .int .i64 (w64 (Int.tdiv s_3 p0_3))), (12, .int .i64 s_13), (13, .int .i64 s_16), (14, .int .i64 v_18), (20, .slice a_p0_5 p0_5.length c_p0_5), (21, .int .i64 (p0_5.length : Int)), (22, .int .i64 s_3), (82, .bool (v_18 != (-2147483648)))] rfl ⟨rfl, rfl, rfl, rfl, rfl, rfl, rfl, rfl, rfl, rfl, rfl, rfl, rfl, rfl, rfl, trivial⟩ ?_
                refine WO_end ?_
                obtain ⟨l_19, hx65, hm55⟩ := bind_some hm55
                refine WK_join (β := List Ent) (fun p => OwnE 3 1 (I1 .i64) (.slice a4 ((y_1).length) c5) l_19 p) (fun p => [(1, .int .i64 p1), (2, p2v), (3, .pointer (some ⟨b1, 0, none⟩)), (6, .pointer (some ⟨b2, 0, none⟩)), (7, .slice a4 ((y_1).length) c5), (8, .int .i64 s_3), (10, .int .i64 (Int.tmod s_3 p0_3)), (11, .int .i64 (w64 (Int.tdiv s_3 p0_3))), (12, .int .i64 s_13), (13, .int .i64 s_16), (20, .slice a_p0_5 p0_5.length c_p0_5), (21, .int .i64 (p0_5.length : Int)), (22, .int .i64 s_3)]) (fun p => St w0 m m [[⟨b1, 25, [.int .i64 p0_0, .int .i64 p0_1, .int .i64 p0_2, .int .i64 p0_3, .int .i64 p0_4, .slice a_p0_5 p0_5.length c_p0_5]⟩], [⟨b2, 25, [.int .i64 0, .int .i64 0, .int .i64 0, .int .i64 0, .int .i64 0, .slice none 0 0]⟩], p]) ?_ (fun hk66 => ?_)
                · rintro L64 hL64
                  refine WK.sub (e' := [(1, .int .i64 p1), (2, p2v), (3, .pointer (some ⟨b1, 0, none⟩)), (6, .pointer (some ⟨b2, 0, none⟩)), (7, .slice a4 ((y_1).length) c5), (8, .int .i64 s_3), (10, .int .i64 (Int.tmod s_3 p0_3)), (11, .int .i64 (w64 (Int.tdiv s_3 p0_3))), (12, .int .i64 s_13), (13, .int .i64 s_16), (20, .slice a_p0_5 p0_5.length c_p0_5), (21, .int .i64 (p0_5.length : Int)), (22, .int .i64 s_3)]) ⟨rfl, rfl, rfl, rfl, rfl, rfl, rfl, rfl, rfl, rfl, rfl, rfl, rfl, trivial⟩ (WK.cls (C' := St w0 m m [[⟨b1, 25, [.int .i64 p0_0, .int .i64 p0_1, .int .i64 p0_2, .int .i64 p0_3, .int .i64 p0_4, .slice a_p0_5 p0_5.length c_p0_5]⟩], [⟨b2, 25, [.int .i64 0, .int .i64 0, .int .i64 0, .int .i64 0, .int .i64 0, .slice none 0 0]⟩], L64]) (fun _ h => h) ?_)
                  refine WK_blk ?_
                  refine WK_region ?_
                  refine WO_pure tbok 3 [(1, .int .i64 p1), (2, p2v), (3, .pointer (some ⟨b1, 0, none⟩)), (6, .pointer (some ⟨b2, 0, none⟩)), (7, .slice a4 ((y_1).length) c5), (8, .int .i64 s_3), (10, .int .i64 (Int.tmod s_3 p0_3)), (11, .int .i64 (w64 (Int.tdiv s_3 p0_3))), (12, .int .i64 s_13), (13, .int .i64 (w64 (s_16 + 1))), (20, .slice a_p0_5 p0_5.length c_p0_5), (21, .int .i64 (p0_5.length : Int)), (22, .int .i64 s_3)] rfl ⟨rfl, rfl, rfl, rfl, rfl, rfl, rfl, rfl, rfl, rfl, rfl, rfl, rfl, trivial⟩ ?_
                  refine WO_end ?_
                  cases hm55
                  refine WK.sub ?_ (WK.cls (fun _ h => h) (hn58 _ L64 rfl hL64))
                  exact ⟨rfl, rfl, rfl, rfl, rfl, rfl, rfl, rfl, rfl, rfl, rfl, rfl, rfl, trivial⟩
                · refine WK_cond (b := v_18 != (-2147483648)) rfl (fun hb67 => ?_) (fun hb67 => ?_)
                  · have hx65 := ifT hb67 hx65
                    refine WK_region ?_
                    refine WO_pure tbok 5 [(1, .int .i64 p1), (2, p2v), (3, .pointer (some ⟨b1, 0, none⟩)), (6, .pointer (some ⟨b2, 0, none⟩)), (7, .slice a4 ((y_1).length) c5), (8, .int .i64 s_3), (10, .int .i64 (Int.tmod s_3 p0_3)), (11, .int .i64 (w64 (Int.tdiv s_3 p0_3))), (12, .int .i64 s_13), (13, .int .i64 s_16), (14, .int .i64 v_18), (20, .slice a_p0_5 p0_5.length c_p0_5), (21, .int .i64 (p0_5.length : Int)), (22, .int .i64 s_3), (83, .slice a4 ((y_1).length) c5), (84, .int .i64 s_3), (85, p2v), (86, .slice a4 ((y_1).length) c5), (87, .int .i64 s_3)] rfl ⟨rfl, rfl, rfl, rfl, rfl, rfl, rfl, rfl, rfl, rfl, rfl, rfl, rfl, rfl, rfl, rfl, rfl, rfl, rfl, trivial⟩ ?_
                    obtain ⟨v_20, hy68, hx65⟩ := bind_some hx65
                    obtain ⟨hc69, hy68⟩ := ix_some hy68
                    refine WO_index tbok rfl rfl rfl rfl rfl rfl rfl rfl (OwnE.addr hL50) (by simpa using hc69) ?_
                    refine WO_loadO (E := (I1 .i64)) tbok (fun _ => rfl) 2 rfl rfl rfl rfl (fun _ h => h) hL50 rfl hy68 rfl ?_
                    refine WO_pure tbok 1 [(1, .int .i64 p1), (2, p2v), (3, .pointer (some ⟨b1, 0, none⟩)), (6, .pointer (some ⟨b2, 0, none⟩)), (7, .slice a4 ((y_1).length) c5), (8, .int .i64 s_3), (10, .int .i64 (Int.tmod s_3 p0_3)), (11, .int .i64 (w64 (Int.tdiv s_3 p0_3))), (12, .int .i64 s_13), (13, .int .i64 s_16), (20, .slice a_p0_5 p0_5.length c_p0_5), (21, .int .i64 (p0_5.length : Int)), (22, .int .i64 s_3), (83, .slice a4 ((y_1).length) c5), (84, .int .i64 s_3), (85, p2v), (89, .int .i64 v_20), (90, .int .i64 v_18)] rfl ⟨rfl, rfl, rfl, rfl, rfl, rfl, rfl, rfl, rfl, rfl, rfl, rfl, rfl, rfl, rfl, rfl, rfl, rfl, trivial⟩ ?_
                    obtain ⟨y_21, hc70, hx65⟩ := bind_some hx65
                    obtain ⟨f0, first0, cap0, hf0, hcal0, hsp0⟩ := hp2 _ (Le.refl _) v_20 v_18 _ hc70
                    refine WO_call0 (.int .i64 y_21) rfl rfl trivial rfl rfl rfl rfl St_closed ⟨f0, first0, cap0, hf0, hcal0, fun w hw => ⟨m, hw.sat, hsp0⟩⟩ ?_
                    obtain ⟨hc71, hx65⟩ := chk_some hx65
                    refine WO_index tbok rfl rfl rfl rfl rfl rfl rfl rfl (OwnE.addr hL50) (by simpa using hc71) ?_
                    refine WO_storeO (E := (I1 .i64)) tbok (fun _ => rfl) 2 y_21 rfl rfl rfl rfl rfl hL50 rfl (by simpa using idx_lt hc71) rfl rfl rfl rfl (fun L72 hL72 => ?_)
                    refine WO.cls (C' := St w0 m m [[⟨b1, 25, [.int .i64 p0_0, .int .i64 p0_1, .int .i64 p0_2, .int .i64 p0_3, .int .i64 p0_4, .slice a_p0_5 p0_5.length c_p0_5]⟩], [⟨b2, 25, [.int .i64 0, .int .i64 0, .int .i64 0, .int .i64 0, .int .i64 0, .slice none 0 0]⟩], L72]) (fun _ h => h) ?_
                    refine WO_end ?_
                    cases hx65
                    refine WK.sub ?_ (WK.cls (fun _ h => h) (hk66 L72 hL72))
                    exact ⟨rfl, rfl, rfl, rfl, rfl, rfl, rfl, rfl, rfl, rfl, rfl, rfl, rfl, trivial⟩
                  · have hx65 := ifF hb67 hx65
                    refine WK_skip ?_
                    cases hx65
                    refine WK.sub ?_ (WK.cls (fun _ h => h) (hk66 L50 hL50))
                    exact ⟨rfl, rfl, rfl, rfl, rfl, rfl, rfl, rfl, rfl, rfl, rfl, rfl, rfl, trivial⟩
              · have hm55 := ifF hb61 hm55
                refine WK_exit rfl ?_
                cases hm55
                refine WK.sub ?_ (WK.cls (fun _ h => h) (hk54 (l_15, L50) ⟨(hd59 _ rfl), hL50⟩))
                exact ⟨rfl, rfl, rfl, rfl, rfl, rfl, rfl, rfl, rfl, rfl, rfl, rfl, trivial⟩
          · have hm43 := ifF hb49 hm43
            refine WK_exit rfl ?_
            cases hm43
            refine WK.sub ?_ (WK.cls (fun _ h => h) (hk42 (l_12, L38) ⟨(hd47 _ rfl), hL38⟩))
            exact ⟨rfl, rfl, rfl, rfl, rfl, rfl, rfl, rfl, trivial⟩
    · have hm13 := ifF hb30 hm13
      refine WK_exit rfl ?_
      cases hm13
      refine WK.sub ?_ (WK.cls (fun _ h => h) (hk12 (l_2, L8) ⟨(hd17 _ rfl), hL8⟩))
      exact ⟨rfl, rfl, rfl, trivial⟩
theorem terrain_least_walk {m : Mu} {p0 : Int} {p1 : Int}   {r : Int} (hm : terrain_least p0 p1 = some r) :
    Go.E.Spec Try.prog 53 [.int .i64 p0, .int .i64 p1] m (fun v _ _ => v = .int .i64 r) := by
  refine Spec_enter Try.func53 rfl rfl rfl (fun w0 => ?_)
  refine WK.sub (e' := [(0, .int .i64 p0), (1, .int .i64 p1)]) ⟨rfl, rfl, trivial⟩ ?_
  refine WK.sub (e' := [(0, .int .i64 p0), (1, .int .i64 p1)]) ⟨rfl, rfl, trivial⟩ ?_
  unfold terrain_least at hm
  refine WK_seq ?_
  refine WK_region ?_
  refine WO_pure tbok 1 [(0, .int .i64 p0), (1, .int .i64 p1), (4, .int .i64 0)] rfl ⟨rfl, rfl, rfl, trivial⟩ ?_
  refine WO_end ?_
  refine WK_seq ?_
  refine WK_region ?_
  refine WO_pure tbok 4 [(4, .int .i64 (if p1 < p0 then p1 else p0))] rfl ⟨rfl, trivial⟩ ?_
  refine WO_end ?_
  cases hm
  exact WK_ret (ret_out (L := []) (RLc_tmp rfl RLc_nil) (List.nil_sublist _) rfl)
theorem terrain_greatest_walk {m : Mu} {p0 : Int} {p1 : Int}   {r : Int} (hm : terrain_greatest p0 p1 = some r) :
    Go.E.Spec Try.prog 54 [.int .i64 p0, .int .i64 p1] m (fun v _ _ => v = .int .i64 r) := by
  refine Spec_enter Try.func54 rfl rfl rfl (fun w0 => ?_)
  refine WK.sub (e' := [(0, .int .i64 p0), (1, .int .i64 p1)]) ⟨rfl, rfl, trivial⟩ ?_
  refine WK.sub (e' := [(0, .int .i64 p0), (1, .int .i64 p1)]) ⟨rfl, rfl, trivial⟩ ?_
  unfold terrain_greatest at hm
  refine WK_seq ?_
  refine WK_region ?_
  refine WO_pure tbok 1 [(0, .int .i64 p0), (1, .int .i64 p1), (4, .int .i64 0)] rfl ⟨rfl, rfl, rfl, trivial⟩ ?_
  refine WO_end ?_
  refine WK_seq ?_
  refine WK_region ?_
  refine WO_pure tbok 4 [(4, .int .i64 (if p0 < p1 then p1 else p0))] rfl ⟨rfl, trivial⟩ ?_
  refine WO_end ?_
  cases hm
  exact WK_ret (ret_out (L := []) (RLc_tmp rfl RLc_nil) (List.nil_sublist _) rfl)
def terrain_opened_Q (r : Int × Int × Int × Int × Int × List Int) : Value → Mu → List Ent → Prop := fun v m L => ∃ (a0 : Option Addr) (q0 c0 : Nat), v = .agg #[.int .i64 r.1, .int .i64 r.2.1, .int .i64 r.2.2.1, .int .i64 r.2.2.2.1, .int .i64 r.2.2.2.2.1, .slice a0 q0 c0] ∧ SlR (FE (I1 .i64)) 1 m (.slice a0 q0 c0) r.2.2.2.2.2
theorem terrain_opened_walk {m : Mu} {p0_0 : Int} {p0_1 : Int} {p0_2 : Int} {p0_3 : Int} {p0_4 : Int} {p0_5 : List Int} {p1 : Int} {a_p0_5 : Option Addr} {q_p0_5 c_p0_5 : Nat} (h_p0_5 : SlR (FE (I1 .i64)) 1 m (.slice a_p0_5 q_p0_5 c_p0_5) p0_5) {r : Int × Int × Int × Int × Int × List Int} (hm : terrain_opened p0_0 p0_1 p0_2 p0_3 p0_4 p0_5 p1 = some r) :
    Go.E.Spec Try.prog 50 [.agg #[.int .i64 p0_0, .int .i64 p0_1, .int .i64 p0_2, .int .i64 p0_3, .int .i64 p0_4, .slice a_p0_5 q_p0_5 c_p0_5], .int .i64 p1] m (terrain_opened_Q r) := by
  refine Spec_enter Try.func50 rfl rfl rfl (fun w0 => ?_)
  refine WK.sub (e' := [(0, .agg #[.int .i64 p0_0, .int .i64 p0_1, .int .i64 p0_2, .int .i64 p0_3, .int .i64 p0_4, .slice a_p0_5 q_p0_5 c_p0_5]), (1, .int .i64 p1)]) ⟨rfl, rfl, trivial⟩ ?_
  obtain rfl := SlR.qlen h_p0_5
  refine WK.sub (e' := [(0, .agg #[.int .i64 p0_0, .int .i64 p0_1, .int .i64 p0_2, .int .i64 p0_3, .int .i64 p0_4, .slice a_p0_5 p0_5.length c_p0_5]), (1, .int .i64 p1)]) ⟨rfl, rfl, trivial⟩ ?_
  unfold terrain_opened at hm
  refine WK_seq ?_
  refine WK_region ?_
  refine WO_box [.int .i64 p0_0, .int .i64 p0_1, .int .i64 p0_2, .int .i64 p0_3, .int .i64 p0_4, .slice a_p0_5 p0_5.length c_p0_5] rfl rfl trivial rfl rfl rfl (fun b1 => ?_)
  refine WO.cls (C' := St w0 m m [[⟨b1, 25, [.int .i64 p0_0, .int .i64 p0_1, .int .i64 p0_2, .int .i64 p0_3, .int .i64 p0_4, .slice a_p0_5 p0_5.length c_p0_5]⟩]]) (fun _ h => h) ?_
  refine WO_alloc tbok [.int .i64 0, .int .i64 0, .int .i64 0, .int .i64 0, .int .i64 0, .slice none 0 0] rfl rfl trivial rfl rfl rfl rfl (fun b2 => ?_)
  refine WO.cls (C' := St w0 m m [[⟨b1, 25, [.int .i64 p0_0, .int .i64 p0_1, .int .i64 p0_2, .int .i64 p0_3, .int .i64 p0_4, .slice a_p0_5 p0_5.length c_p0_5]⟩], [⟨b2, 25, [.int .i64 0, .int .i64 0, .int .i64 0, .int .i64 0, .int .i64 0, .slice none 0 0]⟩]]) (fun _ h => h) ?_
  refine WO_end ?_
  refine WK_seq ?_
  refine WK_region ?_
  refine WO_loadB tbok 0 rfl rfl rfl rfl (fun _ h => h) rfl rfl ?_
  refine WO_pure tbok 1 [(1, .int .i64 p1), (4, .pointer (some ⟨b2, 0, none⟩)), (5, .agg #[.int .i64 p0_0, .int .i64 p0_1, .int .i64 p0_2, .int .i64 p0_3, .int .i64 p0_4, .slice a_p0_5 p0_5.length c_p0_5]), (6, .int .i64 p1)] rfl ⟨rfl, rfl, rfl, rfl, trivial⟩ ?_
  obtain ⟨⟨y_3, y_4, y_5, y_6, y_7, y_8⟩, hc3, hm⟩ := bind_some hm
  refine WO_call2 (terrain_filtered_Q (y_3, y_4, y_5, y_6, y_7, y_8)) rfl rfl trivial rfl rfl rfl rfl ⟨52, #[], #[], rfl, callable_52, terrain_filtered_walk h_p0_5 (fun m1 hm1 z_1 z_2 _ h => specV_cap callable_53 (terrain_least_walk h)) hc3⟩ (fun v7 m8 L6 hle9 hq => ?_)
  obtain ⟨a4, qa4, c5, rfl, h10⟩ := hq
  obtain rfl := SlR.qlen h10
  refine WO.cls (C' := St w0 m m8 [[⟨b1, 25, [.int .i64 p0_0, .int .i64 p0_1, .int .i64 p0_2, .int .i64 p0_3, .int .i64 p0_4, .slice a_p0_5 p0_5.length c_p0_5]⟩], [⟨b2, 25, [.int .i64 0, .int .i64 0, .int .i64 0, .int .i64 0, .int .i64 0, .slice none 0 0]⟩], L6]) (fun _ h => h.sub (by simp)) ?_
  refine WO_pure tbok 1 [(4, .pointer (some ⟨b2, 0, none⟩)), (7, .agg #[.int .i64 y_3, .int .i64 y_4, .int .i64 y_5, .int .i64 y_6, .int .i64 y_7, .slice a4 ((y_8).length) c5]), (8, .int .i64 p1)] rfl ⟨rfl, rfl, rfl, trivial⟩ ?_
  obtain ⟨⟨y_11, y_12, y_13, y_14, y_15, y_16⟩, hc11, hm⟩ := bind_some hm
  refine WO_call2 (terrain_filtered_Q (y_11, y_12, y_13, y_14, y_15, y_16)) rfl rfl trivial rfl rfl rfl rfl ⟨52, #[], #[], rfl, callable_52, terrain_filtered_walk h10 (fun m1 hm1 z_9 z_10 _ h => specV_cap callable_54 (terrain_greatest_walk h)) hc11⟩ (fun v15 m16 L14 hle17 hq => ?_)
  obtain ⟨a12, qa12, c13, rfl, h18⟩ := hq
  obtain rfl := SlR.qlen h18
  refine WO.cls (C' := St w0 m m16 [[⟨b1, 25, [.int .i64 p0_0, .int .i64 p0_1, .int .i64 p0_2, .int .i64 p0_3, .int .i64 p0_4, .slice a_p0_5 p0_5.length c_p0_5]⟩], [⟨b2, 25, [.int .i64 0, .int .i64 0, .int .i64 0, .int .i64 0, .int .i64 0, .slice none 0 0]⟩], L6, L14]) (fun _ h => h.sub (by simp)) ?_
  refine WO_storeB tbok 1 [.int .i64 y_11, .int .i64 y_12, .int .i64 y_13, .int .i64 y_14, .int .i64 y_15, .slice a12 ((y_16).length) c13] rfl rfl rfl rfl rfl rfl rfl ?_
  refine WO.cls (C' := St w0 m m16 [[⟨b1, 25, [.int .i64 p0_0, .int .i64 p0_1, .int .i64 p0_2, .int .i64 p0_3, .int .i64 p0_4, .slice a_p0_5 p0_5.length c_p0_5]⟩], [⟨b2, 25, [.int .i64 y_11, .int .i64 y_12, .int .i64 y_13, .int .i64 y_14, .int .i64 y_15, .slice a12 ((y_16).length) c13]⟩], L6, L14]) (fun _ h => h) ?_
  refine WO_end ?_
  cases hm
  exact WK_ret (ret_out (L := []) (RLc_cell tbok 1 rfl rfl rfl RLc_nil) (List.nil_sublist _) ⟨a12, _, c13, rfl, h18⟩)
def terrain_Open_Q (r : Int × Int × Int × Int × Int × List Int × Int) : Value → Mu → List Ent → Prop := fun v m L => ∃ (a0 : Option Addr) (q0 c0 : Nat), v = .tuple #[.agg #[.int .i64 r.1, .int .i64 r.2.1, .int .i64 r.2.2.1, .int .i64 r.2.2.2.1, .int .i64 r.2.2.2.2.1, .slice a0 q0 c0], .int .i64 r.2.2.2.2.2.2] ∧ SlR (FE (I1 .i64)) 1 m (.slice a0 q0 c0) r.2.2.2.2.2.1
theorem terrain_Open_walk {m : Mu} {p0_0 : Int} {p0_1 : Int} {p0_2 : Int} {p0_3 : Int} {p0_4 : Int} {p0_5 : List Int} {p1 : Int} {a_p0_5 : Option Addr} {q_p0_5 c_p0_5 : Nat} (h_p0_5 : SlR (FE (I1 .i64)) 1 m (.slice a_p0_5 q_p0_5 c_p0_5) p0_5) {r : Int × Int × Int × Int × Int × List Int × Int} (hm : terrain_Open p0_0 p0_1 p0_2 p0_3 p0_4 p0_5 p1 = some r) :
    Go.E.Spec Try.prog 26 [.agg #[.int .i64 p0_0, .int .i64 p0_1, .int .i64 p0_2, .int .i64 p0_3, .int .i64 p0_4, .slice a_p0_5 q_p0_5 c_p0_5], .int .i64 p1] m (terrain_Open_Q r) := by
  refine Spec_enter Try.func26 rfl rfl rfl (fun w0 => ?_)
  refine WK.sub (e' := [(0, .agg #[.int .i64 p0_0, .int .i64 p0_1, .int .i64 p0_2, .int .i64 p0_3, .int .i64 p0_4, .slice a_p0_5 q_p0_5 c_p0_5]), (1, .int .i64 p1)]) ⟨rfl, rfl, trivial⟩ ?_
  obtain rfl := SlR.qlen h_p0_5
  refine WK.sub (e' := [(0, .agg #[.int .i64 p0_0, .int .i64 p0_1, .int .i64 p0_2, .int .i64 p0_3, .int .i64 p0_4, .slice a_p0_5 p0_5.length c_p0_5]), (1, .int .i64 p1)]) ⟨rfl, rfl, trivial⟩ ?_
  unfold terrain_Open at hm
  refine WK_seq ?_
  refine WK_region ?_
  refine WO_box [.int .i64 p0_0, .int .i64 p0_1, .int .i64 p0_2, .int .i64 p0_3, .int .i64 p0_4, .slice a_p0_5 p0_5.length c_p0_5] rfl rfl trivial rfl rfl rfl (fun b1 => ?_)
  refine WO.cls (C' := St w0 m m [[⟨b1, 25, [.int .i64 p0_0, .int .i64 p0_1, .int .i64 p0_2, .int .i64 p0_3, .int .i64 p0_4, .slice a_p0_5 p0_5.length c_p0_5]⟩]]) (fun _ h => h) ?_
  refine WO_alloc tbok [.int .i64 0, .int .i64 0, .int .i64 0, .int .i64 0, .int .i64 0, .slice none 0 0] rfl rfl trivial rfl rfl rfl rfl (fun b2 => ?_)
  refine WO.cls (C' := St w0 m m [[⟨b1, 25, [.int .i64 p0_0, .int .i64 p0_1, .int .i64 p0_2, .int .i64 p0_3, .int .i64 p0_4, .slice a_p0_5 p0_5.length c_p0_5]⟩], [⟨b2, 25, [.int .i64 0, .int .i64 0, .int .i64 0, .int .i64 0, .int .i64 0, .slice none 0 0]⟩]]) (fun _ h => h) ?_
  refine WO_pure tbok 1 [(1, .int .i64 p1), (2, .pointer (some ⟨b1, 0, none⟩)), (4, .pointer (some ⟨b2, 0, none⟩)), (5, .int .i64 0)] rfl ⟨rfl, rfl, rfl, rfl, trivial⟩ ?_
  refine WO_end ?_
  refine WK_seq ?_
  refine WK_seq ?_
  refine WK_region ?_
  refine WO_loadB tbok 0 rfl rfl rfl rfl (fun _ h => h) rfl rfl ?_
  refine WO_pure tbok 1 [(1, .int .i64 p1), (2, .pointer (some ⟨b1, 0, none⟩)), (4, .pointer (some ⟨b2, 0, none⟩)), (5, .int .i64 0), (7, .agg #[.int .i64 p0_0, .int .i64 p0_1, .int .i64 p0_2, .int .i64 p0_3, .int .i64 p0_4, .slice a_p0_5 p0_5.length c_p0_5]), (8, .int .i64 p1)] rfl ⟨rfl, rfl, rfl, rfl, rfl, rfl, trivial⟩ ?_
  obtain ⟨y_1, hc3, hm⟩ := bind_some hm
  refine WO_call0 (.int .i64 y_1) rfl rfl trivial rfl rfl rfl rfl St_closed ⟨51, #[], #[], rfl, callable_51, fun w hw => ⟨_, hw.sat, terrain_checked_walk h_p0_5 hc3⟩⟩ ?_
  refine WO_pure tbok 1 [(1, .int .i64 p1), (2, .pointer (some ⟨b1, 0, none⟩)), (4, .pointer (some ⟨b2, 0, none⟩)), (5, .int .i64 0), (6, .int .i64 y_1)] rfl ⟨rfl, rfl, rfl, rfl, rfl, trivial⟩ ?_
  refine WO_end ?_
  refine WK_seq ?_
  refine WK_region ?_
  refine WO_pure tbok 2 [(1, .int .i64 p1), (2, .pointer (some ⟨b1, 0, none⟩)), (4, .pointer (some ⟨b2, 0, none⟩)), (5, .int .i64 0), (6, .int .i64 y_1), (11, .bool (y_1 != 0))] rfl ⟨rfl, rfl, rfl, rfl, rfl, rfl, trivial⟩ ?_
  refine WO_end ?_
  refine WK_cond (b := y_1 != 0) rfl (fun hb4 => ?_) (fun hb4 => ?_)
  · have hm := ifT hb4 hm
    refine WK_seq ?_
    refine WK_region ?_
    refine WO_pure tbok 2 [(1, .int .i64 p1), (2, .pointer (some ⟨b1, 0, none⟩)), (4, .pointer (some ⟨b2, 0, none⟩)), (5, .int .i64 0), (12, .agg #[.int .i64 0, .int .i64 0, .int .i64 0, .int .i64 0, .int .i64 0, .slice none 0 0]), (13, .int .i64 y_1)] rfl ⟨rfl, rfl, rfl, rfl, rfl, rfl, trivial⟩ ?_
    refine WO_storeB tbok 1 [.int .i64 0, .int .i64 0, .int .i64 0, .int .i64 0, .int .i64 0, .slice none 0 0] rfl rfl rfl rfl rfl rfl rfl ?_
    refine WO.cls (C' := St w0 m m [[⟨b1, 25, [.int .i64 p0_0, .int .i64 p0_1, .int .i64 p0_2, .int .i64 p0_3, .int .i64 p0_4, .slice a_p0_5 p0_5.length c_p0_5]⟩], [⟨b2, 25, [.int .i64 0, .int .i64 0, .int .i64 0, .int .i64 0, .int .i64 0, .slice none 0 0]⟩]]) (fun _ h => h) ?_
    refine WO_pure tbok 1 [(1, .int .i64 p1), (2, .pointer (some ⟨b1, 0, none⟩)), (4, .pointer (some ⟨b2, 0, none⟩)), (5, .int .i64 y_1)] rfl ⟨rfl, rfl, rfl, rfl, trivial⟩ ?_
    refine WO_end ?_
    cases hm
    exact WK_ret (ret_out (L := []) (RLc_cell tbok 1 rfl rfl rfl (RLc_tmp rfl RLc_nil)) (List.nil_sublist _) ⟨none, 0, 0, rfl, SlR_nil⟩)
  · have hm := ifF hb4 hm
    refine WK_skip ?_
    refine WK_seq ?_
    refine WK_region ?_
    refine WO_loadB tbok 0 rfl rfl rfl rfl (fun _ h => h) rfl rfl ?_
    refine WO_pure tbok 1 [(4, .pointer (some ⟨b2, 0, none⟩)), (5, .int .i64 0), (14, .agg #[.int .i64 p0_0, .int .i64 p0_1, .int .i64 p0_2, .int .i64 p0_3, .int .i64 p0_4, .slice a_p0_5 p0_5.length c_p0_5]), (15, .int .i64 p1)] rfl ⟨rfl, rfl, rfl, rfl, trivial⟩ ?_
    obtain ⟨⟨y_2, y_3, y_4, y_5, y_6, y_7⟩, hc5, hm⟩ := bind_some hm
    refine WO_call2 (terrain_opened_Q (y_2, y_3, y_4, y_5, y_6, y_7)) rfl rfl trivial rfl rfl rfl rfl ⟨50, #[], #[], rfl, callable_50, terrain_opened_walk h_p0_5 hc5⟩ (fun v9 m10 L8 hle11 hq => ?_)
    obtain ⟨a6, qa6, c7, rfl, h12⟩ := hq
    obtain rfl := SlR.qlen h12
    refine WO.cls (C' := St w0 m m10 [[⟨b1, 25, [.int .i64 p0_0, .int .i64 p0_1, .int .i64 p0_2, .int .i64 p0_3, .int .i64 p0_4, .slice a_p0_5 p0_5.length c_p0_5]⟩], [⟨b2, 25, [.int .i64 0, .int .i64 0, .int .i64 0, .int .i64 0, .int .i64 0, .slice none 0 0]⟩], L8]) (fun _ h => h.sub (by simp)) ?_
    refine WO_storeB tbok 1 [.int .i64 y_2, .int .i64 y_3, .int .i64 y_4, .int .i64 y_5, .int .i64 y_6, .slice a6 ((y_7).length) c7] rfl rfl rfl rfl rfl rfl rfl ?_
    refine WO.cls (C' := St w0 m m10 [[⟨b1, 25, [.int .i64 p0_0, .int .i64 p0_1, .int .i64 p0_2, .int .i64 p0_3, .int .i64 p0_4, .slice a_p0_5 p0_5.length c_p0_5]⟩], [⟨b2, 25, [.int .i64 y_2, .int .i64 y_3, .int .i64 y_4, .int .i64 y_5, .int .i64 y_6, .slice a6 ((y_7).length) c7]⟩], L8]) (fun _ h => h) ?_
    refine WO_pure tbok 1 [(4, .pointer (some ⟨b2, 0, none⟩)), (5, .int .i64 0)] rfl ⟨rfl, rfl, trivial⟩ ?_
    refine WO_end ?_
    cases hm
    exact WK_ret (ret_out (L := []) (RLc_cell tbok 1 rfl rfl rfl (RLc_tmp rfl RLc_nil)) (List.nil_sublist _) ⟨a6, _, c7, rfl, h12⟩)
end Go.Proofs.Ytcaeieofjchpjaa
