import Derived.Test.YtcaeieofjchpjaaTab
import Derived.Test.YtcaeieofjchpjaaM
set_option linter.unusedVariables false
set_option maxRecDepth 100000
set_option maxHeartbeats 4000000
namespace Go.Proofs.Ytcaeieofjchpjaa
open Go.E Go.RowKit
attribute [local irreducible] Go.E.WO Go.E.WK
theorem terrain_Check_c1_walk {m : Mu} {p0 : Int}   {r : Bool} (hm : terrain_Check_c1 p0 = some r) :
    Go.E.Spec Try.prog 47 [.int .i64 p0] m (fun v _ _ => v = .bool r) := by
  refine Spec_enter Try.func47 rfl rfl rfl (fun w0 => ?_)
  refine WK.sub (e' := [(0, .int .i64 p0)]) ⟨rfl, trivial⟩ ?_
  refine WK.sub (e' := [(0, .int .i64 p0)]) ⟨rfl, trivial⟩ ?_
  unfold terrain_Check_c1 at hm
  refine WK_seq ?_
  refine WK_region ?_
  refine WO_pure tbok 1 [(0, .int .i64 p0), (2, .bool false)] rfl ⟨rfl, rfl, trivial⟩ ?_
  refine WO_end ?_
  refine WK_seq ?_
  refine WK_region ?_
  refine WO_pure tbok 3 [(0, .int .i64 p0), (2, .bool false), (5, .bool (decide (2 ≤ p0)))] rfl ⟨rfl, rfl, rfl, trivial⟩ ?_
  refine WO_split (d := 5) (b := decide (2 ≤ p0)) rfl (fun hb1 => ?_) (fun hb1 => ?_)
  · have hm := ifT hb1 hm
    refine WO_pure tbok 4 [(2, .bool (decide (p0 ≤ 64)))] rfl ⟨rfl, trivial⟩ ?_
    refine WO_end ?_
    cases hm
    exact WK_ret (ret_out (L := []) (RLc_tmp rfl RLc_nil) (List.nil_sublist _) rfl)
  · have hm := ifF hb1 hm
    refine WO_pure tbok 4 [(2, .bool false)] rfl ⟨rfl, trivial⟩ ?_
    refine WO_end ?_
    cases hm
    exact WK_ret (ret_out (L := []) (RLc_tmp rfl RLc_nil) (List.nil_sublist _) rfl)
theorem terrain_far_walk {m : Mu} {p0 : Int}   {r : Bool} (hm : terrain_far p0 = some r) :
    Go.E.Spec Try.prog 41 [.int .i64 p0] m (fun v _ _ => v = .bool r) := by
  refine Spec_enter Try.func41 rfl rfl rfl (fun w0 => ?_)
  refine WK.sub (e' := [(0, .int .i64 p0)]) ⟨rfl, trivial⟩ ?_
  refine WK.sub (e' := [(0, .int .i64 p0)]) ⟨rfl, trivial⟩ ?_
  unfold terrain_far at hm
  refine WK_seq ?_
  refine WK_region ?_
  refine WO_pure tbok 1 [(0, .int .i64 p0), (2, .bool false)] rfl ⟨rfl, rfl, trivial⟩ ?_
  refine WO_end ?_
  refine WK_seq ?_
  refine WK_region ?_
  refine WO_pure tbok 3 [(0, .int .i64 p0), (2, .bool false), (5, .bool (decide (p0 < (-1048576))))] rfl ⟨rfl, rfl, rfl, trivial⟩ ?_
  refine WO_split (d := 5) (b := decide (p0 < (-1048576))) rfl (fun hb1 => ?_) (fun hb1 => ?_)
  · have hm := ifT hb1 hm
    refine WO_pure tbok 4 [(2, .bool true)] rfl ⟨rfl, trivial⟩ ?_
    refine WO_end ?_
    cases hm
    exact WK_ret (ret_out (L := []) (RLc_tmp rfl RLc_nil) (List.nil_sublist _) rfl)
  · have hm := ifF hb1 hm
    refine WO_pure tbok 4 [(2, .bool (decide (1048576 < p0)))] rfl ⟨rfl, trivial⟩ ?_
    refine WO_end ?_
    cases hm
    exact WK_ret (ret_out (L := []) (RLc_tmp rfl RLc_nil) (List.nil_sublist _) rfl)
theorem slices_IndexFunc_sint_walk {m : Mu} {p0 : List Int} {p1 : Int → Option Bool} {a_p0 : Option Addr} {q_p0 c_p0 : Nat} {p1v : Value} (h_p0 : SlR (FE (I1 .i64)) 1 m (.slice a_p0 q_p0 c_p0) p0) (hp1 : ∀ (m1 : Mu), Le m m1 → ∀ (u1 : Int), ∀ (r : Bool), p1 u1 = some r → SpecV Try.prog p1v [.int .i64 u1] m1 (fun v _ _ => v = .bool r)) {r : Int} (hm : slices_IndexFunc_sint p0 p1 = some r) :
    Go.E.Spec Try.prog 59 [.slice a_p0 q_p0 c_p0, p1v] m (fun v _ _ => v = .int .i64 r) := by
  refine Spec_enter Try.func59 rfl rfl rfl (fun w0 => ?_)
  refine WK.sub (e' := [(0, .slice a_p0 q_p0 c_p0), (1, p1v)]) ⟨rfl, rfl, trivial⟩ ?_
  obtain rfl := SlR.qlen h_p0
  refine WK.sub (e' := [(0, .slice a_p0 p0.length c_p0), (1, p1v)]) ⟨rfl, rfl, trivial⟩ ?_
  unfold slices_IndexFunc_sint at hm
  refine WK_seq ?_
  refine WK_region ?_
  refine WO_pure tbok 1 [(0, .slice a_p0 p0.length c_p0), (1, p1v), (4, .int .i64 0)] rfl ⟨rfl, rfl, rfl, trivial⟩ ?_
  refine WO_end ?_
  refine WK_seq ?_
  refine WK_seq ?_
  refine WK_region ?_
  refine WO_pure tbok 3 [(0, .slice a_p0 p0.length c_p0), (1, p1v), (4, .int .i64 0), (7, .int .i64 (p0.length : Int)), (8, .int .i64 0)] rfl ⟨rfl, rfl, rfl, rfl, rfl, trivial⟩ ?_
  refine WO_end ?_
  obtain ⟨x1, hx2, hm⟩ := bind_some hm
  refine WK_join (β := Unit × Unit) (fun p => Sum.inr p.1 = x1) (fun p => [(4, .int .i64 0)]) (fun p => St w0 m m []) ?_ (fun hk3 => ?_)
  · rintro ⟨⟨⟩, ⟨⟩⟩ hq9
    subst hq9
    refine WK.sub (e' := [(4, .int .i64 0)]) ⟨rfl, trivial⟩ (WK.cls (C' := St w0 m m []) (fun _ h => h) ?_)
    refine WK_seq ?_
    refine WK_region ?_
    refine WO_pure tbok 1 [(4, .int .i64 (-1))] rfl ⟨rfl, trivial⟩ ?_
    refine WO_end ?_
    cases hm
    exact WK_ret (ret_out (L := []) (RLc_tmp rfl RLc_nil) (List.nil_sublist _) rfl)
  · refine WK_block ?_
    refine WK_loop (S := Int) (G := Unit) (fun s => slices_IndexFunc_sint_s1 p0 p1 s) (fun s g => [(0, .slice a_p0 p0.length c_p0), (1, p1v), (4, .int .i64 0), (7, .int .i64 (p0.length : Int)), (8, .int .i64 s)]) (fun s g => St w0 m m []) (fun s g => True) FUEL 0 () x1 hx2 trivial ⟨rfl, rfl, rfl, rfl, rfl, trivial⟩ (fun _ h => h) ?_
    rintro s_1 ⟨⟩ o5 fl6 hm4 - hn7 hd8
    have hm4 : slices_IndexFunc_sint_s1 p0 p1 s_1 = some o5 := hm4
    unfold slices_IndexFunc_sint_s1 at hm4
    refine WK.sub (e' := [(0, .slice a_p0 p0.length c_p0), (1, p1v), (4, .int .i64 0), (7, .int .i64 (p0.length : Int)), (8, .int .i64 s_1)]) ⟨rfl, rfl, rfl, rfl, rfl, trivial⟩ (WK.cls (C' := St w0 m m []) (fun _ h => h) ?_)
    refine WK_seq ?_
    refine WK_region ?_
    refine WO_pure tbok 1 [(0, .slice a_p0 p0.length c_p0), (1, p1v), (4, .int .i64 0), (7, .int .i64 (p0.length : Int)), (8, .int .i64 s_1), (9, .bool (decide (s_1 < (p0.length : Int))))] rfl ⟨rfl, rfl, rfl, rfl, rfl, rfl, trivial⟩ ?_
    refine WO_end ?_
    refine WK_seq ?_
    refine WK_cond (b := decide (s_1 < (p0.length : Int))) rfl (fun hb10 => ?_) (fun hb10 => ?_)
    · have hm4 := ifT hb10 hm4
      refine WK_skip ?_
      refine WK_seq ?_
      refine WK_block ?_
      refine WK_seq ?_
      refine WK_region ?_
      refine WO_pure tbok 2 [(0, .slice a_p0 p0.length c_p0), (1, p1v), (4, .int .i64 0), (5, .int .i64 s_1), (7, .int .i64 (p0.length : Int)), (8, .int .i64 s_1)] rfl ⟨rfl, rfl, rfl, rfl, rfl, rfl, trivial⟩ ?_
      refine WO_end ?_
      refine WK_seq ?_
      refine WK_region ?_
      refine WO_pure tbok 3 [(0, .slice a_p0 p0.length c_p0), (1, p1v), (4, .int .i64 0), (5, .int .i64 s_1), (7, .int .i64 (p0.length : Int)), (8, .int .i64 s_1), (11, p1v), (12, .slice a_p0 p0.length c_p0), (13, .int .i64 s_1)] rfl ⟨rfl, rfl, rfl, rfl, rfl, rfl, rfl, rfl, rfl, trivial⟩ ?_
      obtain ⟨v_2, hy11, hm4⟩ := bind_some hm4
      obtain ⟨hc12, hy11⟩ := ix_some hy11
      refine WO_index tbok rfl rfl rfl rfl rfl rfl rfl rfl (SlR.addr h_p0) hc12 ?_
      refine WO_loadE tbok rfl rfl rfl rfl (fun _ h => St.sat h) h_p0 hy11 rfl ?_
      obtain ⟨y_3, hc13, hm4⟩ := bind_some hm4
      obtain ⟨f0, first0, cap0, hf0, hcal0, hsp0⟩ := hp1 _ (Le.refl _) v_2 _ hc13
      refine WO_call0 (.bool y_3) rfl rfl trivial rfl rfl rfl rfl St_closed ⟨f0, first0, cap0, hf0, hcal0, fun w hw => ⟨m, hw.sat, hsp0⟩⟩ ?_
      refine WO_end ?_
      refine WK_cond (b := y_3) rfl (fun hb14 => ?_) (fun hb14 => ?_)
      · have hm4 := ifT hb14 hm4
        refine WK_seq ?_
        refine WK_region ?_
        refine WO_pure tbok 2 [(0, .slice a_p0 p0.length c_p0), (1, p1v), (4, .int .i64 s_1), (7, .int .i64 (p0.length : Int)), (8, .int .i64 s_1)] rfl ⟨rfl, rfl, rfl, rfl, rfl, trivial⟩ ?_
        refine WO_end ?_
        cases hm4
        have hq := hd8 _ rfl
        subst hq
        have hm : some _ = some _ := hm
        cases hm
        exact WK_ret (ret_out (L := []) (RLc_tmp rfl RLc_nil) (List.nil_sublist _) rfl)
      · have hm4 := ifF hb14 hm4
        refine WK_skip ?_
        refine WK_blk ?_
        refine WK_region ?_
        refine WO_pure tbok 2 [(0, .slice a_p0 p0.length c_p0), (1, p1v), (4, .int .i64 0), (7, .int .i64 (p0.length : Int)), (8, .int .i64 (w64 (s_1 + 1)))] rfl ⟨rfl, rfl, rfl, rfl, rfl, trivial⟩ ?_
        refine WO_end ?_
        cases hm4
        refine WK.sub ?_ (WK.cls (fun _ h => h) (hn7 _ () rfl trivial))
        exact ⟨rfl, rfl, rfl, rfl, rfl, trivial⟩
    · have hm4 := ifF hb10 hm4
      refine WK_exit rfl ?_
      cases hm4
      refine WK.sub ?_ (WK.cls (fun _ h => h) (hk3 ((), ()) (hd8 _ rfl)))
      exact ⟨rfl, trivial⟩
theorem slices_ContainsFunc_sint_walk {m : Mu} {p0 : List Int} {p1 : Int → Option Bool} {a_p0 : Option Addr} {q_p0 c_p0 : Nat} {p1v : Value} (h_p0 : SlR (FE (I1 .i64)) 1 m (.slice a_p0 q_p0 c_p0) p0) (hp1 : ∀ (m1 : Mu), Le m m1 → ∀ (u1 : Int), ∀ (r : Bool), p1 u1 = some r → SpecV Try.prog p1v [.int .i64 u1] m1 (fun v _ _ => v = .bool r)) {r : Bool} (hm : slices_ContainsFunc_sint p0 p1 = some r) :
    Go.E.Spec Try.prog 48 [.slice a_p0 q_p0 c_p0, p1v] m (fun v _ _ => v = .bool r) := by
  refine Spec_enter Try.func48 rfl rfl rfl (fun w0 => ?_)
  refine WK.sub (e' := [(0, .slice a_p0 q_p0 c_p0), (1, p1v)]) ⟨rfl, rfl, trivial⟩ ?_
  obtain rfl := SlR.qlen h_p0
  refine WK.sub (e' := [(0, .slice a_p0 p0.length c_p0), (1, p1v)]) ⟨rfl, rfl, trivial⟩ ?_
  unfold slices_ContainsFunc_sint at hm
  refine WK_seq ?_
  refine WK_region ?_
  refine WO_pure tbok 1 [(0, .slice a_p0 p0.length c_p0), (1, p1v), (4, .bool false)] rfl ⟨rfl, rfl, rfl, trivial⟩ ?_
  refine WO_end ?_
  refine WK_seq ?_
  refine WK_region ?_
  refine WO_pure tbok 2 [(4, .bool false), (5, .slice a_p0 p0.length c_p0), (6, p1v)] rfl ⟨rfl, rfl, rfl, trivial⟩ ?_
  obtain ⟨y_1, hc1, hm⟩ := bind_some hm
  refine WO_call0 (.int .i64 y_1) rfl rfl trivial rfl rfl rfl rfl St_closed ⟨59, #[], #[], rfl, callable_59, fun w hw => ⟨_, hw.sat, slices_IndexFunc_sint_walk h_p0 hp1 hc1⟩⟩ ?_
  refine WO_pure tbok 2 [(4, .bool (decide (0 ≤ y_1)))] rfl ⟨rfl, trivial⟩ ?_
  refine WO_end ?_
  cases hm
  exact WK_ret (ret_out (L := []) (RLc_tmp rfl RLc_nil) (List.nil_sublist _) rfl)
theorem terrain_Check_c2_walk {m : Mu} {p0 : Int}   {r : Bool} (hm : terrain_Check_c2 p0 = some r) :
    Go.E.Spec Try.prog 49 [.int .i64 p0] m (fun v _ _ => v = .bool r) := by
  refine Spec_enter Try.func49 rfl rfl rfl (fun w0 => ?_)
  refine WK.sub (e' := [(0, .int .i64 p0)]) ⟨rfl, trivial⟩ ?_
  refine WK.sub (e' := [(0, .int .i64 p0)]) ⟨rfl, trivial⟩ ?_
  unfold terrain_Check_c2 at hm
  refine WK_seq ?_
  refine WK_region ?_
  refine WO_pure tbok 1 [(0, .int .i64 p0), (2, .bool false)] rfl ⟨rfl, rfl, trivial⟩ ?_
  refine WO_end ?_
  refine WK_seq ?_
  refine WK_region ?_
  refine WO_pure tbok 3 [(0, .int .i64 p0), (2, .bool false), (5, .bool (p0 != (-2147483648)))] rfl ⟨rfl, rfl, rfl, trivial⟩ ?_
  refine WO_split (d := 5) (b := p0 != (-2147483648)) rfl (fun hb1 => ?_) (fun hb1 => ?_)
  · have hm := ifT hb1 hm
    refine WO_pure tbok 1 [(2, .bool false), (5, .bool true), (6, .int .i64 p0)] rfl ⟨rfl, rfl, rfl, trivial⟩ ?_
    obtain ⟨y_1, hc2, hm⟩ := bind_some hm
    refine WO_call0 (.bool y_1) rfl rfl trivial rfl rfl rfl rfl St_closed ⟨41, #[], #[], rfl, callable_41, fun w hw => ⟨_, hw.sat, terrain_far_walk hc2⟩⟩ ?_
    refine WO_pure tbok 2 [(2, .bool y_1)] rfl ⟨rfl, trivial⟩ ?_
    refine WO_end ?_
    cases hm
    exact WK_ret (ret_out (L := []) (RLc_tmp rfl RLc_nil) (List.nil_sublist _) rfl)
  · have hm := ifF hb1 hm
    refine WO_pure tbok 1 [(2, .bool false), (5, .bool false)] rfl ⟨rfl, rfl, trivial⟩ ?_
    refine WO_skip rfl rfl ?_
    refine WO_pure tbok 2 [(2, .bool false)] rfl ⟨rfl, trivial⟩ ?_
    refine WO_end ?_
    cases hm
    exact WK_ret (ret_out (L := []) (RLc_tmp rfl RLc_nil) (List.nil_sublist _) rfl)
theorem terrain_Check_walk {m : Mu} {p0_0 : Int} {p0_1 : Int} {p0_2 : Int} {p0_3 : Int} {p0_4 : Int} {p0_5 : List Int} {a_p0_5 : Option Addr} {q_p0_5 c_p0_5 : Nat} (h_p0_5 : SlR (FE (I1 .i64)) 1 m (.slice a_p0_5 q_p0_5 c_p0_5) p0_5) {r : Int} (hm : terrain_Check p0_0 p0_1 p0_2 p0_3 p0_4 p0_5 = some r) :
    Go.E.Spec Try.prog 16 [.agg #[.int .i64 p0_0, .int .i64 p0_1, .int .i64 p0_2, .int .i64 p0_3, .int .i64 p0_4, .slice a_p0_5 q_p0_5 c_p0_5]] m (fun v _ _ => v = .int .i64 r) := by
  refine Spec_enter Try.func16 rfl rfl rfl (fun w0 => ?_)
  refine WK.sub (e' := [(0, .agg #[.int .i64 p0_0, .int .i64 p0_1, .int .i64 p0_2, .int .i64 p0_3, .int .i64 p0_4, .slice a_p0_5 q_p0_5 c_p0_5])]) ⟨rfl, trivial⟩ ?_
  obtain rfl := SlR.qlen h_p0_5
  refine WK.sub (e' := [(0, .agg #[.int .i64 p0_0, .int .i64 p0_1, .int .i64 p0_2, .int .i64 p0_3, .int .i64 p0_4, .slice a_p0_5 p0_5.length c_p0_5])]) ⟨rfl, trivial⟩ ?_
  unfold terrain_Check at hm
  refine WK_seq ?_
  refine WK_region ?_
  refine WO_box [.int .i64 p0_0, .int .i64 p0_1, .int .i64 p0_2, .int .i64 p0_3, .int .i64 p0_4, .slice a_p0_5 p0_5.length c_p0_5] rfl rfl trivial rfl rfl rfl (fun b1 => ?_)
  refine WO.cls (C' := St w0 m m [[⟨b1, 25, [.int .i64 p0_0, .int .i64 p0_1, .int .i64 p0_2, .int .i64 p0_3, .int .i64 p0_4, .slice a_p0_5 p0_5.length c_p0_5]⟩]]) (fun _ h => h) ?_
  refine WO_pure tbok 1 [(1, .pointer (some ⟨b1, 0, none⟩)), (2, .int .i64 0)] rfl ⟨rfl, rfl, trivial⟩ ?_
  refine WO_end ?_
  refine WK_seq ?_
  refine WK_region ?_
  refine WO_pure tbok 1 [(1, .pointer (some ⟨b1, 0, none⟩)), (2, .int .i64 0), (3, .func (.func 47) #[] #[])] rfl ⟨rfl, rfl, rfl, trivial⟩ ?_
  refine WO_end ?_
  refine WK_seq ?_
  refine WK_seq ?_
  obtain ⟨s_1, hx2, hm⟩ := bind_some hm
  refine WK_meet [(1, .pointer (some ⟨b1, 0, none⟩)), (2, .int .i64 0), (41, .bool s_1)] (St w0 m m [[⟨b1, 25, [.int .i64 p0_0, .int .i64 p0_1, .int .i64 p0_2, .int .i64 p0_3, .int .i64 p0_4, .slice a_p0_5 p0_5.length c_p0_5]⟩]]) ?_ (fun hk3 => ?_)
  · refine WK_cond (b := s_1) rfl (fun hb4 => ?_) (fun hb4 => ?_)
    · have hm := ifT hb4 hm
      refine WK_seq ?_
      refine WK_region ?_
      refine WO_pure tbok 1 [(1, .pointer (some ⟨b1, 0, none⟩)), (2, .int .i64 2)] rfl ⟨rfl, rfl, trivial⟩ ?_
      refine WO_end ?_
      cases hm
      exact WK_ret (ret_out (L := []) (RLc_tmp rfl RLc_nil) (List.nil_sublist _) rfl)
    · have hm := ifF hb4 hm
      refine WK_skip ?_
      refine WK_seq ?_
      refine WK_seq ?_
      refine WK_region ?_
      refine WO_pure tbok 1 [(1, .pointer (some ⟨b1, 0, none⟩)), (2, .int .i64 0), (42, .pointer (some ⟨b1, 5, none⟩))] rfl ⟨rfl, rfl, rfl, trivial⟩ ?_
      refine WO_loadB tbok 0 rfl rfl rfl rfl (fun _ h => h) rfl rfl ?_
      refine WO_pure tbok 2 [(1, .pointer (some ⟨b1, 0, none⟩)), (2, .int .i64 0), (44, .int .i64 (p0_5.length : Int)), (45, .pointer (some ⟨b1, 3, none⟩))] rfl ⟨rfl, rfl, rfl, rfl, trivial⟩ ?_
      refine WO_loadB tbok 0 rfl rfl rfl rfl (fun _ h => h) rfl rfl ?_
      refine WO_pure tbok 1 [(1, .pointer (some ⟨b1, 0, none⟩)), (2, .int .i64 0), (44, .int .i64 (p0_5.length : Int)), (46, .int .i64 p0_3), (47, .pointer (some ⟨b1, 4, none⟩))] rfl ⟨rfl, rfl, rfl, rfl, rfl, trivial⟩ ?_
      refine WO_loadB tbok 0 rfl rfl rfl rfl (fun _ h => h) rfl rfl ?_
      refine WO_pure tbok 2 [(1, .pointer (some ⟨b1, 0, none⟩)), (2, .int .i64 0), (50, .bool ((p0_5.length : Int) != (w64 (p0_3 * p0_4))))] rfl ⟨rfl, rfl, rfl, trivial⟩ ?_
      refine WO_end ?_
      refine WK_cond (b := (p0_5.length : Int) != (w64 (p0_3 * p0_4))) rfl (fun hb5 => ?_) (fun hb5 => ?_)
      · have hm := ifT hb5 hm
        refine WK_seq ?_
        refine WK_region ?_
        refine WO_pure tbok 1 [(1, .pointer (some ⟨b1, 0, none⟩)), (2, .int .i64 4)] rfl ⟨rfl, rfl, trivial⟩ ?_
        refine WO_end ?_
        cases hm
        exact WK_ret (ret_out (L := []) (RLc_tmp rfl RLc_nil) (List.nil_sublist _) rfl)
      · have hm := ifF hb5 hm
        refine WK_skip ?_
        refine WK_seq ?_
        refine WK_seq ?_
        refine WK_region ?_
        refine WO_pure tbok 1 [(2, .int .i64 0), (51, .pointer (some ⟨b1, 5, none⟩))] rfl ⟨rfl, rfl, trivial⟩ ?_
        refine WO_loadB tbok 0 rfl rfl rfl rfl (fun _ h => h) rfl rfl ?_
        obtain ⟨y_3, hc6, hm⟩ := bind_some hm
        refine WO_call0 (.bool y_3) rfl rfl trivial rfl rfl rfl rfl St_closed ⟨48, #[], #[], rfl, callable_48, fun w hw => ⟨_, hw.sat, slices_ContainsFunc_sint_walk h_p0_5 (fun m1 hm1 z_2 _ h => specV_cap callable_49 (terrain_Check_c2_walk h)) hc6⟩⟩ ?_
        refine WO_end ?_
        refine WK_cond (b := y_3) rfl (fun hb7 => ?_) (fun hb7 => ?_)
        · have hm := ifT hb7 hm
          refine WK_seq ?_
          refine WK_region ?_
          refine WO_pure tbok 1 [(2, .int .i64 2)] rfl ⟨rfl, trivial⟩ ?_
          refine WO_end ?_
          cases hm
          exact WK_ret (ret_out (L := []) (RLc_tmp rfl RLc_nil) (List.nil_sublist _) rfl)
        · have hm := ifF hb7 hm
          refine WK_skip ?_
          refine WK_seq ?_
          refine WK_region ?_
          refine WO_pure tbok 1 [(2, .int .i64 0)] rfl ⟨rfl, trivial⟩ ?_
          refine WO_end ?_
          cases hm
          exact WK_ret (ret_out (L := []) (RLc_tmp rfl RLc_nil) (List.nil_sublist _) rfl)
  · refine WK_region ?_
    refine WO_pure tbok 2 [(1, .pointer (some ⟨b1, 0, none⟩)), (2, .int .i64 0), (3, .func (.func 47) #[] #[]), (4, .func (.func 47) #[] #[]), (5, .pointer (some ⟨b1, 3, none⟩))] rfl ⟨rfl, rfl, rfl, rfl, rfl, trivial⟩ ?_
    refine WO_loadB tbok 0 rfl rfl rfl rfl (fun _ h => h) rfl rfl ?_
    obtain ⟨y_4, hc8, hx2⟩ := bind_some hx2
    refine WO_call0 (.bool y_4) rfl rfl trivial rfl rfl rfl rfl St_closed ⟨47, #[], #[], rfl, callable_47, fun w hw => ⟨_, hw.sat, terrain_Check_c1_walk hc8⟩⟩ ?_
    refine WO_pure tbok 2 [(1, .pointer (some ⟨b1, 0, none⟩)), (2, .int .i64 0), (3, .func (.func 47) #[] #[]), (9, .bool (!y_4))] rfl ⟨rfl, rfl, rfl, rfl, trivial⟩ ?_
    refine WO_split (d := 9) (b := !y_4) rfl (fun hb9 => ?_) (fun hb9 => ?_)
    · have hx2 := ifT hb9 hx2
      refine WO_pure tbok 3 [(1, .pointer (some ⟨b1, 0, none⟩)), (2, .int .i64 0), (9, .bool true)] rfl ⟨rfl, rfl, rfl, trivial⟩ ?_
      refine WO_skip rfl rfl ?_
      refine WO_pure tbok 21 [(1, .pointer (some ⟨b1, 0, none⟩)), (2, .int .i64 0), (32, .bool true)] rfl ⟨rfl, rfl, rfl, trivial⟩ ?_
      refine WO_skip rfl rfl ?_
      refine WO_pure tbok 4 [(1, .pointer (some ⟨b1, 0, none⟩)), (2, .int .i64 0), (37, .bool true)] rfl ⟨rfl, rfl, rfl, trivial⟩ ?_
      refine WO_skip rfl rfl ?_
      refine WO_pure tbok 1 [(1, .pointer (some ⟨b1, 0, none⟩)), (2, .int .i64 0), (41, .bool true)] rfl ⟨rfl, rfl, rfl, trivial⟩ ?_
      refine WO_end ?_
      cases hx2
      refine WK.sub ?_ (WK.cls (fun _ h => h) hk3)
      exact ⟨rfl, rfl, rfl, trivial⟩
    · have hx2 := ifF hb9 hx2
      refine WO_pure tbok 2 [(1, .pointer (some ⟨b1, 0, none⟩)), (2, .int .i64 0), (9, .bool false), (10, .func (.func 47) #[] #[]), (11, .pointer (some ⟨b1, 4, none⟩))] rfl ⟨rfl, rfl, rfl, rfl, rfl, trivial⟩ ?_
      refine WO_loadB tbok 0 rfl rfl rfl rfl (fun _ h => h) rfl rfl ?_
      obtain ⟨y_5, hc10, hx2⟩ := bind_some hx2
      refine WO_call0 (.bool y_5) rfl rfl trivial rfl rfl rfl rfl St_closed ⟨47, #[], #[], rfl, callable_47, fun w hw => ⟨_, hw.sat, terrain_Check_c1_walk hc10⟩⟩ ?_
      refine WO_pure tbok 3 [(1, .pointer (some ⟨b1, 0, none⟩)), (2, .int .i64 0), (16, .bool (!y_5))] rfl ⟨rfl, rfl, rfl, trivial⟩ ?_
      refine WO_split (d := 16) (b := !y_5) rfl (fun hb11 => ?_) (fun hb11 => ?_)
      · have hx2 := ifT hb11 hx2
        refine WO_pure tbok 18 [(1, .pointer (some ⟨b1, 0, none⟩)), (2, .int .i64 0), (32, .bool true)] rfl ⟨rfl, rfl, rfl, trivial⟩ ?_
        refine WO_skip rfl rfl ?_
        refine WO_pure tbok 4 [(1, .pointer (some ⟨b1, 0, none⟩)), (2, .int .i64 0), (37, .bool true)] rfl ⟨rfl, rfl, rfl, trivial⟩ ?_
        refine WO_skip rfl rfl ?_
        refine WO_pure tbok 1 [(1, .pointer (some ⟨b1, 0, none⟩)), (2, .int .i64 0), (41, .bool true)] rfl ⟨rfl, rfl, rfl, trivial⟩ ?_
        refine WO_end ?_
        cases hx2
        refine WK.sub ?_ (WK.cls (fun _ h => h) hk3)
        exact ⟨rfl, rfl, rfl, trivial⟩
      · have hx2 := ifF hb11 hx2
        refine WO_pure tbok 1 [(1, .pointer (some ⟨b1, 0, none⟩)), (2, .int .i64 0), (16, .bool false), (17, .pointer (some ⟨b1, 2, none⟩))] rfl ⟨rfl, rfl, rfl, rfl, trivial⟩ ?_
        refine WO_loadB tbok 0 rfl rfl rfl rfl (fun _ h => h) rfl rfl ?_
        refine WO_pure tbok 3 [(1, .pointer (some ⟨b1, 0, none⟩)), (2, .int .i64 0), (21, .bool (decide (p0_2 < 2)))] rfl ⟨rfl, rfl, rfl, trivial⟩ ?_
        refine WO_split (d := 21) (b := decide (p0_2 < 2)) rfl (fun hb12 => ?_) (fun hb12 => ?_)
        · have hx2 := ifT hb12 hx2
          refine WO_pure tbok 13 [(1, .pointer (some ⟨b1, 0, none⟩)), (2, .int .i64 0), (32, .bool true)] rfl ⟨rfl, rfl, rfl, trivial⟩ ?_
          refine WO_skip rfl rfl ?_
          refine WO_pure tbok 4 [(1, .pointer (some ⟨b1, 0, none⟩)), (2, .int .i64 0), (37, .bool true)] rfl ⟨rfl, rfl, rfl, trivial⟩ ?_
          refine WO_skip rfl rfl ?_
          refine WO_pure tbok 1 [(1, .pointer (some ⟨b1, 0, none⟩)), (2, .int .i64 0), (41, .bool true)] rfl ⟨rfl, rfl, rfl, trivial⟩ ?_
          refine WO_end ?_
          cases hx2
          refine WK.sub ?_ (WK.cls (fun _ h => h) hk3)
          exact ⟨rfl, rfl, rfl, trivial⟩
        · have hx2 := ifF hb12 hx2
          refine WO_pure tbok 1 [(1, .pointer (some ⟨b1, 0, none⟩)), (2, .int .i64 0), (21, .bool false), (22, .pointer (some ⟨b1, 2, none⟩))] rfl ⟨rfl, rfl, rfl, rfl, trivial⟩ ?_
          refine WO_loadB tbok 0 rfl rfl rfl rfl (fun _ h => h) rfl rfl ?_
          refine WO_pure tbok 3 [(1, .pointer (some ⟨b1, 0, none⟩)), (2, .int .i64 0), (26, .bool (decide (65536 < p0_2)))] rfl ⟨rfl, rfl, rfl, trivial⟩ ?_
          refine WO_split (d := 26) (b := decide (65536 < p0_2)) rfl (fun hb13 => ?_) (fun hb13 => ?_)
          · have hx2 := ifT hb13 hx2
            refine WO_pure tbok 8 [(1, .pointer (some ⟨b1, 0, none⟩)), (2, .int .i64 0), (32, .bool true)] rfl ⟨rfl, rfl, rfl, trivial⟩ ?_
            refine WO_skip rfl rfl ?_
            refine WO_pure tbok 4 [(1, .pointer (some ⟨b1, 0, none⟩)), (2, .int .i64 0), (37, .bool true)] rfl ⟨rfl, rfl, rfl, trivial⟩ ?_
            refine WO_skip rfl rfl ?_
            refine WO_pure tbok 1 [(1, .pointer (some ⟨b1, 0, none⟩)), (2, .int .i64 0), (41, .bool true)] rfl ⟨rfl, rfl, rfl, trivial⟩ ?_
            refine WO_end ?_
            cases hx2
            refine WK.sub ?_ (WK.cls (fun _ h => h) hk3)
            exact ⟨rfl, rfl, rfl, trivial⟩
          · have hx2 := ifF hb13 hx2
            refine WO_pure tbok 1 [(1, .pointer (some ⟨b1, 0, none⟩)), (2, .int .i64 0), (26, .bool false), (27, .pointer (some ⟨b1, 2, none⟩))] rfl ⟨rfl, rfl, rfl, rfl, trivial⟩ ?_
            refine WO_loadB tbok 0 rfl rfl rfl rfl (fun _ h => h) rfl rfl ?_
            refine WO_pure tbok 4 [(1, .pointer (some ⟨b1, 0, none⟩)), (2, .int .i64 0), (32, .bool ((Int.tmod p0_2 2) != 0))] rfl ⟨rfl, rfl, rfl, trivial⟩ ?_
            refine WO_split (d := 32) (b := (Int.tmod p0_2 2) != 0) rfl (fun hb14 => ?_) (fun hb14 => ?_)
            · have hx2 := ifT hb14 hx2
              refine WO_pure tbok 2 [(1, .pointer (some ⟨b1, 0, none⟩)), (2, .int .i64 0), (32, .bool true)] rfl ⟨rfl, rfl, rfl, trivial⟩ ?_
              refine WO_skip rfl rfl ?_
              refine WO_pure tbok 4 [(1, .pointer (some ⟨b1, 0, none⟩)), (2, .int .i64 0), (37, .bool true)] rfl ⟨rfl, rfl, rfl, trivial⟩ ?_
              refine WO_skip rfl rfl ?_
              refine WO_pure tbok 1 [(1, .pointer (some ⟨b1, 0, none⟩)), (2, .int .i64 0), (41, .bool true)] rfl ⟨rfl, rfl, rfl, trivial⟩ ?_
              refine WO_end ?_
              cases hx2
              refine WK.sub ?_ (WK.cls (fun _ h => h) hk3)
              exact ⟨rfl, rfl, rfl, trivial⟩
            · have hx2 := ifF hb14 hx2
              refine WO_pure tbok 1 [(1, .pointer (some ⟨b1, 0, none⟩)), (2, .int .i64 0), (32, .bool false), (33, .pointer (some ⟨b1, 0, none⟩))] rfl ⟨rfl, rfl, rfl, rfl, trivial⟩ ?_
              refine WO_loadB tbok 0 rfl rfl rfl rfl (fun _ h => h) rfl rfl ?_
              obtain ⟨y_6, hc15, hx2⟩ := bind_some hx2
              refine WO_call0 (.bool y_6) rfl rfl trivial rfl rfl rfl rfl St_closed ⟨41, #[], #[], rfl, callable_41, fun w hw => ⟨_, hw.sat, terrain_far_walk hc15⟩⟩ ?_
              refine WO_pure tbok 2 [(1, .pointer (some ⟨b1, 0, none⟩)), (2, .int .i64 0), (37, .bool y_6)] rfl ⟨rfl, rfl, rfl, trivial⟩ ?_
              refine WO_split (d := 37) (b := y_6) rfl (fun hb16 => ?_) (fun hb16 => ?_)
              · have hx2 := ifT hb16 hx2
                refine WO_pure tbok 2 [(1, .pointer (some ⟨b1, 0, none⟩)), (2, .int .i64 0), (37, .bool true)] rfl ⟨rfl, rfl, rfl, trivial⟩ ?_
                refine WO_skip rfl rfl ?_
                refine WO_pure tbok 1 [(1, .pointer (some ⟨b1, 0, none⟩)), (2, .int .i64 0), (41, .bool true)] rfl ⟨rfl, rfl, rfl, trivial⟩ ?_
                refine WO_end ?_
                cases hx2
                refine WK.sub ?_ (WK.cls (fun _ h => h) hk3)
                exact ⟨rfl, rfl, rfl, trivial⟩
              · have hx2 := ifF hb16 hx2
                refine WO_pure tbok 1 [(1, .pointer (some ⟨b1, 0, none⟩)), (2, .int .i64 0), (37, .bool false), (38, .pointer (some ⟨b1, 1, none⟩))] rfl ⟨rfl, rfl, rfl, rfl, trivial⟩ ?_
                refine WO_loadB tbok 0 rfl rfl rfl rfl (fun _ h => h) rfl rfl ?_
                obtain ⟨y_7, hc17, hx2⟩ := bind_some hx2
                refine WO_call0 (.bool y_7) rfl rfl trivial rfl rfl rfl rfl St_closed ⟨41, #[], #[], rfl, callable_41, fun w hw => ⟨_, hw.sat, terrain_far_walk hc17⟩⟩ ?_
                refine WO_pure tbok 1 [(1, .pointer (some ⟨b1, 0, none⟩)), (2, .int .i64 0), (41, .bool y_7)] rfl ⟨rfl, rfl, rfl, trivial⟩ ?_
                refine WO_end ?_
                cases hx2
                refine WK.sub ?_ (WK.cls (fun _ h => h) hk3)
                exact ⟨rfl, rfl, rfl, trivial⟩
theorem terrain_checked_walk {m : Mu} {p0_0 : Int} {p0_1 : Int} {p0_2 : Int} {p0_3 : Int} {p0_4 : Int} {p0_5 : List Int} {p1 : Int} {a_p0_5 : Option Addr} {q_p0_5 c_p0_5 : Nat} (h_p0_5 : SlR (FE (I1 .i64)) 1 m (.slice a_p0_5 q_p0_5 c_p0_5) p0_5) {r : Int} (hm : terrain_checked p0_0 p0_1 p0_2 p0_3 p0_4 p0_5 p1 = some r) :
    Go.E.Spec Try.prog 51 [.agg #[.int .i64 p0_0, .int .i64 p0_1, .int .i64 p0_2, .int .i64 p0_3, .int .i64 p0_4, .slice a_p0_5 q_p0_5 c_p0_5], .int .i64 p1] m (fun v _ _ => v = .int .i64 r) := by
  refine Spec_enter Try.func51 rfl rfl rfl (fun w0 => ?_)
  refine WK.sub (e' := [(0, .agg #[.int .i64 p0_0, .int .i64 p0_1, .int .i64 p0_2, .int .i64 p0_3, .int .i64 p0_4, .slice a_p0_5 q_p0_5 c_p0_5]), (1, .int .i64 p1)]) ⟨rfl, rfl, trivial⟩ ?_
  obtain rfl := SlR.qlen h_p0_5
  refine WK.sub (e' := [(0, .agg #[.int .i64 p0_0, .int .i64 p0_1, .int .i64 p0_2, .int .i64 p0_3, .int .i64 p0_4, .slice a_p0_5 p0_5.length c_p0_5]), (1, .int .i64 p1)]) ⟨rfl, rfl, trivial⟩ ?_
  unfold terrain_checked at hm
  refine WK_seq ?_
  refine WK_region ?_
  refine WO_box [.int .i64 p0_0, .int .i64 p0_1, .int .i64 p0_2, .int .i64 p0_3, .int .i64 p0_4, .slice a_p0_5 p0_5.length c_p0_5] rfl rfl trivial rfl rfl rfl (fun b1 => ?_)
  refine WO.cls (C' := St w0 m m [[⟨b1, 25, [.int .i64 p0_0, .int .i64 p0_1, .int .i64 p0_2, .int .i64 p0_3, .int .i64 p0_4, .slice a_p0_5 p0_5.length c_p0_5]⟩]]) (fun _ h => h) ?_
  refine WO_pure tbok 1 [(1, .int .i64 p1), (2, .pointer (some ⟨b1, 0, none⟩)), (4, .int .i64 0)] rfl ⟨rfl, rfl, rfl, trivial⟩ ?_
  refine WO_end ?_
  refine WK_seq ?_
  refine WK_seq ?_
  refine WK_region ?_
  refine WO_loadB tbok 0 rfl rfl rfl rfl (fun _ h => h) rfl rfl ?_
  obtain ⟨y_1, hc2, hm⟩ := bind_some hm
  refine WO_call0 (.int .i64 y_1) rfl rfl trivial rfl rfl rfl rfl St_closed ⟨16, #[], #[], rfl, callable_16, fun w hw => ⟨_, hw.sat, terrain_Check_walk h_p0_5 hc2⟩⟩ ?_
  refine WO_pure tbok 1 [(1, .int .i64 p1), (4, .int .i64 0), (5, .int .i64 y_1)] rfl ⟨rfl, rfl, rfl, trivial⟩ ?_
  refine WO_end ?_
  refine WK_seq ?_
  refine WK_region ?_
  refine WO_pure tbok 2 [(1, .int .i64 p1), (4, .int .i64 0), (5, .int .i64 y_1), (9, .bool (y_1 != 0))] rfl ⟨rfl, rfl, rfl, rfl, trivial⟩ ?_
  refine WO_end ?_
  refine WK_cond (b := y_1 != 0) rfl (fun hb3 => ?_) (fun hb3 => ?_)
  · have hm := ifT hb3 hm
    refine WK_seq ?_
    refine WK_region ?_
    refine WO_pure tbok 2 [(1, .int .i64 p1), (4, .int .i64 y_1)] rfl ⟨rfl, rfl, trivial⟩ ?_
    refine WO_end ?_
    cases hm
    exact WK_ret (ret_out (L := []) (RLc_tmp rfl RLc_nil) (List.nil_sublist _) rfl)
  · have hm := ifF hb3 hm
    refine WK_skip ?_
    refine WK_seq ?_
    refine WK_seq ?_
    obtain ⟨s_2, hx4, hm⟩ := bind_some hm
    refine WK_meet [(4, .int .i64 0), (16, .bool s_2)] (St w0 m m [[⟨b1, 25, [.int .i64 p0_0, .int .i64 p0_1, .int .i64 p0_2, .int .i64 p0_3, .int .i64 p0_4, .slice a_p0_5 p0_5.length c_p0_5]⟩]]) ?_ (fun hk5 => ?_)
    · refine WK_cond (b := s_2) rfl (fun hb6 => ?_) (fun hb6 => ?_)
      · have hm := ifT hb6 hm
        refine WK_seq ?_
        refine WK_region ?_
        refine WO_pure tbok 1 [(4, .int .i64 2)] rfl ⟨rfl, trivial⟩ ?_
        refine WO_end ?_
        cases hm
        exact WK_ret (ret_out (L := []) (RLc_tmp rfl RLc_nil) (List.nil_sublist _) rfl)
      · have hm := ifF hb6 hm
        refine WK_skip ?_
        refine WK_seq ?_
        refine WK_region ?_
        refine WO_pure tbok 1 [(4, .int .i64 0)] rfl ⟨rfl, trivial⟩ ?_
        refine WO_end ?_
        cases hm
        exact WK_ret (ret_out (L := []) (RLc_tmp rfl RLc_nil) (List.nil_sublist _) rfl)
    · refine WK_region ?_
      refine WO_pure tbok 3 [(1, .int .i64 p1), (4, .int .i64 0), (13, .bool (decide (p1 < 0)))] rfl ⟨rfl, rfl, rfl, trivial⟩ ?_
      refine WO_split (d := 13) (b := decide (p1 < 0)) rfl (fun hb7 => ?_) (fun hb7 => ?_)
      · have hx4 := ifT hb7 hx4
        refine WO_pure tbok 3 [(4, .int .i64 0), (16, .bool true)] rfl ⟨rfl, rfl, trivial⟩ ?_
        refine WO_end ?_
        cases hx4
        refine WK.sub ?_ (WK.cls (fun _ h => h) hk5)
        exact ⟨rfl, rfl, trivial⟩
      · have hx4 := ifF hb7 hx4
        refine WO_pure tbok 3 [(4, .int .i64 0), (16, .bool (decide (8 < p1)))] rfl ⟨rfl, rfl, trivial⟩ ?_
        refine WO_end ?_
        cases hx4
        refine WK.sub ?_ (WK.cls (fun _ h => h) hk5)
        exact ⟨rfl, rfl, trivial⟩
theorem bits_Mul64_walk {m : Mu} {p0 : Int} {p1 : Int}   {r : Int × Int} (hm : bits_Mul64 p0 p1 = some r) :
    Go.E.Spec Try.prog 62 [.int .u64 p0, .int .u64 p1] m (fun v _ _ => v = .tuple #[.int .u64 r.1, .int .u64 r.2]) := by
  refine Spec_enter Try.func62 rfl rfl rfl (fun w0 => ?_)
  refine WK.sub (e' := [(0, .int .u64 p0), (1, .int .u64 p1)]) ⟨rfl, rfl, trivial⟩ ?_
  refine WK.sub (e' := [(0, .int .u64 p0), (1, .int .u64 p1)]) ⟨rfl, rfl, trivial⟩ ?_
  unfold bits_Mul64 at hm
  refine WK_seq ?_
  refine WK_region ?_
  refine WO_pure tbok 2 [(0, .int .u64 p0), (1, .int .u64 p1), (4, .int .u64 0), (5, .int .u64 0)] rfl ⟨rfl, rfl, rfl, rfl, trivial⟩ ?_
  refine WO_end ?_
  refine WK_seq ?_
  refine WK_region ?_
  refine WO_pure tbok 3 [(0, .int .u64 p0), (1, .int .u64 p1), (4, .int .u64 0), (5, .int .u64 0), (6, .int .u64 (wu64 (((BitVec.ofInt 64 p0 &&& BitVec.ofInt 64 4294967295).toNat : Int))))] rfl ⟨rfl, rfl, rfl, rfl, rfl, trivial⟩ ?_
  refine WO_end ?_
  refine WK_seq ?_
  refine WK_region ?_
  refine WO_pure tbok 1 [(0, .int .u64 p0), (1, .int .u64 p1), (4, .int .u64 0), (5, .int .u64 0), (6, .int .u64 (wu64 (((BitVec.ofInt 64 p0 &&& BitVec.ofInt 64 4294967295).toNat : Int)))), (16, .int .u64 p0)] rfl ⟨rfl, rfl, rfl, rfl, rfl, rfl, trivial⟩ ?_
  refine WO_shr rfl rfl rfl rfl rfl (by decide) ?_
  refine WO_pure tbok 1 [(0, .int .u64 p0), (1, .int .u64 p1), (4, .int .u64 0), (5, .int .u64 0), (6, .int .u64 (wu64 (((BitVec.ofInt 64 p0 &&& BitVec.ofInt 64 4294967295).toNat : Int)))), (7, .int .u64 (Int.fdiv p0 (2 ^ (min (32 : Int).toNat 64))))] rfl ⟨rfl, rfl, rfl, rfl, rfl, rfl, trivial⟩ ?_
  refine WO_end ?_
  refine WK_seq ?_
  refine WK_region ?_
  refine WO_pure tbok 3 [(0, .int .u64 p0), (1, .int .u64 p1), (4, .int .u64 0), (5, .int .u64 0), (6, .int .u64 (wu64 (((BitVec.ofInt 64 p0 &&& BitVec.ofInt 64 4294967295).toNat : Int)))), (7, .int .u64 (Int.fdiv p0 (2 ^ (min (32 : Int).toNat 64)))), (8, .int .u64 (wu64 (((BitVec.ofInt 64 p1 &&& BitVec.ofInt 64 4294967295).toNat : Int))))] rfl ⟨rfl, rfl, rfl, rfl, rfl, rfl, rfl, trivial⟩ ?_
  refine WO_end ?_
  refine WK_seq ?_
  refine WK_region ?_
  refine WO_pure tbok 1 [(0, .int .u64 p0), (1, .int .u64 p1), (4, .int .u64 0), (5, .int .u64 0), (6, .int .u64 (wu64 (((BitVec.ofInt 64 p0 &&& BitVec.ofInt 64 4294967295).toNat : Int)))), (7, .int .u64 (Int.fdiv p0 (2 ^ (min (32 : Int).toNat 64)))), (8, .int .u64 (wu64 (((BitVec.ofInt 64 p1 &&& BitVec.ofInt 64 4294967295).toNat : Int)))), (20, .int .u64 p1)] rfl ⟨rfl, rfl, rfl, rfl, rfl, rfl, rfl, rfl, trivial⟩ ?_
  refine WO_shr rfl rfl rfl rfl rfl (by decide) ?_
  refine WO_pure tbok 1 [(0, .int .u64 p0), (1, .int .u64 p1), (4, .int .u64 0), (5, .int .u64 0), (6, .int .u64 (wu64 (((BitVec.ofInt 64 p0 &&& BitVec.ofInt 64 4294967295).toNat : Int)))), (7, .int .u64 (Int.fdiv p0 (2 ^ (min (32 : Int).toNat 64)))), (8, .int .u64 (wu64 (((BitVec.ofInt 64 p1 &&& BitVec.ofInt 64 4294967295).toNat : Int)))), (9, .int .u64 (Int.fdiv p1 (2 ^ (min (32 : Int).toNat 64))))] rfl ⟨rfl, rfl, rfl, rfl, rfl, rfl, rfl, rfl, trivial⟩ ?_
  refine WO_end ?_
  refine WK_seq ?_
  refine WK_region ?_
  refine WO_pure tbok 4 [(0, .int .u64 p0), (1, .int .u64 p1), (4, .int .u64 0), (5, .int .u64 0), (6, .int .u64 (wu64 (((BitVec.ofInt 64 p0 &&& BitVec.ofInt 64 4294967295).toNat : Int)))), (7, .int .u64 (Int.fdiv p0 (2 ^ (min (32 : Int).toNat 64)))), (8, .int .u64 (wu64 (((BitVec.ofInt 64 p1 &&& BitVec.ofInt 64 4294967295).toNat : Int)))), (9, .int .u64 (Int.fdiv p1 (2 ^ (min (32 : Int).toNat 64)))), (10, .int .u64 (wu64 ((wu64 (((BitVec.ofInt 64 p0 &&& BitVec.ofInt 64 4294967295).toNat : Int))) * (wu64 (((BitVec.ofInt 64 p1 &&& BitVec.ofInt 64 4294967295).toNat : Int))))))] rfl ⟨rfl, rfl, rfl, rfl, rfl, rfl, rfl, rfl, rfl, trivial⟩ ?_
  refine WO_end ?_
  refine WK_seq ?_
  refine WK_region ?_
  refine WO_pure tbok 4 [(0, .int .u64 p0), (1, .int .u64 p1), (4, .int .u64 0), (5, .int .u64 0), (6, .int .u64 (wu64 (((BitVec.ofInt 64 p0 &&& BitVec.ofInt 64 4294967295).toNat : Int)))), (7, .int .u64 (Int.fdiv p0 (2 ^ (min (32 : Int).toNat 64)))), (9, .int .u64 (Int.fdiv p1 (2 ^ (min (32 : Int).toNat 64)))), (27, .int .u64 (wu64 ((Int.fdiv p0 (2 ^ (min (32 : Int).toNat 64))) * (wu64 (((BitVec.ofInt 64 p1 &&& BitVec.ofInt 64 4294967295).toNat : Int)))))), (28, .int .u64 (wu64 ((wu64 (((BitVec.ofInt 64 p0 &&& BitVec.ofInt 64 4294967295).toNat : Int))) * (wu64 (((BitVec.ofInt 64 p1 &&& BitVec.ofInt 64 4294967295).toNat : Int))))))] rfl ⟨rfl, rfl, rfl, rfl, rfl, rfl, rfl, rfl, rfl, trivial⟩ ?_
  refine WO_shr rfl rfl rfl rfl rfl (by decide) ?_
  refine WO_pure tbok 2 [(0, .int .u64 p0), (1, .int .u64 p1), (4, .int .u64 0), (5, .int .u64 0), (6, .int .u64 (wu64 (((BitVec.ofInt 64 p0 &&& BitVec.ofInt 64 4294967295).toNat : Int)))), (7, .int .u64 (Int.fdiv p0 (2 ^ (min (32 : Int).toNat 64)))), (9, .int .u64 (Int.fdiv p1 (2 ^ (min (32 : Int).toNat 64)))), (11, .int .u64 (wu64 ((wu64 ((Int.fdiv p0 (2 ^ (min (32 : Int).toNat 64))) * (wu64 (((BitVec.ofInt 64 p1 &&& BitVec.ofInt 64 4294967295).toNat : Int))))) + (Int.fdiv (wu64 ((wu64 (((BitVec.ofInt 64 p0 &&& BitVec.ofInt 64 4294967295).toNat : Int))) * (wu64 (((BitVec.ofInt 64 p1 &&& BitVec.ofInt 64 4294967295).toNat : Int))))) (2 ^ (min (32 : Int).toNat 64))))))] rfl ⟨rfl, rfl, rfl, rfl, rfl, rfl, rfl, rfl, trivial⟩ ?_
  refine WO_end ?_
  refine WK_seq ?_
  refine WK_region ?_
  refine WO_pure tbok 3 [(0, .int .u64 p0), (1, .int .u64 p1), (4, .int .u64 0), (5, .int .u64 0), (6, .int .u64 (wu64 (((BitVec.ofInt 64 p0 &&& BitVec.ofInt 64 4294967295).toNat : Int)))), (7, .int .u64 (Int.fdiv p0 (2 ^ (min (32 : Int).toNat 64)))), (9, .int .u64 (Int.fdiv p1 (2 ^ (min (32 : Int).toNat 64)))), (11, .int .u64 (wu64 ((wu64 ((Int.fdiv p0 (2 ^ (min (32 : Int).toNat 64))) * (wu64 (((BitVec.ofInt 64 p1 &&& BitVec.ofInt 64 4294967295).toNat : Int))))) + (Int.fdiv (wu64 ((wu64 (((BitVec.ofInt 64 p0 &&& BitVec.ofInt 64 4294967295).toNat : Int))) * (wu64 (((BitVec.ofInt 64 p1 &&& BitVec.ofInt 64 4294967295).toNat : Int))))) (2 ^ (min (32 : Int).toNat 64)))))), (12, .int .u64 (wu64 (((BitVec.ofInt 64 (wu64 ((wu64 ((Int.fdiv p0 (2 ^ (min (32 : Int).toNat 64))) * (wu64 (((BitVec.ofInt 64 p1 &&& BitVec.ofInt 64 4294967295).toNat : Int))))) + (Int.fdiv (wu64 ((wu64 (((BitVec.ofInt 64 p0 &&& BitVec.ofInt 64 4294967295).toNat : Int))) * (wu64 (((BitVec.ofInt 64 p1 &&& BitVec.ofInt 64 4294967295).toNat : Int))))) (2 ^ (min (32 : Int).toNat 64))))) &&& BitVec.ofInt 64 4294967295).toNat : Int))))] rfl ⟨rfl, rfl, rfl, rfl, rfl, rfl, rfl, rfl, rfl, trivial⟩ ?_
  refine WO_end ?_
  refine WK_seq ?_
  refine WK_region ?_
  refine WO_pure tbok 1 [(0, .int .u64 p0), (1, .int .u64 p1), (4, .int .u64 0), (5, .int .u64 0), (6, .int .u64 (wu64 (((BitVec.ofInt 64 p0 &&& BitVec.ofInt 64 4294967295).toNat : Int)))), (7, .int .u64 (Int.fdiv p0 (2 ^ (min (32 : Int).toNat 64)))), (9, .int .u64 (Int.fdiv p1 (2 ^ (min (32 : Int).toNat 64)))), (12, .int .u64 (wu64 (((BitVec.ofInt 64 (wu64 ((wu64 ((Int.fdiv p0 (2 ^ (min (32 : Int).toNat 64))) * (wu64 (((BitVec.ofInt 64 p1 &&& BitVec.ofInt 64 4294967295).toNat : Int))))) + (Int.fdiv (wu64 ((wu64 (((BitVec.ofInt 64 p0 &&& BitVec.ofInt 64 4294967295).toNat : Int))) * (wu64 (((BitVec.ofInt 64 p1 &&& BitVec.ofInt 64 4294967295).toNat : Int))))) (2 ^ (min (32 : Int).toNat 64))))) &&& BitVec.ofInt 64 4294967295).toNat : Int)))), (33, .int .u64 (wu64 ((wu64 ((Int.fdiv p0 (2 ^ (min (32 : Int).toNat 64))) * (wu64 (((BitVec.ofInt 64 p1 &&& BitVec.ofInt 64 4294967295).toNat : Int))))) + (Int.fdiv (wu64 ((wu64 (((BitVec.ofInt 64 p0 &&& BitVec.ofInt 64 4294967295).toNat : Int))) * (wu64 (((BitVec.ofInt 64 p1 &&& BitVec.ofInt 64 4294967295).toNat : Int))))) (2 ^ (min (32 : Int).toNat 64))))))] rfl ⟨rfl, rfl, rfl, rfl, rfl, rfl, rfl, rfl, rfl, trivial⟩ ?_
  refine WO_shr rfl rfl rfl rfl rfl (by decide) ?_
  refine WO_pure tbok 1 [(0, .int .u64 p0), (1, .int .u64 p1), (4, .int .u64 0), (5, .int .u64 0), (6, .int .u64 (wu64 (((BitVec.ofInt 64 p0 &&& BitVec.ofInt 64 4294967295).toNat : Int)))), (7, .int .u64 (Int.fdiv p0 (2 ^ (min (32 : Int).toNat 64)))), (9, .int .u64 (Int.fdiv p1 (2 ^ (min (32 : Int).toNat 64)))), (12, .int .u64 (wu64 (((BitVec.ofInt 64 (wu64 ((wu64 ((Int.fdiv p0 (2 ^ (min (32 : Int).toNat 64))) * (wu64 (((BitVec.ofInt 64 p1 &&& BitVec.ofInt 64 4294967295).toNat : Int))))) + (Int.fdiv (wu64 ((wu64 (((BitVec.ofInt 64 p0 &&& BitVec.ofInt 64 4294967295).toNat : Int))) * (wu64 (((BitVec.ofInt 64 p1 &&& BitVec.ofInt 64 4294967295).toNat : Int))))) (2 ^ (min (32 : Int).toNat 64))))) &&& BitVec.ofInt 64 4294967295).toNat : Int)))), (13, .int .u64 (Int.fdiv (wu64 ((wu64 ((Int.fdiv p0 (2 ^ (min (32 : Int).toNat 64))) * (wu64 (((BitVec.ofInt 64 p1 &&& BitVec.ofInt 64 4294967295).toNat : Int))))) + (Int.fdiv (wu64 ((wu64 (((BitVec.ofInt 64 p0 &&& BitVec.ofInt 64 4294967295).toNat : Int))) * (wu64 (((BitVec.ofInt 64 p1 &&& BitVec.ofInt 64 4294967295).toNat : Int))))) (2 ^ (min (32 : Int).toNat 64))))) (2 ^ (min (32 : Int).toNat 64))))] rfl ⟨rfl, rfl, rfl, rfl, rfl, rfl, rfl, rfl, rfl, trivial⟩ ?_
  refine WO_end ?_
  refine WK_seq ?_
  refine WK_region ?_
  refine WO_pure tbok 6 [(0, .int .u64 p0), (1, .int .u64 p1), (4, .int .u64 0), (5, .int .u64 0), (7, .int .u64 (Int.fdiv p0 (2 ^ (min (32 : Int).toNat 64)))), (9, .int .u64 (Int.fdiv p1 (2 ^ (min (32 : Int).toNat 64)))), (12, .int .u64 (wu64 ((wu64 (((BitVec.ofInt 64 (wu64 ((wu64 ((Int.fdiv p0 (2 ^ (min (32 : Int).toNat 64))) * (wu64 (((BitVec.ofInt 64 p1 &&& BitVec.ofInt 64 4294967295).toNat : Int))))) + (Int.fdiv (wu64 ((wu64 (((BitVec.ofInt 64 p0 &&& BitVec.ofInt 64 4294967295).toNat : Int))) * (wu64 (((BitVec.ofInt 64 p1 &&& BitVec.ofInt 64 4294967295).toNat : Int))))) (2 ^ (min (32 : Int).toNat 64))))) &&& BitVec.ofInt 64 4294967295).toNat : Int))) + (wu64 ((wu64 (((BitVec.ofInt 64 p0 &&& BitVec.ofInt 64 4294967295).toNat : Int))) * (Int.fdiv p1 (2 ^ (min (32 : Int).toNat 64)))))))), (13, .int .u64 (Int.fdiv (wu64 ((wu64 ((Int.fdiv p0 (2 ^ (min (32 : Int).toNat 64))) * (wu64 (((BitVec.ofInt 64 p1 &&& BitVec.ofInt 64 4294967295).toNat : Int))))) + (Int.fdiv (wu64 ((wu64 (((BitVec.ofInt 64 p0 &&& BitVec.ofInt 64 4294967295).toNat : Int))) * (wu64 (((BitVec.ofInt 64 p1 &&& BitVec.ofInt 64 4294967295).toNat : Int))))) (2 ^ (min (32 : Int).toNat 64))))) (2 ^ (min (32 : Int).toNat 64))))] rfl ⟨rfl, rfl, rfl, rfl, rfl, rfl, rfl, rfl, trivial⟩ ?_
  refine WO_end ?_
  refine WK_seq ?_
  refine WK_region ?_
  refine WO_pure tbok 6 [(0, .int .u64 p0), (1, .int .u64 p1), (4, .int .u64 0), (5, .int .u64 0), (44, .int .u64 (wu64 ((wu64 ((Int.fdiv p0 (2 ^ (min (32 : Int).toNat 64))) * (Int.fdiv p1 (2 ^ (min (32 : Int).toNat 64))))) + (Int.fdiv (wu64 ((wu64 ((Int.fdiv p0 (2 ^ (min (32 : Int).toNat 64))) * (wu64 (((BitVec.ofInt 64 p1 &&& BitVec.ofInt 64 4294967295).toNat : Int))))) + (Int.fdiv (wu64 ((wu64 (((BitVec.ofInt 64 p0 &&& BitVec.ofInt 64 4294967295).toNat : Int))) * (wu64 (((BitVec.ofInt 64 p1 &&& BitVec.ofInt 64 4294967295).toNat : Int))))) (2 ^ (min (32 : Int).toNat 64))))) (2 ^ (min (32 : Int).toNat 64)))))), (45, .int .u64 (wu64 ((wu64 (((BitVec.ofInt 64 (wu64 ((wu64 ((Int.fdiv p0 (2 ^ (min (32 : Int).toNat 64))) * (wu64 (((BitVec.ofInt 64 p1 &&& BitVec.ofInt 64 4294967295).toNat : Int))))) + (Int.fdiv (wu64 ((wu64 (((BitVec.ofInt 64 p0 &&& BitVec.ofInt 64 4294967295).toNat : Int))) * (wu64 (((BitVec.ofInt 64 p1 &&& BitVec.ofInt 64 4294967295).toNat : Int))))) (2 ^ (min (32 : Int).toNat 64))))) &&& BitVec.ofInt 64 4294967295).toNat : Int))) + (wu64 ((wu64 (((BitVec.ofInt 64 p0 &&& BitVec.ofInt 64 4294967295).toNat : Int))) * (Int.fdiv p1 (2 ^ (min (32 : Int).toNat 64))))))))] rfl ⟨rfl, rfl, rfl, rfl, rfl, rfl, trivial⟩ ?_
  refine WO_shr rfl rfl rfl rfl rfl (by decide) ?_
  refine WO_pure tbok 2 [(0, .int .u64 p0), (1, .int .u64 p1), (4, .int .u64 (wu64 ((wu64 ((wu64 ((Int.fdiv p0 (2 ^ (min (32 : Int).toNat 64))) * (Int.fdiv p1 (2 ^ (min (32 : Int).toNat 64))))) + (Int.fdiv (wu64 ((wu64 ((Int.fdiv p0 (2 ^ (min (32 : Int).toNat 64))) * (wu64 (((BitVec.ofInt 64 p1 &&& BitVec.ofInt 64 4294967295).toNat : Int))))) + (Int.fdiv (wu64 ((wu64 (((BitVec.ofInt 64 p0 &&& BitVec.ofInt 64 4294967295).toNat : Int))) * (wu64 (((BitVec.ofInt 64 p1 &&& BitVec.ofInt 64 4294967295).toNat : Int))))) (2 ^ (min (32 : Int).toNat 64))))) (2 ^ (min (32 : Int).toNat 64))))) + (Int.fdiv (wu64 ((wu64 (((BitVec.ofInt 64 (wu64 ((wu64 ((Int.fdiv p0 (2 ^ (min (32 : Int).toNat 64))) * (wu64 (((BitVec.ofInt 64 p1 &&& BitVec.ofInt 64 4294967295).toNat : Int))))) + (Int.fdiv (wu64 ((wu64 (((BitVec.ofInt 64 p0 &&& BitVec.ofInt 64 4294967295).toNat : Int))) * (wu64 (((BitVec.ofInt 64 p1 &&& BitVec.ofInt 64 4294967295).toNat : Int))))) (2 ^ (min (32 : Int).toNat 64))))) &&& BitVec.ofInt 64 4294967295).toNat : Int))) + (wu64 ((wu64 (((BitVec.ofInt 64 p0 &&& BitVec.ofInt 64 4294967295).toNat : Int))) * (Int.fdiv p1 (2 ^ (min (32 : Int).toNat 64))))))) (2 ^ (min (32 : Int).toNat 64)))))), (5, .int .u64 0)] rfl ⟨rfl, rfl, rfl, rfl, trivial⟩ ?_
  refine WO_end ?_
  refine WK_seq ?_
  refine WK_region ?_
  refine WO_pure tbok 4 [(4, .int .u64 (wu64 ((wu64 ((wu64 ((Int.fdiv p0 (2 ^ (min (32 : Int).toNat 64))) * (Int.fdiv p1 (2 ^ (min (32 : Int).toNat 64))))) + (Int.fdiv (wu64 ((wu64 ((Int.fdiv p0 (2 ^ (min (32 : Int).toNat 64))) * (wu64 (((BitVec.ofInt 64 p1 &&& BitVec.ofInt 64 4294967295).toNat : Int))))) + (Int.fdiv (wu64 ((wu64 (((BitVec.ofInt 64 p0 &&& BitVec.ofInt 64 4294967295).toNat : Int))) * (wu64 (((BitVec.ofInt 64 p1 &&& BitVec.ofInt 64 4294967295).toNat : Int))))) (2 ^ (min (32 : Int).toNat 64))))) (2 ^ (min (32 : Int).toNat 64))))) + (Int.fdiv (wu64 ((wu64 (((BitVec.ofInt 64 (wu64 ((wu64 ((Int.fdiv p0 (2 ^ (min (32 : Int).toNat 64))) * (wu64 (((BitVec.ofInt 64 p1 &&& BitVec.ofInt 64 4294967295).toNat : Int))))) + (Int.fdiv (wu64 ((wu64 (((BitVec.ofInt 64 p0 &&& BitVec.ofInt 64 4294967295).toNat : Int))) * (wu64 (((BitVec.ofInt 64 p1 &&& BitVec.ofInt 64 4294967295).toNat : Int))))) (2 ^ (min (32 : Int).toNat 64))))) &&& BitVec.ofInt 64 4294967295).toNat : Int))) + (wu64 ((wu64 (((BitVec.ofInt 64 p0 &&& BitVec.ofInt 64 4294967295).toNat : Int))) * (Int.fdiv p1 (2 ^ (min (32 : Int).toNat 64))))))) (2 ^ (min (32 : Int).toNat 64)))))), (5, .int .u64 (wu64 (p0 * p1)))] rfl ⟨rfl, rfl, trivial⟩ ?_
  refine WO_end ?_
  cases hm
  exact WK_ret (ret_out (L := []) (RLc_tmp rfl (RLc_tmp rfl RLc_nil)) (List.nil_sublist _) rfl)
theorem bits_Mul_walk {m : Mu} {p0 : Int} {p1 : Int}   {r : Int × Int} (hm : bits_Mul p0 p1 = some r) :
    Go.E.Spec Try.prog 60 [.int .u64 p0, .int .u64 p1] m (fun v _ _ => v = .tuple #[.int .u64 r.1, .int .u64 r.2]) := by
  refine Spec_enter Try.func60 rfl rfl rfl (fun w0 => ?_)
  refine WK.sub (e' := [(0, .int .u64 p0), (1, .int .u64 p1)]) ⟨rfl, rfl, trivial⟩ ?_
  refine WK.sub (e' := [(0, .int .u64 p0), (1, .int .u64 p1)]) ⟨rfl, rfl, trivial⟩ ?_
  unfold bits_Mul at hm
  refine WK_seq ?_
  refine WK_region ?_
  refine WO_pure tbok 2 [(0, .int .u64 p0), (1, .int .u64 p1), (4, .int .u64 0), (5, .int .u64 0)] rfl ⟨rfl, rfl, rfl, rfl, trivial⟩ ?_
  refine WO_end ?_
  refine WK_seq ?_
  refine WK_condF rfl ?_
  refine WK_skip ?_
  refine WK_seq ?_
  refine WK_region ?_
  refine WO_pure tbok 2 [(4, .int .u64 0), (5, .int .u64 0), (23, .int .u64 p0), (24, .int .u64 p1)] rfl ⟨rfl, rfl, rfl, rfl, trivial⟩ ?_
  obtain ⟨⟨y_1, y_2⟩, hc1, hm⟩ := bind_some hm
  refine WO_call0 (.tuple #[.int .u64 y_1, .int .u64 y_2]) rfl rfl trivial rfl rfl rfl rfl St_closed ⟨62, #[], #[], rfl, callable_62, fun w hw => ⟨_, hw.sat, bits_Mul64_walk hc1⟩⟩ ?_
  refine WO_pure tbok 5 [(4, .int .u64 0), (5, .int .u64 0), (8, .int .u64 y_1), (9, .int .u64 y_2)] rfl ⟨rfl, rfl, rfl, rfl, trivial⟩ ?_
  refine WO_end ?_
  refine WK_seq ?_
  refine WK_region ?_
  refine WO_pure tbok 4 [(4, .int .u64 y_1), (5, .int .u64 y_2)] rfl ⟨rfl, rfl, trivial⟩ ?_
  refine WO_end ?_
  cases hm
  exact WK_ret (ret_out (L := []) (RLc_tmp rfl (RLc_tmp rfl RLc_nil)) (List.nil_sublist _) rfl)
def slices_Repeat_sint_Q (r : List Int) : Value → List Ent → Prop := fun v L => ∃ (a0 : Option Addr) (q0 c0 : Nat), v = .slice a0 q0 c0 ∧ OwnE 3 1 (I1 .i64) (.slice a0 q0 c0) r L
theorem slices_Repeat_sint_walk {m : Mu} {p0 : List Int} {p1 : Int} {a_p0 : Option Addr} {q_p0 c_p0 : Nat} (h_p0 : SlR (FE (I1 .i64)) 1 m (.slice a_p0 q_p0 c_p0) p0) {r : List Int} (hm : slices_Repeat_sint p0 p1 = some r) :
    Go.E.Spec Try.prog 58 [.slice a_p0 q_p0 c_p0, .int .i64 p1] m (fun v _ L => slices_Repeat_sint_Q r v L) := by
  refine Spec_enter Try.func58 rfl rfl rfl (fun w0 => ?_)
  refine WK.sub (e' := [(0, .slice a_p0 q_p0 c_p0), (1, .int .i64 p1)]) ⟨rfl, rfl, trivial⟩ ?_
  obtain rfl := SlR.qlen h_p0
  refine WK.sub (e' := [(0, .slice a_p0 p0.length c_p0), (1, .int .i64 p1)]) ⟨rfl, rfl, trivial⟩ ?_
  unfold slices_Repeat_sint at hm
  refine WK_seq ?_
  refine WK_region ?_
  refine WO_pure tbok 1 [(0, .slice a_p0 p0.length c_p0), (1, .int .i64 p1), (4, .slice none 0 0)] rfl ⟨rfl, rfl, rfl, trivial⟩ ?_
  refine WO_end ?_
  refine WK_seq ?_
  refine WK_seq ?_
  refine WK_region ?_
  refine WO_pure tbok 2 [(0, .slice a_p0 p0.length c_p0), (1, .int .i64 p1), (4, .slice none 0 0), (10, .bool (decide (p1 < 0)))] rfl ⟨rfl, rfl, rfl, rfl, trivial⟩ ?_
  refine WO_end ?_
  refine WK_cond (b := decide (p1 < 0)) rfl (fun hb1 => ?_) (fun hb1 => ?_)
  · have hm := ifT hb1 hm
    refine WK_region ?_
    cases hm
  · have hm := ifF hb1 hm
    refine WK_skip ?_
    refine WK_seq ?_
    refine WK_region ?_
    refine WO_pure tbok 5 [(0, .slice a_p0 p0.length c_p0), (4, .slice none 0 0), (15, .int .u64 (wu64 ((p0.length : Int)))), (17, .int .u64 (wu64 (p1)))] rfl ⟨rfl, rfl, rfl, rfl, trivial⟩ ?_
    obtain ⟨⟨y_1, y_2⟩, hc2, hm⟩ := bind_some hm
    refine WO_call0 (.tuple #[.int .u64 y_1, .int .u64 y_2]) rfl rfl trivial rfl rfl rfl rfl St_closed ⟨60, #[], #[], rfl, callable_60, fun w hw => ⟨_, hw.sat, bits_Mul_walk hc2⟩⟩ ?_
    refine WO_pure tbok 5 [(0, .slice a_p0 p0.length c_p0), (4, .slice none 0 0), (5, .int .u64 y_1), (6, .int .u64 y_2)] rfl ⟨rfl, rfl, rfl, rfl, trivial⟩ ?_
    refine WO_end ?_
    refine WK_seq ?_
    refine WK_seq ?_
    obtain ⟨s_3, hx3, hm⟩ := bind_some hm
    refine WK_meet [(0, .slice a_p0 p0.length c_p0), (4, .slice none 0 0), (6, .int .u64 y_2), (26, .bool s_3)] (St w0 m m []) ?_ (fun hk4 => ?_)
    · refine WK_cond (b := s_3) rfl (fun hb5 => ?_) (fun hb5 => ?_)
      · have hm := ifT hb5 hm
        refine WK_region ?_
        cases hm
      · have hm := ifF hb5 hm
        refine WK_skip ?_
        refine WK_seq ?_
        refine WK_region ?_
        refine WO_pure tbok 2 [(0, .slice a_p0 p0.length c_p0), (4, .slice none 0 0), (29, .int .i64 (w64 (y_2)))] rfl ⟨rfl, rfl, rfl, trivial⟩ ?_
        obtain ⟨hc6, hm⟩ := chk_some hm
        refine WO_make (E := (I1 .i64)) tbok (fun _ => rfl) (by decide) (0 : Int) rfl rfl trivial rfl rfl rfl rfl rfl rfl rfl rfl rfl (mk_ok (by decide) hc6) (fun b7 c8 L9 hL9 => ?_)
        refine WO.cls (C' := St w0 m m [L9]) (fun _ h => h) ?_
        refine WO_pure tbok 1 [(0, .slice a_p0 p0.length c_p0), (4, .slice none 0 0), (7, .slice (some ⟨b7, 0, none⟩) ((List.replicate (w64 (y_2)).toNat (0 : Int)).length) c8)] rfl ⟨rfl, rfl, rfl, trivial⟩ ?_
        refine WO_end ?_
        refine WK_seq ?_
        refine WK_region ?_
        refine WO_pure tbok 2 [(4, .slice none 0 0), (7, .slice (some ⟨b7, 0, none⟩) ((List.replicate (w64 (y_2)).toNat (0 : Int)).length) c8), (31, .slice (some ⟨b7, 0, none⟩) ((List.replicate (w64 (y_2)).toNat (0 : Int)).length) c8), (32, .slice a_p0 p0.length c_p0)] rfl ⟨rfl, rfl, rfl, rfl, trivial⟩ ?_
        have hz11 : OwnE 3 1 (I1 .i64) (.slice (some ⟨b7, 0, none⟩) ((List.replicate (w64 (y_2)).toNat (0 : Int)).length) c8) (List.replicate (w64 (y_2)).toNat (0 : Int)) L9 := hL9
        refine WO_copy (E := (I1 .i64)) tbok (fun _ => rfl) (fun _ => rfl) 0 (0) p0 ((List.replicate (w64 (y_2)).toNat (0 : Int)).length) rfl rfl rfl rfl rfl rfl rfl rfl rfl rfl hz11 rfl (OwnE.qlen hz11) (by rw [Nat.zero_add]; exact Nat.le_refl _) DstAt.whole (fun w hw => ⟨_, hw.sat, h_p0⟩) (fun L10 hL10 => ?_)
        refine WO.cls (C' := St w0 m m [L10]) (fun _ h => h) ?_
        refine WO_pure tbok 1 [(4, .slice none 0 0), (7, .slice (some ⟨b7, 0, none⟩) ((List.replicate (w64 (y_2)).toNat (0 : Int)).length) c8), (8, .int .i64 (cpn ((List.replicate (w64 (y_2)).toNat (0 : Int)).length) p0))] rfl ⟨rfl, rfl, rfl, trivial⟩ ?_
        refine WO_end ?_
        refine WK_seq ?_
        obtain ⟨x14, hx15, hm⟩ := bind_some hm
        refine WK_join (β := (List Int) × (List Ent)) (fun p => p.1 = x14 ∧ OwnE 3 1 (I1 .i64) (.slice (some ⟨b7, 0, none⟩) ((List.replicate (w64 (y_2)).toNat (0 : Int)).length) c8) p.1 p.2) (fun p => [(4, .slice none 0 0), (7, .slice (some ⟨b7, 0, none⟩) ((List.replicate (w64 (y_2)).toNat (0 : Int)).length) c8)]) (fun p => St w0 m m [p.2]) ?_ (fun hk16 => ?_)
        · rintro ⟨l_6, L13⟩ ⟨hq22, hL13⟩
          subst hq22
          refine WK.sub (e' := [(4, .slice none 0 0), (7, .slice (some ⟨b7, 0, none⟩) ((List.replicate (w64 (y_2)).toNat (0 : Int)).length) c8)]) ⟨rfl, rfl, trivial⟩ (WK.cls (C' := St w0 m m [L13]) (fun _ h => h) ?_)
          refine WK_seq ?_
          refine WK_region ?_
          refine WO_pure tbok 2 [(4, .slice (some ⟨b7, 0, none⟩) ((List.replicate (w64 (y_2)).toNat (0 : Int)).length) c8)] rfl ⟨rfl, trivial⟩ ?_
          refine WO_end ?_
          cases hm
          exact WK_ret (ret_out (L := L13) (RLc_tmp rfl RLc_nil) (seg_sub 0 rfl) ⟨(some ⟨b7, 0, none⟩), ((List.replicate (w64 (y_2)).toNat (0 : Int)).length), c8, rfl, hL13⟩)
        · refine WK_block ?_
          refine WK_loop (S := List Int × Int) (G := List Ent) (fun s => slices_Repeat_sint_s1 y_2 s.1 s.2) (fun s g => [(4, .slice none 0 0), (7, .slice (some ⟨b7, 0, none⟩) ((List.replicate (w64 (y_2)).toNat (0 : Int)).length) c8), (8, .int .i64 s.2)]) (fun s g => St w0 m m [g]) (fun s g => OwnE 3 1 (I1 .i64) (.slice (some ⟨b7, 0, none⟩) ((List.replicate (w64 (y_2)).toNat (0 : Int)).length) c8) s.1 g) FUEL ((cpy (List.replicate (w64 (y_2)).toNat (0 : Int)) 0 ((List.replicate (w64 (y_2)).toNat (0 : Int)).length) p0), (cpn ((List.replicate (w64 (y_2)).toNat (0 : Int)).length) p0)) L10 x14 hx15 hL10 ⟨rfl, rfl, rfl, trivial⟩ (fun _ h => h) ?_
          rintro ⟨l_4, s_5⟩ L12 o18 fl19 hm17 hL12 hn20 hd21
          have hm17 : slices_Repeat_sint_s1 y_2 l_4 s_5 = some o18 := hm17
          unfold slices_Repeat_sint_s1 at hm17
          refine WK.sub (e' := [(4, .slice none 0 0), (7, .slice (some ⟨b7, 0, none⟩) ((List.replicate (w64 (y_2)).toNat (0 : Int)).length) c8), (8, .int .i64 s_5)]) ⟨rfl, rfl, rfl, trivial⟩ (WK.cls (C' := St w0 m m [L12]) (fun _ h => h) ?_)
          refine WK_seq ?_
          refine WK_seq ?_
          refine WK_region ?_
          refine WO_pure tbok 4 [(4, .slice none 0 0), (7, .slice (some ⟨b7, 0, none⟩) ((List.replicate (w64 (y_2)).toNat (0 : Int)).length) c8), (8, .int .i64 s_5), (37, .bool (decide (s_5 < ((List.replicate (w64 (y_2)).toNat (0 : Int)).length : Int))))] rfl ⟨rfl, rfl, rfl, rfl, trivial⟩ ?_
          refine WO_end ?_
          refine WK_cond (b := decide (s_5 < ((List.replicate (w64 (y_2)).toNat (0 : Int)).length : Int))) rfl (fun hb23 => ?_) (fun hb23 => ?_)
          · have hm17 := ifT hb23 hm17
            refine WK_skip ?_
            refine WK_block ?_
            refine WK_plan 7 [0, 1, 2, 4, 5] (.run [3, 6] .fin) follows_ok (by kernel_rfl) St_closed ?_
            refine WO_pure tbok 5 [(4, .slice none 0 0), (7, .slice (some ⟨b7, 0, none⟩) ((List.replicate (w64 (y_2)).toNat (0 : Int)).length) c8), (8, .int .i64 s_5), (38, .int .i64 s_5), (39, .slice (some ⟨b7, 0, none⟩) ((List.replicate (w64 (y_2)).toNat (0 : Int)).length) c8), (40, .int .i64 s_5), (42, .slice (some ⟨b7, 0, none⟩) ((List.replicate (w64 (y_2)).toNat (0 : Int)).length) c8), (43, .int .i64 s_5)] rfl ⟨rfl, rfl, rfl, rfl, rfl, rfl, rfl, rfl, trivial⟩ ?_
            refine WO_plan ?_
            refine WT_run ?_
            obtain ⟨hc24, hm17⟩ := chk_some hm17
            have hc24 : 0 ≤ (s_5 : Int) ∧ (s_5 : Int) ≤ (l_4.length : Int) ∧ (l_4.length : Int) ≤ (l_4.length : Int) := hc24
            have hz28 : OwnE 3 1 (I1 .i64) (.slice (some ⟨b7, 0, none⟩) ((List.replicate (w64 (y_2)).toNat (0 : Int)).length) c8) l_4 L12 := hL12
            refine WO_sliceV (E := (I1 .i64)) tbok (fun _ => rfl) (some (s_5 : Int)) none (s_5 : Int).toNat l_4.length rfl rfl rfl rfl rfl rfl rfl rfl rfl rfl hz28 (by simp only [Option.getD_some] <;> omega) (by have := OwnE.qlen hz28; simp only [Option.getD_none] <;> omega) (by omega) (by omega) (fun a25 c26 h27 h27d => ?_)
            obtain ⟨hc29, hm17⟩ := chk_some hm17
            have hc29 : 0 ≤ (0 : Int) ∧ (0 : Int) ≤ (s_5 : Int) ∧ (s_5 : Int) ≤ (l_4.length : Int) := hc29
            have hz33 : OwnE 3 1 (I1 .i64) (.slice (some ⟨b7, 0, none⟩) ((List.replicate (w64 (y_2)).toNat (0 : Int)).length) c8) l_4 L12 := hL12
            refine WO_sliceV (E := (I1 .i64)) tbok (fun _ => rfl) none (some (s_5 : Int)) (0 : Int).toNat (s_5 : Int).toNat rfl rfl rfl rfl rfl rfl rfl rfl rfl rfl hz33 rfl (by simp only [Option.getD_some] <;> omega) (by omega) (by omega) (fun a30 c31 h32 h32d => ?_)
            refine WO_tree rfl ?_
            refine WT_fin ?_
            have hz35 : OwnE 3 1 (I1 .i64) (.slice (some ⟨b7, 0, none⟩) ((List.replicate (w64 (y_2)).toNat (0 : Int)).length) c8) l_4 L12 := hL12
            refine WO_copy (E := (I1 .i64)) tbok (fun _ => rfl) (fun _ => rfl) 0 ((s_5 : Int).toNat) ((l_4.take (s_5 : Int).toNat).drop (0 : Int).toNat) (((l_4.take l_4.length).drop (s_5 : Int).toNat).length) rfl rfl rfl rfl rfl rfl rfl rfl rfl rfl hz35 rfl rfl (by rw [List.length_drop, List.length_take]; omega) h27d (fun w hw => ⟨_, hw.satV, (h32 _ (fun _ hx => hw.memV (i := 0) rfl hx))⟩) (fun L34 hL34 => ?_)
            refine WO.cls (C' := St w0 m m [L34]) (fun _ h => h) ?_
            refine WO_pure tbok 2 [(4, .slice none 0 0), (7, .slice (some ⟨b7, 0, none⟩) ((List.replicate (w64 (y_2)).toNat (0 : Int)).length) c8), (8, .int .i64 (w64 (s_5 + (cpn (((l_4.take l_4.length).drop (s_5 : Int).toNat).length) ((l_4.take (s_5 : Int).toNat).drop (0 : Int).toNat)))))] rfl ⟨rfl, rfl, rfl, trivial⟩ ?_
            refine WO_end ?_
            refine WK_blk ?_
            cases hm17
            refine WK.sub ?_ (WK.cls (fun _ h => h) (hn20 _ L34 rfl hL34))
            exact ⟨rfl, rfl, rfl, trivial⟩
          · have hm17 := ifF hb23 hm17
            refine WK_exit rfl ?_
            cases hm17
            refine WK.sub ?_ (WK.cls (fun _ h => h) (hk16 (l_4, L12) ⟨(hd21 _ rfl), hL12⟩))
            exact ⟨rfl, rfl, trivial⟩
    · refine WK_region ?_
      refine WO_pure tbok 3 [(0, .slice a_p0 p0.length c_p0), (4, .slice none 0 0), (6, .int .u64 y_2), (23, .bool (decide (0 < y_1)))] rfl ⟨rfl, rfl, rfl, rfl, trivial⟩ ?_
      refine WO_split (d := 23) (b := decide (0 < y_1)) rfl (fun hb36 => ?_) (fun hb36 => ?_)
      · have hx3 := ifT hb36 hx3
        refine WO_pure tbok 3 [(0, .slice a_p0 p0.length c_p0), (4, .slice none 0 0), (6, .int .u64 y_2), (26, .bool true)] rfl ⟨rfl, rfl, rfl, rfl, trivial⟩ ?_
        refine WO_end ?_
        cases hx3
        refine WK.sub ?_ (WK.cls (fun _ h => h) hk4)
        exact ⟨rfl, rfl, rfl, rfl, trivial⟩
      · have hx3 := ifF hb36 hx3
        refine WO_pure tbok 3 [(0, .slice a_p0 p0.length c_p0), (4, .slice none 0 0), (6, .int .u64 y_2), (26, .bool (decide (9223372036854775807 < y_2)))] rfl ⟨rfl, rfl, rfl, rfl, trivial⟩ ?_
        refine WO_end ?_
        cases hx3
        refine WK.sub ?_ (WK.cls (fun _ h => h) hk4)
        exact ⟨rfl, rfl, rfl, rfl, trivial⟩
def terrain_blank_Q (r : List Int) : Value → List Ent → Prop := fun v L => ∃ (a0 : Option Addr) (q0 c0 : Nat), v = .slice a0 q0 c0 ∧ OwnE 3 1 (I1 .i64) (.slice a0 q0 c0) r L
theorem terrain_blank_walk {m : Mu} {p0 : Int}   {r : List Int} (hm : terrain_blank p0 = some r) :
    Go.E.Spec Try.prog 42 [.int .i64 p0] m (fun v _ L => terrain_blank_Q r v L) := by
  refine Spec_enter Try.func42 rfl rfl rfl (fun w0 => ?_)
  refine WK.sub (e' := [(0, .int .i64 p0)]) ⟨rfl, trivial⟩ ?_
  refine WK.sub (e' := [(0, .int .i64 p0)]) ⟨rfl, trivial⟩ ?_
  unfold terrain_blank at hm
  refine WK_seq ?_
  refine WK_region ?_
  refine WO_pure tbok 1 [(0, .int .i64 p0), (2, .slice none 0 0)] rfl ⟨rfl, rfl, trivial⟩ ?_
  refine WO_end ?_
  refine WK_seq ?_
  refine WK_region ?_
  refine WO_bslice (E := (I1 .i64)) tbok (fun _ => rfl) (by decide) [.int .i64 (-2147483648)] ([(-2147483648)] : List Int) rfl rfl trivial rfl rfl rfl rfl rfl rfl rfl rfl rfl rfl rfl rfl (fun b1 hb1 => ?_)
  refine WO.cls (C' := St w0 m m [[⟨b1, 3, ([(-2147483648)] : List Int).flatMap (I1 .i64)⟩]]) (fun _ h => h) ?_
  refine WO_pure tbok 1 [(2, .slice none 0 0), (3, .slice (some ⟨b1, 0, none⟩) 1 1), (4, .int .i64 p0)] rfl ⟨rfl, rfl, rfl, trivial⟩ ?_
  obtain ⟨y_1, hc2, hm⟩ := bind_some hm
  refine WO_call1 (slices_Repeat_sint_Q y_1) rfl rfl trivial rfl rfl rfl rfl ⟨58, #[], #[], rfl, callable_58, fun w hw => ⟨_, hw.satV, slices_Repeat_sint_walk (OwnE.rd (E := (I1 .i64)) (k := 1) (fun _ => rfl) hb1 (fun _ hx => hw.memV (i := 0) rfl hx)) hc2⟩⟩ (fun v6 L5 hq => ?_)
  obtain ⟨a3, qa3, c4, rfl, hL5⟩ := hq
  obtain rfl := OwnE.qlen hL5
  refine WO.cls (C' := St w0 m m [[⟨b1, 3, ([(-2147483648)] : List Int).flatMap (I1 .i64)⟩], L5]) (fun _ h => h) ?_
  refine WO_pure tbok 1 [(2, .slice a3 ((y_1).length) c4)] rfl ⟨rfl, trivial⟩ ?_
  refine WO_end ?_
  cases hm
  exact WK_ret (ret_out (L := L5) (RLc_tmp rfl RLc_nil) (seg_sub 1 rfl) ⟨a3, _, c4, rfl, hL5⟩)
def terrain_with_Q (r : Int × Int × Int × Int × Int × List Int) : Value → Mu → List Ent → Prop := fun v m L => ∃ (a0 : Option Addr) (q0 c0 : Nat), v = .agg #[.int .i64 r.1, .int .i64 r.2.1, .int .i64 r.2.2.1, .int .i64 r.2.2.2.1, .int .i64 r.2.2.2.2.1, .slice a0 q0 c0] ∧ SlR (FE (I1 .i64)) 1 m (.slice a0 q0 c0) r.2.2.2.2.2
theorem terrain_with_walk {m : Mu} {p0_0 : Int} {p0_1 : Int} {p0_2 : Int} {p0_3 : Int} {p0_4 : Int} {p0_5 : List Int} {p1 : List Int} {a_p0_5 : Option Addr} {q_p0_5 c_p0_5 : Nat} {a_p1 : Option Addr} {q_p1 c_p1 : Nat} (h_p0_5 : SlR (FE (I1 .i64)) 1 m (.slice a_p0_5 q_p0_5 c_p0_5) p0_5) (h_p1 : SlR (FE (I1 .i64)) 1 m (.slice a_p1 q_p1 c_p1) p1) {r : Int × Int × Int × Int × Int × List Int} (hm : terrain_with p0_0 p0_1 p0_2 p0_3 p0_4 p0_5 p1 = some r) :
    Go.E.Spec Try.prog 44 [.agg #[.int .i64 p0_0, .int .i64 p0_1, .int .i64 p0_2, .int .i64 p0_3, .int .i64 p0_4, .slice a_p0_5 q_p0_5 c_p0_5], .slice a_p1 q_p1 c_p1] m (terrain_with_Q r) := by
  refine Spec_enter Try.func44 rfl rfl rfl (fun w0 => ?_)
  refine WK.sub (e' := [(0, .agg #[.int .i64 p0_0, .int .i64 p0_1, .int .i64 p0_2, .int .i64 p0_3, .int .i64 p0_4, .slice a_p0_5 q_p0_5 c_p0_5]), (1, .slice a_p1 q_p1 c_p1)]) ⟨rfl, rfl, trivial⟩ ?_
  obtain rfl := SlR.qlen h_p0_5
  obtain rfl := SlR.qlen h_p1
  refine WK.sub (e' := [(0, .agg #[.int .i64 p0_0, .int .i64 p0_1, .int .i64 p0_2, .int .i64 p0_3, .int .i64 p0_4, .slice a_p0_5 p0_5.length c_p0_5]), (1, .slice a_p1 p1.length c_p1)]) ⟨rfl, rfl, trivial⟩ ?_
  unfold terrain_with at hm
  refine WK_seq ?_
  refine WK_region ?_
  refine WO_box [.int .i64 p0_0, .int .i64 p0_1, .int .i64 p0_2, .int .i64 p0_3, .int .i64 p0_4, .slice a_p0_5 p0_5.length c_p0_5] rfl rfl trivial rfl rfl rfl (fun b1 => ?_)
  refine WO.cls (C' := St w0 m m [[⟨b1, 25, [.int .i64 p0_0, .int .i64 p0_1, .int .i64 p0_2, .int .i64 p0_3, .int .i64 p0_4, .slice a_p0_5 p0_5.length c_p0_5]⟩]]) (fun _ h => h) ?_
  refine WO_alloc tbok [.int .i64 0, .int .i64 0, .int .i64 0, .int .i64 0, .int .i64 0, .slice none 0 0] rfl rfl trivial rfl rfl rfl rfl (fun b2 => ?_)
  refine WO.cls (C' := St w0 m m [[⟨b1, 25, [.int .i64 p0_0, .int .i64 p0_1, .int .i64 p0_2, .int .i64 p0_3, .int .i64 p0_4, .slice a_p0_5 p0_5.length c_p0_5]⟩], [⟨b2, 25, [.int .i64 0, .int .i64 0, .int .i64 0, .int .i64 0, .int .i64 0, .slice none 0 0]⟩]]) (fun _ h => h) ?_
  refine WO_end ?_
  refine WK_seq ?_
  refine WK_region ?_
  refine WO_pure tbok 2 [(2, .pointer (some ⟨b1, 0, none⟩)), (4, .pointer (some ⟨b2, 0, none⟩)), (5, .slice a_p1 p1.length c_p1), (6, .pointer (some ⟨b1, 5, none⟩))] rfl ⟨rfl, rfl, rfl, rfl, trivial⟩ ?_
  refine WO_storeB tbok 0 [.int .i64 p0_0, .int .i64 p0_1, .int .i64 p0_2, .int .i64 p0_3, .int .i64 p0_4, .slice a_p1 p1.length c_p1] rfl rfl rfl rfl rfl rfl rfl ?_
  refine WO.cls (C' := St w0 m m [[⟨b1, 25, [.int .i64 p0_0, .int .i64 p0_1, .int .i64 p0_2, .int .i64 p0_3, .int .i64 p0_4, .slice a_p1 p1.length c_p1]⟩], [⟨b2, 25, [.int .i64 0, .int .i64 0, .int .i64 0, .int .i64 0, .int .i64 0, .slice none 0 0]⟩]]) (fun _ h => h) ?_
  refine WO_end ?_
  refine WK_seq ?_
  refine WK_region ?_
  refine WO_loadB tbok 0 rfl rfl rfl rfl (fun _ h => h) rfl rfl ?_
  refine WO_storeB tbok 1 [.int .i64 p0_0, .int .i64 p0_1, .int .i64 p0_2, .int .i64 p0_3, .int .i64 p0_4, .slice a_p1 p1.length c_p1] rfl rfl rfl rfl rfl rfl rfl ?_
  refine WO.cls (C' := St w0 m m [[⟨b1, 25, [.int .i64 p0_0, .int .i64 p0_1, .int .i64 p0_2, .int .i64 p0_3, .int .i64 p0_4, .slice a_p1 p1.length c_p1]⟩], [⟨b2, 25, [.int .i64 p0_0, .int .i64 p0_1, .int .i64 p0_2, .int .i64 p0_3, .int .i64 p0_4, .slice a_p1 p1.length c_p1]⟩]]) (fun _ h => h) ?_
  refine WO_end ?_
  cases hm
  exact WK_ret (ret_out (L := []) (RLc_cell tbok 1 rfl rfl rfl RLc_nil) (List.nil_sublist _) ⟨a_p1, p1.length, c_p1, rfl, h_p1⟩)
def terrain_filtered_Q (r : Int × Int × Int × Int × Int × List Int) : Value → Mu → List Ent → Prop := fun v m L => ∃ (a0 : Option Addr) (q0 c0 : Nat), v = .agg #[.int .i64 r.1, .int .i64 r.2.1, .int .i64 r.2.2.1, .int .i64 r.2.2.2.1, .int .i64 r.2.2.2.2.1, .slice a0 q0 c0] ∧ SlR (FE (I1 .i64)) 1 m (.slice a0 q0 c0) r.2.2.2.2.2
theorem terrain_filtered_walk {m : Mu} {p0_0 : Int} {p0_1 : Int} {p0_2 : Int} {p0_3 : Int} {p0_4 : Int} {p0_5 : List Int} {p1 : Int} {p2 : Int → Int → Option Int} {a_p0_5 : Option Addr} {q_p0_5 c_p0_5 : Nat} {p2v : Value} (h_p0_5 : SlR (FE (I1 .i64)) 1 m (.slice a_p0_5 q_p0_5 c_p0_5) p0_5) (hp2 : ∀ (m1 : Mu), Le m m1 → ∀ (u1 : Int), ∀ (u2 : Int), ∀ (r : Int), p2 u1 u2 = some r → SpecV Try.prog p2v [.int .i64 u1, .int .i64 u2] m1 (fun v _ _ => v = .int .i64 r)) {r : Int × Int × Int × Int × Int × List Int} (hm : terrain_filtered p0_0 p0_1 p0_2 p0_3 p0_4 p0_5 p1 p2 = some r) :
    Go.E.Spec Try.prog 52 [.agg #[.int .i64 p0_0, .int .i64 p0_1, .int .i64 p0_2, .int .i64 p0_3, .int .i64 p0_4, .slice a_p0_5 q_p0_5 c_p0_5], .int .i64 p1, p2v] m (terrain_filtered_Q r) := by
  refine Spec_enter Try.func52 rfl rfl rfl (fun w0 => ?_)
  refine WK.sub (e' := [(0, .agg #[.int .i64 p0_0, .int .i64 p0_1, .int .i64 p0_2, .int .i64 p0_3, .int .i64 p0_4, .slice a_p0_5 q_p0_5 c_p0_5]), (1, .int .i64 p1), (2, p2v)]) ⟨rfl, rfl, rfl, trivial⟩ ?_
  obtain rfl := SlR.qlen h_p0_5
  refine WK.sub (e' := [(0, .agg #[.int .i64 p0_0, .int .i64 p0_1, .int .i64 p0_2, .int .i64 p0_3, .int .i64 p0_4, .slice a_p0_5 p0_5.length c_p0_5]), (1, .int .i64 p1), (2, p2v)]) ⟨rfl, rfl, rfl, trivial⟩ ?_
  unfold terrain_filtered at hm
  refine WK_seq ?_
  refine WK_region ?_
  refine WO_box [.int .i64 p0_0, .int .i64 p0_1, .int .i64 p0_2, .int .i64 p0_3, .int .i64 p0_4, .slice a_p0_5 p0_5.length c_p0_5] rfl rfl trivial rfl rfl rfl (fun b1 => ?_)
  refine WO.cls (C' := St w0 m m [[⟨b1, 25, [.int .i64 p0_0, .int .i64 p0_1, .int .i64 p0_2, .int .i64 p0_3, .int .i64 p0_4, .slice a_p0_5 p0_5.length c_p0_5]⟩]]) (fun _ h => h) ?_
  refine WO_alloc tbok [.int .i64 0, .int .i64 0, .int .i64 0, .int .i64 0, .int .i64 0, .slice none 0 0] rfl rfl trivial rfl rfl rfl rfl (fun b2 => ?_)
  refine WO.cls (C' := St w0 m m [[⟨b1, 25, [.int .i64 p0_0, .int .i64 p0_1, .int .i64 p0_2, .int .i64 p0_3, .int .i64 p0_4, .slice a_p0_5 p0_5.length c_p0_5]⟩], [⟨b2, 25, [.int .i64 0, .int .i64 0, .int .i64 0, .int .i64 0, .int .i64 0, .slice none 0 0]⟩]]) (fun _ h => h) ?_
  refine WO_end ?_
  refine WK_seq ?_
  refine WK_region ?_
  refine WO_pure tbok 1 [(1, .int .i64 p1), (2, p2v), (3, .pointer (some ⟨b1, 0, none⟩)), (6, .pointer (some ⟨b2, 0, none⟩)), (15, .pointer (some ⟨b1, 5, none⟩))] rfl ⟨rfl, rfl, rfl, rfl, rfl, trivial⟩ ?_
  refine WO_loadB tbok 0 rfl rfl rfl rfl (fun _ h => h) rfl rfl ?_
  refine WO_pure tbok 1 [(1, .int .i64 p1), (2, p2v), (3, .pointer (some ⟨b1, 0, none⟩)), (6, .pointer (some ⟨b2, 0, none⟩)), (17, .int .i64 (p0_5.length : Int))] rfl ⟨rfl, rfl, rfl, rfl, rfl, trivial⟩ ?_
  obtain ⟨y_1, hc3, hm⟩ := bind_some hm
  refine WO_call1 (terrain_blank_Q y_1) rfl rfl trivial rfl rfl rfl rfl ⟨42, #[], #[], rfl, callable_42, fun w hw => ⟨_, hw.sat, terrain_blank_walk hc3⟩⟩ (fun v7 L6 hq => ?_)
  obtain ⟨a4, qa4, c5, rfl, hL6⟩ := hq
  obtain rfl := OwnE.qlen hL6
  refine WO.cls (C' := St w0 m m [[⟨b1, 25, [.int .i64 p0_0, .int .i64 p0_1, .int .i64 p0_2, .int .i64 p0_3, .int .i64 p0_4, .slice a_p0_5 p0_5.length c_p0_5]⟩], [⟨b2, 25, [.int .i64 0, .int .i64 0, .int .i64 0, .int .i64 0, .int .i64 0, .slice none 0 0]⟩], L6]) (fun _ h => h) ?_
  refine WO_pure tbok 1 [(1, .int .i64 p1), (2, p2v), (3, .pointer (some ⟨b1, 0, none⟩)), (6, .pointer (some ⟨b2, 0, none⟩)), (7, .slice a4 ((y_1).length) c5)] rfl ⟨rfl, rfl, rfl, rfl, rfl, trivial⟩ ?_
  refine WO_end ?_
  refine WK_seq ?_
  refine WK_seq ?_
  refine WK_region ?_
  refine WO_pure tbok 1 [(1, .int .i64 p1), (2, p2v), (3, .pointer (some ⟨b1, 0, none⟩)), (6, .pointer (some ⟨b2, 0, none⟩)), (7, .slice a4 ((y_1).length) c5), (19, .pointer (some ⟨b1, 5, none⟩))] rfl ⟨rfl, rfl, rfl, rfl, rfl, rfl, trivial⟩ ?_
  refine WO_loadB tbok 0 rfl rfl rfl rfl (fun _ h => h) rfl rfl ?_
  refine WO_pure tbok 2 [(1, .int .i64 p1), (2, p2v), (3, .pointer (some ⟨b1, 0, none⟩)), (6, .pointer (some ⟨b2, 0, none⟩)), (7, .slice a4 ((y_1).length) c5), (20, .slice a_p0_5 p0_5.length c_p0_5), (21, .int .i64 (p0_5.length : Int)), (22, .int .i64 0)] rfl ⟨rfl, rfl, rfl, rfl, rfl, rfl, rfl, rfl, trivial⟩ ?_
  refine WO_end ?_
  obtain ⟨x10, hx11, hm⟩ := bind_some hm
  refine WK_join (β := (List Int) × (List Ent)) (fun p => p.1 = x10 ∧ OwnE 3 1 (I1 .i64) (.slice a4 ((y_1).length) c5) p.1 p.2) (fun p => [(3, .pointer (some ⟨b1, 0, none⟩)), (6, .pointer (some ⟨b2, 0, none⟩)), (7, .slice a4 ((y_1).length) c5)]) (fun p => St w0 m m [[⟨b1, 25, [.int .i64 p0_0, .int .i64 p0_1, .int .i64 p0_2, .int .i64 p0_3, .int .i64 p0_4, .slice a_p0_5 p0_5.length c_p0_5]⟩], [⟨b2, 25, [.int .i64 0, .int .i64 0, .int .i64 0, .int .i64 0, .int .i64 0, .slice none 0 0]⟩], p.2]) ?_ (fun hk12 => ?_)
  · rintro ⟨l_4, L9⟩ ⟨hq18, hL9⟩
    subst hq18
    refine WK.sub (e' := [(3, .pointer (some ⟨b1, 0, none⟩)), (6, .pointer (some ⟨b2, 0, none⟩)), (7, .slice a4 ((y_1).length) c5)]) ⟨rfl, rfl, rfl, trivial⟩ (WK.cls (C' := St w0 m m [[⟨b1, 25, [.int .i64 p0_0, .int .i64 p0_1, .int .i64 p0_2, .int .i64 p0_3, .int .i64 p0_4, .slice a_p0_5 p0_5.length c_p0_5]⟩], [⟨b2, 25, [.int .i64 0, .int .i64 0, .int .i64 0, .int .i64 0, .int .i64 0, .slice none 0 0]⟩], L9]) (fun _ h => h) ?_)
    refine WK_seq ?_
    refine WK_region ?_
    refine WO_loadB tbok 0 rfl rfl rfl rfl (fun _ h => h) rfl rfl ?_
    refine WO_pure tbok 1 [(6, .pointer (some ⟨b2, 0, none⟩)), (94, .agg #[.int .i64 p0_0, .int .i64 p0_1, .int .i64 p0_2, .int .i64 p0_3, .int .i64 p0_4, .slice a_p0_5 p0_5.length c_p0_5]), (95, .slice a4 ((y_1).length) c5)] rfl ⟨rfl, rfl, rfl, trivial⟩ ?_
    refine WO_freeze 2 rfl (fun m19 hle20 hmm21 => ?_)
    refine WO.cls (C' := St w0 m m19 [[⟨b1, 25, [.int .i64 p0_0, .int .i64 p0_1, .int .i64 p0_2, .int .i64 p0_3, .int .i64 p0_4, .slice a_p0_5 p0_5.length c_p0_5]⟩], [⟨b2, 25, [.int .i64 0, .int .i64 0, .int .i64 0, .int .i64 0, .int .i64 0, .slice none 0 0]⟩], []]) (fun _ h => h) ?_
    obtain ⟨⟨y_5, y_6, y_7, y_8, y_9, y_10⟩, hc22, hm⟩ := bind_some hm
    refine WO_call2 (terrain_with_Q (y_5, y_6, y_7, y_8, y_9, y_10)) rfl rfl trivial rfl rfl rfl rfl ⟨44, #[], #[], rfl, callable_44, terrain_with_walk (h_p0_5.mono (mono_FE _) hle20) (OwnE.rd (E := (I1 .i64)) (k := 1) (fun _ => rfl) hL9 hmm21) hc22⟩ (fun v26 m27 L25 hle28 hq => ?_)
    obtain ⟨a23, qa23, c24, rfl, h29⟩ := hq
    obtain rfl := SlR.qlen h29
    refine WO.cls (C' := St w0 m m27 [[⟨b1, 25, [.int .i64 p0_0, .int .i64 p0_1, .int .i64 p0_2, .int .i64 p0_3, .int .i64 p0_4, .slice a_p0_5 p0_5.length c_p0_5]⟩], [⟨b2, 25, [.int .i64 0, .int .i64 0, .int .i64 0, .int .i64 0, .int .i64 0, .slice none 0 0]⟩], [], L25]) (fun _ h => h.sub (by simp)) ?_
    refine WO_storeB tbok 1 [.int .i64 y_5, .int .i64 y_6, .int .i64 y_7, .int .i64 y_8, .int .i64 y_9, .slice a23 ((y_10).length) c24] rfl rfl rfl rfl rfl rfl rfl ?_
    refine WO.cls (C' := St w0 m m27 [[⟨b1, 25, [.int .i64 p0_0, .int .i64 p0_1, .int .i64 p0_2, .int .i64 p0_3, .int .i64 p0_4, .slice a_p0_5 p0_5.length c_p0_5]⟩], [⟨b2, 25, [.int .i64 y_5, .int .i64 y_6, .int .i64 y_7, .int .i64 y_8, .int .i64 y_9, .slice a23 ((y_10).length) c24]⟩], [], L25]) (fun _ h => h) ?_
    refine WO_end ?_
    cases hm
    exact WK_ret (ret_out (L := []) (RLc_cell tbok 1 rfl rfl rfl RLc_nil) (List.nil_sublist _) ⟨a23, _, c24, rfl, h29⟩)
  · refine WK_block ?_
    refine WK_loop (S := List Int × Int) (G := List Ent) (fun s => terrain_filtered_s1 p0_3 p0_4 p0_5 p1 p2 s.1 s.2) (fun s g => [(1, .int .i64 p1), (2, p2v), (3, .pointer (some ⟨b1, 0, none⟩)), (6, .pointer (some ⟨b2, 0, none⟩)), (7, .slice a4 ((y_1).length) c5), (20, .slice a_p0_5 p0_5.length c_p0_5), (21, .int .i64 (p0_5.length : Int)), (22, .int .i64 s.2)]) (fun s g => St w0 m m [[⟨b1, 25, [.int .i64 p0_0, .int .i64 p0_1, .int .i64 p0_2, .int .i64 p0_3, .int .i64 p0_4, .slice a_p0_5 p0_5.length c_p0_5]⟩], [⟨b2, 25, [.int .i64 0, .int .i64 0, .int .i64 0, .int .i64 0, .int .i64 0, .slice none 0 0]⟩], g]) (fun s g => OwnE 3 1 (I1 .i64) (.slice a4 ((y_1).length) c5) s.1 g) FUEL (y_1, 0) L6 x10 hx11 hL6 ⟨rfl, rfl, rfl, rfl, rfl, rfl, rfl, rfl, trivial⟩ (fun _ h => h) ?_
    rintro ⟨l_2, s_3⟩ L8 o14 fl15 hm13 hL8 hn16 hd17
    have hm13 : terrain_filtered_s1 p0_3 p0_4 p0_5 p1 p2 l_2 s_3 = some o14 := hm13
    unfold terrain_filtered_s1 at hm13
    refine WK.sub (e' := [(1, .int .i64 p1), (2, p2v), (3, .pointer (some ⟨b1, 0, none⟩)), (6, .pointer (some ⟨b2, 0, none⟩)), (7, .slice a4 ((y_1).length) c5), (20, .slice a_p0_5 p0_5.length c_p0_5), (21, .int .i64 (p0_5.length : Int)), (22, .int .i64 s_3)]) ⟨rfl, rfl, rfl, rfl, rfl, rfl, rfl, rfl, trivial⟩ (WK.cls (C' := St w0 m m [[⟨b1, 25, [.int .i64 p0_0, .int .i64 p0_1, .int .i64 p0_2, .int .i64 p0_3, .int .i64 p0_4, .slice a_p0_5 p0_5.length c_p0_5]⟩], [⟨b2, 25, [.int .i64 0, .int .i64 0, .int .i64 0, .int .i64 0, .int .i64 0, .slice none 0 0]⟩], L8]) (fun _ h => h) ?_)
    refine WK_seq ?_
    refine WK_region ?_
    refine WO_pure tbok 1 [(1, .int .i64 p1), (2, p2v), (3, .pointer (some ⟨b1, 0, none⟩)), (6, .pointer (some ⟨b2, 0, none⟩)), (7, .slice a4 ((y_1).length) c5), (20, .slice a_p0_5 p0_5.length c_p0_5), (21, .int .i64 (p0_5.length : Int)), (22, .int .i64 s_3), (23, .bool (decide (s_3 < (p0_5.length : Int))))] rfl ⟨rfl, rfl, rfl, rfl, rfl, rfl, rfl, rfl, rfl, trivial⟩ ?_
    refine WO_end ?_
    refine WK_seq ?_
    refine WK_cond (b := decide (s_3 < (p0_5.length : Int))) rfl (fun hb30 => ?_) (fun hb30 => ?_)
    · have hm13 := ifT hb30 hm13
      refine WK_skip ?_
      refine WK_seq ?_
      refine WK_block ?_
      refine WK_seq ?_
      refine WK_region ?_
      refine WO_pure tbok 1 [(1, .int .i64 p1), (2, p2v), (3, .pointer (some ⟨b1, 0, none⟩)), (6, .pointer (some ⟨b2, 0, none⟩)), (7, .slice a4 ((y_1).length) c5), (20, .slice a_p0_5 p0_5.length c_p0_5), (21, .int .i64 (p0_5.length : Int)), (22, .int .i64 s_3), (24, .int .i64 s_3)] rfl ⟨rfl, rfl, rfl, rfl, rfl, rfl, rfl, rfl, rfl, trivial⟩ ?_
      obtain ⟨v_11, hy31, hm13⟩ := bind_some hm13
      obtain ⟨hc32, hy31⟩ := ix_some hy31
      refine WO_index tbok rfl rfl rfl rfl rfl rfl rfl rfl (SlR.addr h_p0_5) hc32 ?_
      refine WO_loadE tbok rfl rfl rfl rfl (fun _ h => St.sat h) h_p0_5 hy31 rfl ?_
      refine WO_pure tbok 2 [(1, .int .i64 p1), (2, p2v), (3, .pointer (some ⟨b1, 0, none⟩)), (6, .pointer (some ⟨b2, 0, none⟩)), (7, .slice a4 ((y_1).length) c5), (8, .int .i64 s_3), (9, .int .i64 v_11), (20, .slice a_p0_5 p0_5.length c_p0_5), (21, .int .i64 (p0_5.length : Int)), (22, .int .i64 s_3)] rfl ⟨rfl, rfl, rfl, rfl, rfl, rfl, rfl, rfl, rfl, rfl, trivial⟩ ?_
      refine WO_end ?_
      refine WK_seq ?_
      refine WK_seq ?_
      refine WK_region ?_
      refine WO_pure tbok 2 [(1, .int .i64 p1), (2, p2v), (3, .pointer (some ⟨b1, 0, none⟩)), (6, .pointer (some ⟨b2, 0, none⟩)), (7, .slice a4 ((y_1).length) c5), (8, .int .i64 s_3), (9, .int .i64 v_11), (20, .slice a_p0_5 p0_5.length c_p0_5), (21, .int .i64 (p0_5.length : Int)), (22, .int .i64 s_3), (28, .bool (v_11 == (-2147483648)))] rfl ⟨rfl, rfl, rfl, rfl, rfl, rfl, rfl, rfl, rfl, rfl, rfl, trivial⟩ ?_
      refine WO_end ?_
      refine WK_cond (b := v_11 == (-2147483648)) rfl (fun hb33 => ?_) (fun hb33 => ?_)
      · have hm13 := ifT hb33 hm13
        refine WK_exit rfl ?_
        refine WK_region ?_
        refine WO_pure tbok 2 [(1, .int .i64 p1), (2, p2v), (3, .pointer (some ⟨b1, 0, none⟩)), (6, .pointer (some ⟨b2, 0, none⟩)), (7, .slice a4 ((y_1).length) c5), (20, .slice a_p0_5 p0_5.length c_p0_5), (21, .int .i64 (p0_5.length : Int)), (22, .int .i64 (w64 (s_3 + 1)))] rfl ⟨rfl, rfl, rfl, rfl, rfl, rfl, rfl, rfl, trivial⟩ ?_
        refine WO_end ?_
        cases hm13
        refine WK.sub ?_ (WK.cls (fun _ h => h) (hn16 _ L8 rfl hL8))
        exact ⟨rfl, rfl, rfl, rfl, rfl, rfl, rfl, rfl, trivial⟩
      · have hm13 := ifF hb33 hm13
        refine WK_skip ?_
        refine WK_seq ?_
        refine WK_region ?_
        refine WO_pure tbok 3 [(1, .int .i64 p1), (2, p2v), (3, .pointer (some ⟨b1, 0, none⟩)), (6, .pointer (some ⟨b2, 0, none⟩)), (7, .slice a4 ((y_1).length) c5), (8, .int .i64 s_3), (20, .slice a_p0_5 p0_5.length c_p0_5), (21, .int .i64 (p0_5.length : Int)), (22, .int .i64 s_3), (29, .slice a4 ((y_1).length) c5), (30, .int .i64 s_3), (31, .int .i64 v_11)] rfl ⟨rfl, rfl, rfl, rfl, rfl, rfl, rfl, rfl, rfl, rfl, rfl, rfl, trivial⟩ ?_
        obtain ⟨hc34, hm13⟩ := chk_some hm13
        refine WO_index tbok rfl rfl rfl rfl rfl rfl rfl rfl (OwnE.addr hL8) (by simpa using hc34) ?_
        refine WO_storeO (E := (I1 .i64)) tbok (fun _ => rfl) 2 v_11 rfl rfl rfl rfl rfl hL8 rfl (by simpa using idx_lt hc34) rfl rfl rfl rfl (fun L35 hL35 => ?_)
        refine WO.cls (C' := St w0 m m [[⟨b1, 25, [.int .i64 p0_0, .int .i64 p0_1, .int .i64 p0_2, .int .i64 p0_3, .int .i64 p0_4, .slice a_p0_5 p0_5.length c_p0_5]⟩], [⟨b2, 25, [.int .i64 0, .int .i64 0, .int .i64 0, .int .i64 0, .int .i64 0, .slice none 0 0]⟩], L35]) (fun _ h => h) ?_
        refine WO_end ?_
        refine WK_seq ?_
        refine WK_draw 10 [0, 1, 2, 3, 4, 5, 6, 7, 8, 9] follows_ok (by kernel_rfl) St_closed ?_
        refine WO_pure tbok 2 [(1, .int .i64 p1), (2, p2v), (3, .pointer (some ⟨b1, 0, none⟩)), (6, .pointer (some ⟨b2, 0, none⟩)), (7, .slice a4 ((y_1).length) c5), (8, .int .i64 s_3), (20, .slice a_p0_5 p0_5.length c_p0_5), (21, .int .i64 (p0_5.length : Int)), (22, .int .i64 s_3), (33, .int .i64 s_3), (34, .pointer (some ⟨b1, 3, none⟩))] rfl ⟨rfl, rfl, rfl, rfl, rfl, rfl, rfl, rfl, rfl, rfl, rfl, trivial⟩ ?_
        refine WO_loadB tbok 0 rfl rfl rfl rfl (fun _ h => h) rfl rfl ?_
        obtain ⟨hc36, hm13⟩ := chk_some hm13
        refine WO_rem rfl rfl rfl rfl rfl hc36 ?_
        refine WO_pure tbok 2 [(1, .int .i64 p1), (2, p2v), (3, .pointer (some ⟨b1, 0, none⟩)), (6, .pointer (some ⟨b2, 0, none⟩)), (7, .slice a4 ((y_1).length) c5), (8, .int .i64 s_3), (20, .slice a_p0_5 p0_5.length c_p0_5), (21, .int .i64 (p0_5.length : Int)), (22, .int .i64 s_3), (36, .int .i64 (Int.tmod s_3 p0_3)), (37, .int .i64 s_3), (38, .pointer (some ⟨b1, 3, none⟩))] rfl ⟨rfl, rfl, rfl, rfl, rfl, rfl, rfl, rfl, rfl, rfl, rfl, rfl, trivial⟩ ?_
        refine WO_loadB tbok 0 rfl rfl rfl rfl (fun _ h => h) rfl rfl ?_
        obtain ⟨hc37, hm13⟩ := chk_some hm13
        refine WO_quo rfl rfl rfl rfl rfl hc37 ?_
        refine WO_pure tbok 2 [(1, .int .i64 p1), (2, p2v), (3, .pointer (some ⟨b1, 0, none⟩)), (6, .pointer (some ⟨b2, 0, none⟩)), (7, .slice a4 ((y_1).length) c5), (8, .int .i64 s_3), (10, .int .i64 (Int.tmod s_3 p0_3)), (11, .int .i64 (w64 (Int.tdiv s_3 p0_3))), (20, .slice a_p0_5 p0_5.length c_p0_5), (21, .int .i64 (p0_5.length : Int)), (22, .int .i64 s_3)] rfl ⟨rfl, rfl, rfl, rfl, rfl, rfl, rfl, rfl, rfl, rfl, rfl, trivial⟩ ?_
        refine WO_tail ?_
        refine WO_end ?_
        refine WK_seq ?_
        refine WK_region ?_
        refine WO_pure tbok 5 [(1, .int .i64 p1), (2, p2v), (3, .pointer (some ⟨b1, 0, none⟩)), (6, .pointer (some ⟨b2, 0, none⟩)), (7, .slice a4 ((y_1).length) c5), (8, .int .i64 s_3), (10, .int .i64 (Int.tmod s_3 p0_3)), (11, .int .i64 (w64 (Int.tdiv s_3 p0_3))), (12, .int .i64 (if 0 < (w64 ((w64 (Int.tdiv s_3 p0_3)) - p1)) then (w64 ((w64 (Int.tdiv s_3 p0_3)) - p1)) else 0)), (20, .slice a_p0_5 p0_5.length c_p0_5), (21, .int .i64 (p0_5.length : Int)), (22, .int .i64 s_3)] rfl ⟨rfl, rfl, rfl, rfl, rfl, rfl, rfl, rfl, rfl, rfl, rfl, rfl, trivial⟩ ?_
        refine WO_end ?_
        obtain ⟨x40, hx41, hm13⟩ := bind_some hm13
        refine WK_join (β := (List Int) × (List Ent)) (fun p => p.1 = x40 ∧ OwnE 3 1 (I1 .i64) (.slice a4 ((y_1).length) c5) p.1 p.2) (fun p => [(1, .int .i64 p1), (2, p2v), (3, .pointer (some ⟨b1, 0, none⟩)), (6, .pointer (some ⟨b2, 0, none⟩)), (7, .slice a4 ((y_1).length) c5), (20, .slice a_p0_5 p0_5.length c_p0_5), (21, .int .i64 (p0_5.length : Int)), (22, .int .i64 s_3)]) (fun p => St w0 m m [[⟨b1, 25, [.int .i64 p0_0, .int .i64 p0_1, .int .i64 p0_2, .int .i64 p0_3, .int .i64 p0_4, .slice a_p0_5 p0_5.length c_p0_5]⟩], [⟨b2, 25, [.int .i64 0, .int .i64 0, .int .i64 0, .int .i64 0, .int .i64 0, .slice none 0 0]⟩], p.2]) ?_ (fun hk42 => ?_)
        · rintro ⟨l_14, L39⟩ ⟨hq48, hL39⟩
          subst hq48
          refine WK.sub (e' := [(1, .int .i64 p1), (2, p2v), (3, .pointer (some ⟨b1, 0, none⟩)), (6, .pointer (some ⟨b2, 0, none⟩)), (7, .slice a4 ((y_1).length) c5), (20, .slice a_p0_5 p0_5.length c_p0_5), (21, .int .i64 (p0_5.length : Int)), (22, .int .i64 s_3)]) ⟨rfl, rfl, rfl, rfl, rfl, rfl, rfl, rfl, trivial⟩ (WK.cls (C' := St w0 m m [[⟨b1, 25, [.int .i64 p0_0, .int .i64 p0_1, .int .i64 p0_2, .int .i64 p0_3, .int .i64 p0_4, .slice a_p0_5 p0_5.length c_p0_5]⟩], [⟨b2, 25, [.int .i64 0, .int .i64 0, .int .i64 0, .int .i64 0, .int .i64 0, .slice none 0 0]⟩], L39]) (fun _ h => h) ?_)
          refine WK_blk ?_
          refine WK_region ?_
          refine WO_pure tbok 2 [(1, .int .i64 p1), (2, p2v), (3, .pointer (some ⟨b1, 0, none⟩)), (6, .pointer (some ⟨b2, 0, none⟩)), (7, .slice a4 ((y_1).length) c5), (20, .slice a_p0_5 p0_5.length c_p0_5), (21, .int .i64 (p0_5.length : Int)), (22, .int .i64 (w64 (s_3 + 1)))] rfl ⟨rfl, rfl, rfl, rfl, rfl, rfl, rfl, rfl, trivial⟩ ?_
          refine WO_end ?_
          cases hm13
          refine WK.sub ?_ (WK.cls (fun _ h => h) (hn16 _ L39 rfl hL39))
          exact ⟨rfl, rfl, rfl, rfl, rfl, rfl, rfl, rfl, trivial⟩
        · refine WK_block ?_
          refine WK_loop (S := List Int × Int) (G := List Ent) (fun s => terrain_filtered_s2 p0_3 p0_4 p0_5 p1 p2 s_3 s.1 s.2) (fun s g => [(1, .int .i64 p1), (2, p2v), (3, .pointer (some ⟨b1, 0, none⟩)), (6, .pointer (some ⟨b2, 0, none⟩)), (7, .slice a4 ((y_1).length) c5), (8, .int .i64 s_3), (10, .int .i64 (Int.tmod s_3 p0_3)), (11, .int .i64 (w64 (Int.tdiv s_3 p0_3))), (12, .int .i64 s.2), (20, .slice a_p0_5 p0_5.length c_p0_5), (21, .int .i64 (p0_5.length : Int)), (22, .int .i64 s_3)]) (fun s g => St w0 m m [[⟨b1, 25, [.int .i64 p0_0, .int .i64 p0_1, .int .i64 p0_2, .int .i64 p0_3, .int .i64 p0_4, .slice a_p0_5 p0_5.length c_p0_5]⟩], [⟨b2, 25, [.int .i64 0, .int .i64 0, .int .i64 0, .int .i64 0, .int .i64 0, .slice none 0 0]⟩], g]) (fun s g => OwnE 3 1 (I1 .i64) (.slice a4 ((y_1).length) c5) s.1 g) FUEL ((l_2.set s_3.toNat v_11), (if 0 < (w64 ((w64 (Int.tdiv s_3 p0_3)) - p1)) then (w64 ((w64 (Int.tdiv s_3 p0_3)) - p1)) else 0)) L35 x40 hx41 hL35 ⟨rfl, rfl, rfl, rfl, rfl, rfl, rfl, rfl, rfl, rfl, rfl, rfl, trivial⟩ (fun _ h => h) ?_
          rintro ⟨l_12, s_13⟩ L38 o44 fl45 hm43 hL38 hn46 hd47
          have hm43 : terrain_filtered_s2 p0_3 p0_4 p0_5 p1 p2 s_3 l_12 s_13 = some o44 := hm43
          unfold terrain_filtered_s2 at hm43
          refine WK.sub (e' := [(1, .int .i64 p1), (2, p2v), (3, .pointer (some ⟨b1, 0, none⟩)), (6, .pointer (some ⟨b2, 0, none⟩)), (7, .slice a4 ((y_1).length) c5), (8, .int .i64 s_3), (10, .int .i64 (Int.tmod s_3 p0_3)), (11, .int .i64 (w64 (Int.tdiv s_3 p0_3))), (12, .int .i64 s_13), (20, .slice a_p0_5 p0_5.length c_p0_5), (21, .int .i64 (p0_5.length : Int)), (22, .int .i64 s_3)]) ⟨rfl, rfl, rfl, rfl, rfl, rfl, rfl, rfl, rfl, rfl, rfl, rfl, trivial⟩ (WK.cls (C' := St w0 m m [[⟨b1, 25, [.int .i64 p0_0, .int .i64 p0_1, .int .i64 p0_2, .int .i64 p0_3, .int .i64 p0_4, .slice a_p0_5 p0_5.length c_p0_5]⟩], [⟨b2, 25, [.int .i64 0, .int .i64 0, .int .i64 0, .int .i64 0, .int .i64 0, .slice none 0 0]⟩], L38]) (fun _ h => h) ?_)
          refine WK_seq ?_
          refine WK_seq ?_
          refine WK_region ?_
          refine WO_pure tbok 2 [(1, .int .i64 p1), (2, p2v), (3, .pointer (some ⟨b1, 0, none⟩)), (6, .pointer (some ⟨b2, 0, none⟩)), (7, .slice a4 ((y_1).length) c5), (8, .int .i64 s_3), (10, .int .i64 (Int.tmod s_3 p0_3)), (11, .int .i64 (w64 (Int.tdiv s_3 p0_3))), (12, .int .i64 s_13), (20, .slice a_p0_5 p0_5.length c_p0_5), (21, .int .i64 (p0_5.length : Int)), (22, .int .i64 s_3), (45, .int .i64 s_13), (46, .pointer (some ⟨b1, 4, none⟩))] rfl ⟨rfl, rfl, rfl, rfl, rfl, rfl, rfl, rfl, rfl, rfl, rfl, rfl, rfl, rfl, trivial⟩ ?_
          refine WO_loadB tbok 0 rfl rfl rfl rfl (fun _ h => h) rfl rfl ?_
          refine WO_pure tbok 6 [(1, .int .i64 p1), (2, p2v), (3, .pointer (some ⟨b1, 0, none⟩)), (6, .pointer (some ⟨b2, 0, none⟩)), (7, .slice a4 ((y_1).length) c5), (8, .int .i64 s_3), (10, .int .i64 (Int.tmod s_3 p0_3)), (11, .int .i64 (w64 (Int.tdiv s_3 p0_3))), (12, .int .i64 s_13), (20, .slice a_p0_5 p0_5.length c_p0_5), (21, .int .i64 (p0_5.length : Int)), (22, .int .i64 s_3), (53, .bool (decide (s_13 ≤ (if (w64 ((w64 (Int.tdiv s_3 p0_3)) + p1)) < (w64 (p0_4 - 1)) then (w64 ((w64 (Int.tdiv s_3 p0_3)) + p1)) else (w64 (p0_4 - 1))))))] rfl ⟨rfl, rfl, rfl, rfl, rfl, rfl, rfl, rfl, rfl, rfl, rfl, rfl, rfl, trivial⟩ ?_
          refine WO_end ?_
          refine WK_cond (b := decide (s_13 ≤ (if (w64 ((w64 (Int.tdiv s_3 p0_3)) + p1)) < (w64 (p0_4 - 1)) then (w64 ((w64 (Int.tdiv s_3 p0_3)) + p1)) else (w64 (p0_4 - 1))))) rfl (fun hb49 => ?_) (fun hb49 => ?_)
          · have hm43 := ifT hb49 hm43
            refine WK_skip ?_
            refine WK_seq ?_
            refine WK_block ?_
            refine WK_seq ?_
            refine WK_region ?_
            refine WO_pure tbok 5 [(1, .int .i64 p1), (2, p2v), (3, .pointer (some ⟨b1, 0, none⟩)), (6, .pointer (some ⟨b2, 0, none⟩)), (7, .slice a4 ((y_1).length) c5), (8, .int .i64 s_3), (10, .int .i64 (Int.tmod s_3 p0_3)), (11, .int .i64 (w64 (Int.tdiv s_3 p0_3))), (12, .int .i64 s_13), (13, .int .i64 (if 0 < (w64 ((Int.tmod s_3 p0_3) - p1)) then (w64 ((Int.tmod s_3 p0_3) - p1)) else 0)), (20, .slice a_p0_5 p0_5.length c_p0_5), (21, .int .i64 (p0_5.length : Int)), (22, .int .i64 s_3)] rfl ⟨rfl, rfl, rfl, rfl, rfl, rfl, rfl, rfl, rfl, rfl, rfl, rfl, rfl, trivial⟩ ?_
            refine WO_end ?_
            obtain ⟨x52, hx53, hm43⟩ := bind_some hm43
            refine WK_join (β := (List Int) × (List Ent)) (fun p => p.1 = x52 ∧ OwnE 3 1 (I1 .i64) (.slice a4 ((y_1).length) c5) p.1 p.2) (fun p => [(1, .int .i64 p1), (2, p2v), (3, .pointer (some ⟨b1, 0, none⟩)), (6, .pointer (some ⟨b2, 0, none⟩)), (7, .slice a4 ((y_1).length) c5), (8, .int .i64 s_3), (10, .int .i64 (Int.tmod s_3 p0_3)), (11, .int .i64 (w64 (Int.tdiv s_3 p0_3))), (12, .int .i64 s_13), (20, .slice a_p0_5 p0_5.length c_p0_5), (21, .int .i64 (p0_5.length : Int)), (22, .int .i64 s_3)]) (fun p => St w0 m m [[⟨b1, 25, [.int .i64 p0_0, .int .i64 p0_1, .int .i64 p0_2, .int .i64 p0_3, .int .i64 p0_4, .slice a_p0_5 p0_5.length c_p0_5]⟩], [⟨b2, 25, [.int .i64 0, .int .i64 0, .int .i64 0, .int .i64 0, .int .i64 0, .slice none 0 0]⟩], p.2]) ?_ (fun hk54 => ?_)
            · rintro ⟨l_17, L51⟩ ⟨hq60, hL51⟩
              subst hq60
              refine WK.sub (e' := [(1, .int .i64 p1), (2, p2v), (3, .pointer (some ⟨b1, 0, none⟩)), (6, .pointer (some ⟨b2, 0, none⟩)), (7, .slice a4 ((y_1).length) c5), (8, .int .i64 s_3), (10, .int .i64 (Int.tmod s_3 p0_3)), (11, .int .i64 (w64 (Int.tdiv s_3 p0_3))), (12, .int .i64 s_13), (20, .slice a_p0_5 p0_5.length c_p0_5), (21, .int .i64 (p0_5.length : Int)), (22, .int .i64 s_3)]) ⟨rfl, rfl, rfl, rfl, rfl, rfl, rfl, rfl, rfl, rfl, rfl, rfl, trivial⟩ (WK.cls (C' := St w0 m m [[⟨b1, 25, [.int .i64 p0_0, .int .i64 p0_1, .int .i64 p0_2, .int .i64 p0_3, .int .i64 p0_4, .slice a_p0_5 p0_5.length c_p0_5]⟩], [⟨b2, 25, [.int .i64 0, .int .i64 0, .int .i64 0, .int .i64 0, .int .i64 0, .slice none 0 0]⟩], L51]) (fun _ h => h) ?_)
              refine WK_blk ?_
              refine WK_region ?_
              refine WO_pure tbok 3 [(1, .int .i64 p1), (2, p2v), (3, .pointer (some ⟨b1, 0, none⟩)), (6, .pointer (some ⟨b2, 0, none⟩)), (7, .slice a4 ((y_1).length) c5), (8, .int .i64 s_3), (10, .int .i64 (Int.tmod s_3 p0_3)), (11, .int .i64 (w64 (Int.tdiv s_3 p0_3))), (12, .int .i64 (w64 (s_13 + 1))), (20, .slice a_p0_5 p0_5.length c_p0_5), (21, .int .i64 (p0_5.length : Int)), (22, .int .i64 s_3)] rfl ⟨rfl, rfl, rfl, rfl, rfl, rfl, rfl, rfl, rfl, rfl, rfl, rfl, trivial⟩ ?_
              refine WO_end ?_
              cases hm43
              refine WK.sub ?_ (WK.cls (fun _ h => h) (hn46 _ L51 rfl hL51))
              exact ⟨rfl, rfl, rfl, rfl, rfl, rfl, rfl, rfl, rfl, rfl, rfl, rfl, trivial⟩
            · refine WK_block ?_
              refine WK_loop (S := List Int × Int) (G := List Ent) (fun s => terrain_filtered_s3 p0_3 p0_5 p1 p2 s_3 s_13 s.1 s.2) (fun s g => [(1, .int .i64 p1), (2, p2v), (3, .pointer (some ⟨b1, 0, none⟩)), (6, .pointer (some ⟨b2, 0, none⟩)), (7, .slice a4 ((y_1).length) c5), (8, .int .i64 s_3), (10, .int .i64 (Int.tmod s_3 p0_3)), (11, .int .i64 (w64 (Int.tdiv s_3 p0_3))), (12, .int .i64 s_13), (13, .int .i64 s.2), (20, .slice a_p0_5 p0_5.length c_p0_5), (21, .int .i64 (p0_5.length : Int)), (22, .int .i64 s_3)]) (fun s g => St w0 m m [[⟨b1, 25, [.int .i64 p0_0, .int .i64 p0_1, .int .i64 p0_2, .int .i64 p0_3, .int .i64 p0_4, .slice a_p0_5 p0_5.length c_p0_5]⟩], [⟨b2, 25, [.int .i64 0, .int .i64 0, .int .i64 0, .int .i64 0, .int .i64 0, .slice none 0 0]⟩], g]) (fun s g => OwnE 3 1 (I1 .i64) (.slice a4 ((y_1).length) c5) s.1 g) FUEL (l_12, (if 0 < (w64 ((Int.tmod s_3 p0_3) - p1)) then (w64 ((Int.tmod s_3 p0_3) - p1)) else 0)) L38 x52 hx53 hL38 ⟨rfl, rfl, rfl, rfl, rfl, rfl, rfl, rfl, rfl, rfl, rfl, rfl, rfl, trivial⟩ (fun _ h => h) ?_
              rintro ⟨l_15, s_16⟩ L50 o56 fl57 hm55 hL50 hn58 hd59
              have hm55 : terrain_filtered_s3 p0_3 p0_5 p1 p2 s_3 s_13 l_15 s_16 = some o56 := hm55
              unfold terrain_filtered_s3 at hm55
              refine WK.sub (e' := [(1, .int .i64 p1), (2, p2v), (3, .pointer (some ⟨b1, 0, none⟩)), (6, .pointer (some ⟨b2, 0, none⟩)), (7, .slice a4 ((y_1).length) c5), (8, .int .i64 s_3), (10, .int .i64 (Int.tmod s_3 p0_3)), (11, .int .i64 (w64 (Int.tdiv s_3 p0_3))), (12, .int .i64 s_13), (13, .int .i64 s_16), (20, .slice a_p0_5 p0_5.length c_p0_5), (21, .int .i64 (p0_5.length : Int)), (22, .int .i64 s_3)]) ⟨rfl, rfl, rfl, rfl, rfl, rfl, rfl, rfl, rfl, rfl, rfl, rfl, rfl, trivial⟩ (WK.cls (C' := St w0 m m [[⟨b1, 25, [.int .i64 p0_0, .int .i64 p0_1, .int .i64 p0_2, .int .i64 p0_3, .int .i64 p0_4, .slice a_p0_5 p0_5.length c_p0_5]⟩], [⟨b2, 25, [.int .i64 0, .int .i64 0, .int .i64 0, .int .i64 0, .int .i64 0, .slice none 0 0]⟩], L50]) (fun _ h => h) ?_)
              refine WK_seq ?_
              refine WK_seq ?_
              refine WK_region ?_
              refine WO_pure tbok 2 [(1, .int .i64 p1), (2, p2v), (3, .pointer (some ⟨b1, 0, none⟩)), (6, .pointer (some ⟨b2, 0, none⟩)), (7, .slice a4 ((y_1).length) c5), (8, .int .i64 s_3), (10, .int .i64 (Int.tmod s_3 p0_3)), (11, .int .i64 (w64 (Int.tdiv s_3 p0_3))), (12, .int .i64 s_13), (13, .int .i64 s_16), (20, .slice a_p0_5 p0_5.length c_p0_5), (21, .int .i64 (p0_5.length : Int)), (22, .int .i64 s_3), (60, .int .i64 s_16), (61, .pointer (some ⟨b1, 3, none⟩))] rfl ⟨rfl, rfl, rfl, rfl, rfl, rfl, rfl, rfl, rfl, rfl, rfl, rfl, rfl, rfl, rfl, trivial⟩ ?_
              refine WO_loadB tbok 0 rfl rfl rfl rfl (fun _ h => h) rfl rfl ?_
              refine WO_pure tbok 6 [(1, .int .i64 p1), (2, p2v), (3, .pointer (some ⟨b1, 0, none⟩)), (6, .pointer (some ⟨b2, 0, none⟩)), (7, .slice a4 ((y_1).length) c5), (8, .int .i64 s_3), (10, .int .i64 (Int.tmod s_3 p0_3)), (11, .int .i64 (w64 (Int.tdiv s_3 p0_3))), (12, .int .i64 s_13), (13, .int .i64 s_16), (20, .slice a_p0_5 p0_5.length c_p0_5), (21, .int .i64 (p0_5.length : Int)), (22, .int .i64 s_3), (68, .bool (decide (s_16 ≤ (if (w64 ((Int.tmod s_3 p0_3) + p1)) < (w64 (p0_3 - 1)) then (w64 ((Int.tmod s_3 p0_3) + p1)) else (w64 (p0_3 - 1))))))] rfl ⟨rfl, rfl, rfl, rfl, rfl, rfl, rfl, rfl, rfl, rfl, rfl, rfl, rfl, rfl, trivial⟩ ?_
              refine WO_end ?_
              refine WK_cond (b := decide (s_16 ≤ (if (w64 ((Int.tmod s_3 p0_3) + p1)) < (w64 (p0_3 - 1)) then (w64 ((Int.tmod s_3 p0_3) + p1)) else (w64 (p0_3 - 1))))) rfl (fun hb61 => ?_) (fun hb61 => ?_)
              · have hm55 := ifT hb61 hm55
                refine WK_skip ?_
                refine WK_seq ?_
                refine WK_block ?_
                refine WK_seq ?_
                refine WK_region ?_
                refine WO_pure tbok 1 [(1, .int .i64 p1), (2, p2v), (3, .pointer (some ⟨b1, 0, none⟩)), (6, .pointer (some ⟨b2, 0, none⟩)), (7, .slice a4 ((y_1).length) c5), (8, .int .i64 s_3), (10, .int .i64 (Int.tmod s_3 p0_3)), (11, .int .i64 (w64 (Int.tdiv s_3 p0_3))), (12, .int .i64 s_13), (13, .int .i64 s_16), (20, .slice a_p0_5 p0_5.length c_p0_5), (21, .int .i64 (p0_5.length : Int)), (22, .int .i64 s_3), (71, .pointer (some ⟨b1, 5, none⟩))] rfl ⟨rfl, rfl, rfl, rfl, rfl, rfl, rfl, rfl, rfl, rfl, rfl, rfl, rfl, rfl, trivial⟩ ?_
                refine WO_loadB tbok 0 rfl rfl rfl rfl (fun _ h => h) rfl rfl ?_
                refine WO_pure tbok 2 [(1, .int .i64 p1), (2, p2v), (3, .pointer (some ⟨b1, 0, none⟩)), (6, .pointer (some ⟨b2, 0, none⟩)), (7, .slice a4 ((y_1).length) c5), (8, .int .i64 s_3), (10, .int .i64 (Int.tmod s_3 p0_3)), (11, .int .i64 (w64 (Int.tdiv s_3 p0_3))), (12, .int .i64 s_13), (13, .int .i64 s_16), (20, .slice a_p0_5 p0_5.length c_p0_5), (21, .int .i64 (p0_5.length : Int)), (22, .int .i64 s_3), (72, .slice a_p0_5 p0_5.length c_p0_5), (73, .int .i64 s_13), (74, .pointer (some ⟨b1, 3, none⟩))] rfl ⟨rfl, rfl, rfl, rfl, rfl, rfl, rfl, rfl, rfl, rfl, rfl, rfl, rfl, rfl, rfl, rfl, trivial⟩ ?_
                refine WO_loadB tbok 0 rfl rfl rfl rfl (fun _ h => h) rfl rfl ?_
                refine WO_pure tbok 3 [(1, .int .i64 p1), (2, p2v), (3, .pointer (some ⟨b1, 0, none⟩)), (6, .pointer (some ⟨b2, 0, none⟩)), (7, .slice a4 ((y_1).length) c5), (8, .int .i64 s_3), (10, .int .i64 (Int.tmod s_3 p0_3)), (11, .int .i64 (w64 (Int.tdiv s_3 p0_3))), (12, .int .i64 s_13), (13, .int .i64 s_16), (20, .slice a_p0_5 p0_5.length c_p0_5), (21, .int .i64 (p0_5.length : Int)), (22, .int .i64 s_3), (72, .slice a_p0_5 p0_5.length c_p0_5), (78, .int .i64 (w64 ((w64 (s_13 * p0_3)) + s_16)))] rfl ⟨rfl, rfl, rfl, rfl, rfl, rfl, rfl, rfl, rfl, rfl, rfl, rfl, rfl, rfl, rfl, trivial⟩ ?_
                obtain ⟨v_18, hy62, hm55⟩ := bind_some hm55
                obtain ⟨hc63, hy62⟩ := ix_some hy62
                refine WO_index tbok rfl rfl rfl rfl rfl rfl rfl rfl (SlR.addr h_p0_5) hc63 ?_
                refine WO_loadE tbok rfl rfl rfl rfl (fun _ h => St.sat h) h_p0_5 hy62 rfl ?_
                refine WO_pure tbok 1 [(1, .int .i64 p1), (2, p2v), (3, .pointer (some ⟨b1, 0, none⟩)), (6, .pointer (some ⟨b2, 0, none⟩)), (7, .slice a4 ((y_1).length) c5), (8, .int .i64 s_3), (10, .int .i64 (Int.tmod s_3 p0_3)), (11, .int .i64 (w64 (Int.tdiv s_3 p0_3))), (12, .int .i64 s_13), (13, .int .i64 s_16), (14, .int .i64 v_18), (20, .slice a_p0_5 p0_5.length c_p0_5), (21, .int .i64 (p0_5.length : Int)), (22, .int .i64 s_3)] rfl ⟨rfl, rfl, rfl, rfl, rfl, rfl, rfl, rfl, rfl, rfl, rfl, rfl, rfl, rfl, trivial⟩ ?_
                refine WO_end ?_
                refine WK_seq ?_
                refine WK_region ?_
                refine WO_pure tbok 2 [(1, .int .i64 p1), (2, p2v), (3, .pointer (some ⟨b1, 0, none⟩)), (6, .pointer (some ⟨b2, 0, none⟩)), (7, .slice a4 ((y_1).length) c5), (8, .int .i64 s_3), (10, .int .i64 (Int.tmod s_3 p0_3)), (11, .int .i64 (w64 (Int.tdiv s_3 p0_3))), (12, .int .i64 s_13), (13, .int .i64 s_16), (14, .int .i64 v_18), (20, .slice a_p0_5 p0_5.length c_p0_5), (21, .int .i64 (p0_5.length : Int)), (22, .int .i64 s_3), (82, .bool (v_18 != (-2147483648)))] rfl ⟨rfl, rfl, rfl, rfl, rfl, rfl, rfl, rfl, rfl, rfl, rfl, rfl, rfl, rfl, rfl, trivial⟩ ?_
                refine WO_end ?_
                obtain ⟨l_19, hx65, hm55⟩ := bind_some hm55
                refine WK_join (β := List Ent) (fun p => OwnE 3 1 (I1 .i64) (.slice a4 ((y_1).length) c5) l_19 p) (fun p => [(1, .int .i64 p1), (2, p2v), (3, .pointer (some ⟨b1, 0, none⟩)), (6, .pointer (some ⟨b2, 0, none⟩)), (7, .slice a4 ((y_1).length) c5), (8, .int .i64 s_3), (10, .int .i64 (Int.tmod s_3 p0_3)), (11, .int .i64 (w64 (Int.tdiv s_3 p0_3))), (12, .int .i64 s_13), (13, .int .i64 s_16), (20, .slice a_p0_5 p0_5.length c_p0_5), (21, .int .i64 (p0_5.length : Int)), (22, .int .i64 s_3)]) (fun p => St w0 m m [[⟨b1, 25, [.int .i64 p0_0, .int .i64 p0_1, .int .i64 p0_2, .int .i64 p0_3, .int .i64 p0_4, .slice a_p0_5 p0_5.length c_p0_5]⟩], [⟨b2, 25, [.int .i64 0, .int .i64 0, .int .i64 0, .int .i64 0, .int .i64 0, .slice none 0 0]⟩], p]) ?_ (fun hk66 => ?_)
                · rintro L64 hL64
                  refine WK.sub (e' := [(1, .int .i64 p1), (2, p2v), (3, .pointer (some ⟨b1, 0, none⟩)), (6, .pointer (some ⟨b2, 0, none⟩)), (7, .slice a4 ((y_1).length) c5), (8, .int .i64 s_3), (10, .int .i64 (Int.tmod s_3 p0_3)), (11, .int .i64 (w64 (Int.tdiv s_3 p0_3))), (12, .int .i64 s_13), (13, .int .i64 s_16), (20, .slice a_p0_5 p0_5.length c_p0_5), (21, .int .i64 (p0_5.length : Int)), (22, .int .i64 s_3)]) ⟨rfl, rfl, rfl, rfl, rfl, rfl, rfl, rfl, rfl, rfl, rfl, rfl, rfl, trivial⟩ (WK.cls (C' := St w0 m m [[⟨b1, 25, [.int .i64 p0_0, .int .i64 p0_1, .int .i64 p0_2, .int .i64 p0_3, .int .i64 p0_4, .slice a_p0_5 p0_5.length c_p0_5]⟩], [⟨b2, 25, [.int .i64 0, .int .i64 0, .int .i64 0, .int .i64 0, .int .i64 0, .slice none 0 0]⟩], L64]) (fun _ h => h) ?_)
                  refine WK_blk ?_
                  refine WK_region ?_
                  refine WO_pure tbok 3 [(1, .int .i64 p1), (2, p2v), (3, .pointer (some ⟨b1, 0, none⟩)), (6, .pointer (some ⟨b2, 0, none⟩)), (7, .slice a4 ((y_1).length) c5), (8, .int .i64 s_3), (10, .int .i64 (Int.tmod s_3 p0_3)), (11, .int .i64 (w64 (Int.tdiv s_3 p0_3))), (12, .int .i64 s_13), (13, .int .i64 (w64 (s_16 + 1))), (20, .slice a_p0_5 p0_5.length c_p0_5), (21, .int .i64 (p0_5.length : Int)), (22, .int .i64 s_3)] rfl ⟨rfl, rfl, rfl, rfl, rfl, rfl, rfl, rfl, rfl, rfl, rfl, rfl, rfl, trivial⟩ ?_
                  refine WO_end ?_
                  cases hm55
                  refine WK.sub ?_ (WK.cls (fun _ h => h) (hn58 _ L64 rfl hL64))
                  exact ⟨rfl, rfl, rfl, rfl, rfl, rfl, rfl, rfl, rfl, rfl, rfl, rfl, rfl, trivial⟩
                · refine WK_cond (b := v_18 != (-2147483648)) rfl (fun hb67 => ?_) (fun hb67 => ?_)
                  · have hx65 := ifT hb67 hx65
                    refine WK_region ?_
                    refine WO_pure tbok 5 [(1, .int .i64 p1), (2, p2v), (3, .pointer (some ⟨b1, 0, none⟩)), (6, .pointer (some ⟨b2, 0, none⟩)), (7, .slice a4 ((y_1).length) c5), (8, .int .i64 s_3), (10, .int .i64 (Int.tmod s_3 p0_3)), (11, .int .i64 (w64 (Int.tdiv s_3 p0_3))), (12, .int .i64 s_13), (13, .int .i64 s_16), (14, .int .i64 v_18), (20, .slice a_p0_5 p0_5.length c_p0_5), (21, .int .i64 (p0_5.length : Int)), (22, .int .i64 s_3), (83, .slice a4 ((y_1).length) c5), (84, .int .i64 s_3), (85, p2v), (86, .slice a4 ((y_1).length) c5), (87, .int .i64 s_3)] rfl ⟨rfl, rfl, rfl, rfl, rfl, rfl, rfl, rfl, rfl, rfl, rfl, rfl, rfl, rfl, rfl, rfl, rfl, rfl, rfl, trivial⟩ ?_
                    obtain ⟨v_20, hy68, hx65⟩ := bind_some hx65
                    obtain ⟨hc69, hy68⟩ := ix_some hy68
                    refine WO_index tbok rfl rfl rfl rfl rfl rfl rfl rfl (OwnE.addr hL50) (by simpa using hc69) ?_
                    refine WO_loadO (E := (I1 .i64)) tbok (fun _ => rfl) 2 rfl rfl rfl rfl (fun _ h => h) hL50 rfl hy68 rfl ?_
                    refine WO_pure tbok 1 [(1, .int .i64 p1), (2, p2v), (3, .pointer (some ⟨b1, 0, none⟩)), (6, .pointer (some ⟨b2, 0, none⟩)), (7, .slice a4 ((y_1).length) c5), (8, .int .i64 s_3), (10, .int .i64 (Int.tmod s_3 p0_3)), (11, .int .i64 (w64 (Int.tdiv s_3 p0_3))), (12, .int .i64 s_13), (13, .int .i64 s_16), (20, .slice a_p0_5 p0_5.length c_p0_5), (21, .int .i64 (p0_5.length : Int)), (22, .int .i64 s_3), (83, .slice a4 ((y_1).length) c5), (84, .int .i64 s_3), (85, p2v), (89, .int .i64 v_20), (90, .int .i64 v_18)] rfl ⟨rfl, rfl, rfl, rfl, rfl, rfl, rfl, rfl, rfl, rfl, rfl, rfl, rfl, rfl, rfl, rfl, rfl, rfl, trivial⟩ ?_
                    obtain ⟨y_21, hc70, hx65⟩ := bind_some hx65
                    obtain ⟨f0, first0, cap0, hf0, hcal0, hsp0⟩ := hp2 _ (Le.refl _) v_20 v_18 _ hc70
                    refine WO_call0 (.int .i64 y_21) rfl rfl trivial rfl rfl rfl rfl St_closed ⟨f0, first0, cap0, hf0, hcal0, fun w hw => ⟨m, hw.sat, hsp0⟩⟩ ?_
                    obtain ⟨hc71, hx65⟩ := chk_some hx65
                    refine WO_index tbok rfl rfl rfl rfl rfl rfl rfl rfl (OwnE.addr hL50) (by simpa using hc71) ?_
                    refine WO_storeO (E := (I1 .i64)) tbok (fun _ => rfl) 2 y_21 rfl rfl rfl rfl rfl hL50 rfl (by simpa using idx_lt hc71) rfl rfl rfl rfl (fun L72 hL72 => ?_)
                    refine WO.cls (C' := St w0 m m [[⟨b1, 25, [.int .i64 p0_0, .int .i64 p0_1, .int .i64 p0_2, .int .i64 p0_3, .int .i64 p0_4, .slice a_p0_5 p0_5.length c_p0_5]⟩], [⟨b2, 25, [.int .i64 0, .int .i64 0, .int .i64 0, .int .i64 0, .int .i64 0, .slice none 0 0]⟩], L72]) (fun _ h => h) ?_
                    refine WO_end ?_
                    cases hx65
                    refine WK.sub ?_ (WK.cls (fun _ h => h) (hk66 L72 hL72))
                    exact ⟨rfl, rfl, rfl, rfl, rfl, rfl, rfl, rfl, rfl, rfl, rfl, rfl, rfl, trivial⟩
                  · have hx65 := ifF hb67 hx65
                    refine WK_skip ?_
                    cases hx65
                    refine WK.sub ?_ (WK.cls (fun _ h => h) (hk66 L50 hL50))
                    exact ⟨rfl, rfl, rfl, rfl, rfl, rfl, rfl, rfl, rfl, rfl, rfl, rfl, rfl, trivial⟩
              · have hm55 := ifF hb61 hm55
                refine WK_exit rfl ?_
                cases hm55
                refine WK.sub ?_ (WK.cls (fun _ h => h) (hk54 (l_15, L50) ⟨(hd59 _ rfl), hL50⟩))
                exact ⟨rfl, rfl, rfl, rfl, rfl, rfl, rfl, rfl, rfl, rfl, rfl, rfl, trivial⟩
          · have hm43 := ifF hb49 hm43
            refine WK_exit rfl ?_
            cases hm43
            refine WK.sub ?_ (WK.cls (fun _ h => h) (hk42 (l_12, L38) ⟨(hd47 _ rfl), hL38⟩))
            exact ⟨rfl, rfl, rfl, rfl, rfl, rfl, rfl, rfl, trivial⟩
    · have hm13 := ifF hb30 hm13
      refine WK_exit rfl ?_
      cases hm13
      refine WK.sub ?_ (WK.cls (fun _ h => h) (hk12 (l_2, L8) ⟨(hd17 _ rfl), hL8⟩))
      exact ⟨rfl, rfl, rfl, trivial⟩
theorem terrain_least_walk {m : Mu} {p0 : Int} {p1 : Int}   {r : Int} (hm : terrain_least p0 p1 = some r) :
    Go.E.Spec Try.prog 53 [.int .i64 p0, .int .i64 p1] m (fun v _ _ => v = .int .i64 r) := by
  refine Spec_enter Try.func53 rfl rfl rfl (fun w0 => ?_)
  refine WK.sub (e' := [(0, .int .i64 p0), (1, .int .i64 p1)]) ⟨rfl, rfl, trivial⟩ ?_
  refine WK.sub (e' := [(0, .int .i64 p0), (1, .int .i64 p1)]) ⟨rfl, rfl, trivial⟩ ?_
  unfold terrain_least at hm
  refine WK_seq ?_
  refine WK_region ?_
  refine WO_pure tbok 1 [(0, .int .i64 p0), (1, .int .i64 p1), (4, .int .i64 0)] rfl ⟨rfl, rfl, rfl, trivial⟩ ?_
  refine WO_end ?_
  refine WK_seq ?_
  refine WK_region ?_
  refine WO_pure tbok 4 [(4, .int .i64 (if p1 < p0 then p1 else p0))] rfl ⟨rfl, trivial⟩ ?_
  refine WO_end ?_
  cases hm
  exact WK_ret (ret_out (L := []) (RLc_tmp rfl RLc_nil) (List.nil_sublist _) rfl)
theorem terrain_greatest_walk {m : Mu} {p0 : Int} {p1 : Int}   {r : Int} (hm : terrain_greatest p0 p1 = some r) :
    Go.E.Spec Try.prog 54 [.int .i64 p0, .int .i64 p1] m (fun v _ _ => v = .int .i64 r) := by
  refine Spec_enter Try.func54 rfl rfl rfl (fun w0 => ?_)
  refine WK.sub (e' := [(0, .int .i64 p0), (1, .int .i64 p1)]) ⟨rfl, rfl, trivial⟩ ?_
  refine WK.sub (e' := [(0, .int .i64 p0), (1, .int .i64 p1)]) ⟨rfl, rfl, trivial⟩ ?_
  unfold terrain_greatest at hm
  refine WK_seq ?_
  refine WK_region ?_
  refine WO_pure tbok 1 [(0, .int .i64 p0), (1, .int .i64 p1), (4, .int .i64 0)] rfl ⟨rfl, rfl, rfl, trivial⟩ ?_
  refine WO_end ?_
  refine WK_seq ?_
  refine WK_region ?_
  refine WO_pure tbok 4 [(4, .int .i64 (if p0 < p1 then p1 else p0))] rfl ⟨rfl, trivial⟩ ?_
  refine WO_end ?_
  cases hm
  exact WK_ret (ret_out (L := []) (RLc_tmp rfl RLc_nil) (List.nil_sublist _) rfl)
def terrain_opened_Q (r : Int × Int × Int × Int × Int × List Int) : Value → Mu → List Ent → Prop := fun v m L => ∃ (a0 : Option Addr) (q0 c0 : Nat), v = .agg #[.int .i64 r.1, .int .i64 r.2.1, .int .i64 r.2.2.1, .int .i64 r.2.2.2.1, .int .i64 r.2.2.2.2.1, .slice a0 q0 c0] ∧ SlR (FE (I1 .i64)) 1 m (.slice a0 q0 c0) r.2.2.2.2.2
theorem terrain_opened_walk {m : Mu} {p0_0 : Int} {p0_1 : Int} {p0_2 : Int} {p0_3 : Int} {p0_4 : Int} {p0_5 : List Int} {p1 : Int} {a_p0_5 : Option Addr} {q_p0_5 c_p0_5 : Nat} (h_p0_5 : SlR (FE (I1 .i64)) 1 m (.slice a_p0_5 q_p0_5 c_p0_5) p0_5) {r : Int × Int × Int × Int × Int × List Int} (hm : terrain_opened p0_0 p0_1 p0_2 p0_3 p0_4 p0_5 p1 = some r) :
    Go.E.Spec Try.prog 50 [.agg #[.int .i64 p0_0, .int .i64 p0_1, .int .i64 p0_2, .int .i64 p0_3, .int .i64 p0_4, .slice a_p0_5 q_p0_5 c_p0_5], .int .i64 p1] m (terrain_opened_Q r) := by
  refine Spec_enter Try.func50 rfl rfl rfl (fun w0 => ?_)
  refine WK.sub (e' := [(0, .agg #[.int .i64 p0_0, .int .i64 p0_1, .int .i64 p0_2, .int .i64 p0_3, .int .i64 p0_4, .slice a_p0_5 q_p0_5 c_p0_5]), (1, .int .i64 p1)]) ⟨rfl, rfl, trivial⟩ ?_
  obtain rfl := SlR.qlen h_p0_5
  refine WK.sub (e' := [(0, .agg #[.int .i64 p0_0, .int .i64 p0_1, .int .i64 p0_2, .int .i64 p0_3, .int .i64 p0_4, .slice a_p0_5 p0_5.length c_p0_5]), (1, .int .i64 p1)]) ⟨rfl, rfl, trivial⟩ ?_
  unfold terrain_opened at hm
  refine WK_seq ?_
  refine WK_region ?_
  refine WO_box [.int .i64 p0_0, .int .i64 p0_1, .int .i64 p0_2, .int .i64 p0_3, .int .i64 p0_4, .slice a_p0_5 p0_5.length c_p0_5] rfl rfl trivial rfl rfl rfl (fun b1 => ?_)
  refine WO.cls (C' := St w0 m m [[⟨b1, 25, [.int .i64 p0_0, .int .i64 p0_1, .int .i64 p0_2, .int .i64 p0_3, .int .i64 p0_4, .slice a_p0_5 p0_5.length c_p0_5]⟩]]) (fun _ h => h) ?_
  refine WO_alloc tbok [.int .i64 0, .int .i64 0, .int .i64 0, .int .i64 0, .int .i64 0, .slice none 0 0] rfl rfl trivial rfl rfl rfl rfl (fun b2 => ?_)
  refine WO.cls (C' := St w0 m m [[⟨b1, 25, [.int .i64 p0_0, .int .i64 p0_1, .int .i64 p0_2, .int .i64 p0_3, .int .i64 p0_4, .slice a_p0_5 p0_5.length c_p0_5]⟩], [⟨b2, 25, [.int .i64 0, .int .i64 0, .int .i64 0, .int .i64 0, .int .i64 0, .slice none 0 0]⟩]]) (fun _ h => h) ?_
  refine WO_end ?_
  refine WK_seq ?_
  refine WK_region ?_
  refine WO_loadB tbok 0 rfl rfl rfl rfl (fun _ h => h) rfl rfl ?_
  refine WO_pure tbok 1 [(1, .int .i64 p1), (4, .pointer (some ⟨b2, 0, none⟩)), (5, .agg #[.int .i64 p0_0, .int .i64 p0_1, .int .i64 p0_2, .int .i64 p0_3, .int .i64 p0_4, .slice a_p0_5 p0_5.length c_p0_5]), (6, .int .i64 p1)] rfl ⟨rfl, rfl, rfl, rfl, trivial⟩ ?_
  obtain ⟨⟨y_3, y_4, y_5, y_6, y_7, y_8⟩, hc3, hm⟩ := bind_some hm
  refine WO_call2 (terrain_filtered_Q (y_3, y_4, y_5, y_6, y_7, y_8)) rfl rfl trivial rfl rfl rfl rfl ⟨52, #[], #[], rfl, callable_52, terrain_filtered_walk h_p0_5 (fun m1 hm1 z_1 z_2 _ h => specV_cap callable_53 (terrain_least_walk h)) hc3⟩ (fun v7 m8 L6 hle9 hq => ?_)
  obtain ⟨a4, qa4, c5, rfl, h10⟩ := hq
  obtain rfl := SlR.qlen h10
  refine WO.cls (C' := St w0 m m8 [[⟨b1, 25, [.int .i64 p0_0, .int .i64 p0_1, .int .i64 p0_2, .int .i64 p0_3, .int .i64 p0_4, .slice a_p0_5 p0_5.length c_p0_5]⟩], [⟨b2, 25, [.int .i64 0, .int .i64 0, .int .i64 0, .int .i64 0, .int .i64 0, .slice none 0 0]⟩], L6]) (fun _ h => h.sub (by simp)) ?_
  refine WO_pure tbok 1 [(4, .pointer (some ⟨b2, 0, none⟩)), (7, .agg #[.int .i64 y_3, .int .i64 y_4, .int .i64 y_5, .int .i64 y_6, .int .i64 y_7, .slice a4 ((y_8).length) c5]), (8, .int .i64 p1)] rfl ⟨rfl, rfl, rfl, trivial⟩ ?_
  obtain ⟨⟨y_11, y_12, y_13, y_14, y_15, y_16⟩, hc11, hm⟩ := bind_some hm
  refine WO_call2 (terrain_filtered_Q (y_11, y_12, y_13, y_14, y_15, y_16)) rfl rfl trivial rfl rfl rfl rfl ⟨52, #[], #[], rfl, callable_52, terrain_filtered_walk h10 (fun m1 hm1 z_9 z_10 _ h => specV_cap callable_54 (terrain_greatest_walk h)) hc11⟩ (fun v15 m16 L14 hle17 hq => ?_)
  obtain ⟨a12, qa12, c13, rfl, h18⟩ := hq
  obtain rfl := SlR.qlen h18
  refine WO.cls (C' := St w0 m m16 [[⟨b1, 25, [.int .i64 p0_0, .int .i64 p0_1, .int .i64 p0_2, .int .i64 p0_3, .int .i64 p0_4, .slice a_p0_5 p0_5.length c_p0_5]⟩], [⟨b2, 25, [.int .i64 0, .int .i64 0, .int .i64 0, .int .i64 0, .int .i64 0, .slice none 0 0]⟩], L6, L14]) (fun _ h => h.sub (by simp)) ?_
  refine WO_storeB tbok 1 [.int .i64 y_11, .int .i64 y_12, .int .i64 y_13, .int .i64 y_14, .int .i64 y_15, .slice a12 ((y_16).length) c13] rfl rfl rfl rfl rfl rfl rfl ?_
  refine WO.cls (C' := St w0 m m16 [[⟨b1, 25, [.int .i64 p0_0, .int .i64 p0_1, .int .i64 p0_2, .int .i64 p0_3, .int .i64 p0_4, .slice a_p0_5 p0_5.length c_p0_5]⟩], [⟨b2, 25, [.int .i64 y_11, .int .i64 y_12, .int .i64 y_13, .int .i64 y_14, .int .i64 y_15, .slice a12 ((y_16).length) c13]⟩], L6, L14]) (fun _ h => h) ?_
  refine WO_end ?_
  cases hm
  exact WK_ret (ret_out (L := []) (RLc_cell tbok 1 rfl rfl rfl RLc_nil) (List.nil_sublist _) ⟨a12, _, c13, rfl, h18⟩)
def terrain_Open_Q (r : Int × Int × Int × Int × Int × List Int × Int) : Value → Mu → List Ent → Prop := fun v m L => ∃ (a0 : Option Addr) (q0 c0 : Nat), v = .tuple #[.agg #[.int .i64 r.1, .int .i64 r.2.1, .int .i64 r.2.2.1, .int .i64 r.2.2.2.1, .int .i64 r.2.2.2.2.1, .slice a0 q0 c0], .int .i64 r.2.2.2.2.2.2] ∧ SlR (FE (I1 .i64)) 1 m (.slice a0 q0 c0) r.2.2.2.2.2.1
theorem terrain_Open_walk {m : Mu} {p0_0 : Int} {p0_1 : Int} {p0_2 : Int} {p0_3 : Int} {p0_4 : Int} {p0_5 : List Int} {p1 : Int} {a_p0_5 : Option Addr} {q_p0_5 c_p0_5 : Nat} (h_p0_5 : SlR (FE (I1 .i64)) 1 m (.slice a_p0_5 q_p0_5 c_p0_5) p0_5) {r : Int × Int × Int × Int × Int × List Int × Int} (hm : terrain_Open p0_0 p0_1 p0_2 p0_3 p0_4 p0_5 p1 = some r) :
    Go.E.Spec Try.prog 26 [.agg #[.int .i64 p0_0, .int .i64 p0_1, .int .i64 p0_2, .int .i64 p0_3, .int .i64 p0_4, .slice a_p0_5 q_p0_5 c_p0_5], .int .i64 p1] m (terrain_Open_Q r) := by
  refine Spec_enter Try.func26 rfl rfl rfl (fun w0 => ?_)
  refine WK.sub (e' := [(0, .agg #[.int .i64 p0_0, .int .i64 p0_1, .int .i64 p0_2, .int .i64 p0_3, .int .i64 p0_4, .slice a_p0_5 q_p0_5 c_p0_5]), (1, .int .i64 p1)]) ⟨rfl, rfl, trivial⟩ ?_
  obtain rfl := SlR.qlen h_p0_5
  refine WK.sub (e' := [(0, .agg #[.int .i64 p0_0, .int .i64 p0_1, .int .i64 p0_2, .int .i64 p0_3, .int .i64 p0_4, .slice a_p0_5 p0_5.length c_p0_5]), (1, .int .i64 p1)]) ⟨rfl, rfl, trivial⟩ ?_
  unfold terrain_Open at hm
  refine WK_seq ?_
  refine WK_region ?_
  refine WO_box [.int .i64 p0_0, .int .i64 p0_1, .int .i64 p0_2, .int .i64 p0_3, .int .i64 p0_4, .slice a_p0_5 p0_5.length c_p0_5] rfl rfl trivial rfl rfl rfl (fun b1 => ?_)
  refine WO.cls (C' := St w0 m m [[⟨b1, 25, [.int .i64 p0_0, .int .i64 p0_1, .int .i64 p0_2, .int .i64 p0_3, .int .i64 p0_4, .slice a_p0_5 p0_5.length c_p0_5]⟩]]) (fun _ h => h) ?_
  refine WO_alloc tbok [.int .i64 0, .int .i64 0, .int .i64 0, .int .i64 0, .int .i64 0, .slice none 0 0] rfl rfl trivial rfl rfl rfl rfl (fun b2 => ?_)
  refine WO.cls (C' := St w0 m m [[⟨b1, 25, [.int .i64 p0_0, .int .i64 p0_1, .int .i64 p0_2, .int .i64 p0_3, .int .i64 p0_4, .slice a_p0_5 p0_5.length c_p0_5]⟩], [⟨b2, 25, [.int .i64 0, .int .i64 0, .int .i64 0, .int .i64 0, .int .i64 0, .slice none 0 0]⟩]]) (fun _ h => h) ?_
  refine WO_pure tbok 1 [(1, .int .i64 p1), (2, .pointer (some ⟨b1, 0, none⟩)), (4, .pointer (some ⟨b2, 0, none⟩)), (5, .int .i64 0)] rfl ⟨rfl, rfl, rfl, rfl, trivial⟩ ?_
  refine WO_end ?_
  refine WK_seq ?_
  refine WK_seq ?_
  refine WK_region ?_
  refine WO_loadB tbok 0 rfl rfl rfl rfl (fun _ h => h) rfl rfl ?_
  refine WO_pure tbok 1 [(1, .int .i64 p1), (2, .pointer (some ⟨b1, 0, none⟩)), (4, .pointer (some ⟨b2, 0, none⟩)), (5, .int .i64 0), (7, .agg #[.int .i64 p0_0, .int .i64 p0_1, .int .i64 p0_2, .int .i64 p0_3, .int .i64 p0_4, .slice a_p0_5 p0_5.length c_p0_5]), (8, .int .i64 p1)] rfl ⟨rfl, rfl, rfl, rfl, rfl, rfl, trivial⟩ ?_
  obtain ⟨y_1, hc3, hm⟩ := bind_some hm
  refine WO_call0 (.int .i64 y_1) rfl rfl trivial rfl rfl rfl rfl St_closed ⟨51, #[], #[], rfl, callable_51, fun w hw => ⟨_, hw.sat, terrain_checked_walk h_p0_5 hc3⟩⟩ ?_
  refine WO_pure tbok 1 [(1, .int .i64 p1), (2, .pointer (some ⟨b1, 0, none⟩)), (4, .pointer (some ⟨b2, 0, none⟩)), (5, .int .i64 0), (6, .int .i64 y_1)] rfl ⟨rfl, rfl, rfl, rfl, rfl, trivial⟩ ?_
  refine WO_end ?_
  refine WK_seq ?_
  refine WK_region ?_
  refine WO_pure tbok 2 [(1, .int .i64 p1), (2, .pointer (some ⟨b1, 0, none⟩)), (4, .pointer (some ⟨b2, 0, none⟩)), (5, .int .i64 0), (6, .int .i64 y_1), (11, .bool (y_1 != 0))] rfl ⟨rfl, rfl, rfl, rfl, rfl, rfl, trivial⟩ ?_
  refine WO_end ?_
  refine WK_cond (b := y_1 != 0) rfl (fun hb4 => ?_) (fun hb4 => ?_)
  · have hm := ifT hb4 hm
    refine WK_seq ?_
    refine WK_region ?_
    refine WO_pure tbok 2 [(1, .int .i64 p1), (2, .pointer (some ⟨b1, 0, none⟩)), (4, .pointer (some ⟨b2, 0, none⟩)), (5, .int .i64 0), (12, .agg #[.int .i64 0, .int .i64 0, .int .i64 0, .int .i64 0, .int .i64 0, .slice none 0 0]), (13, .int .i64 y_1)] rfl ⟨rfl, rfl, rfl, rfl, rfl, rfl, trivial⟩ ?_
    refine WO_storeB tbok 1 [.int .i64 0, .int .i64 0, .int .i64 0, .int .i64 0, .int .i64 0, .slice none 0 0] rfl rfl rfl rfl rfl rfl rfl ?_
    refine WO.cls (C' := St w0 m m [[⟨b1, 25, [.int .i64 p0_0, .int .i64 p0_1, .int .i64 p0_2, .int .i64 p0_3, .int .i64 p0_4, .slice a_p0_5 p0_5.length c_p0_5]⟩], [⟨b2, 25, [.int .i64 0, .int .i64 0, .int .i64 0, .int .i64 0, .int .i64 0, .slice none 0 0]⟩]]) (fun _ h => h) ?_
    refine WO_pure tbok 1 [(1, .int .i64 p1), (2, .pointer (some ⟨b1, 0, none⟩)), (4, .pointer (some ⟨b2, 0, none⟩)), (5, .int .i64 y_1)] rfl ⟨rfl, rfl, rfl, rfl, trivial⟩ ?_
    refine WO_end ?_
    cases hm
    exact WK_ret (ret_out (L := []) (RLc_cell tbok 1 rfl rfl rfl (RLc_tmp rfl RLc_nil)) (List.nil_sublist _) ⟨none, 0, 0, rfl, SlR_nil⟩)
  · have hm := ifF hb4 hm
    refine WK_skip ?_
    refine WK_seq ?_
    refine WK_region ?_
    refine WO_loadB tbok 0 rfl rfl rfl rfl (fun _ h => h) rfl rfl ?_
    refine WO_pure tbok 1 [(4, .pointer (some ⟨b2, 0, none⟩)), (5, .int .i64 0), (14, .agg #[.int .i64 p0_0, .int .i64 p0_1, .int .i64 p0_2, .int .i64 p0_3, .int .i64 p0_4, .slice a_p0_5 p0_5.length c_p0_5]), (15, .int .i64 p1)] rfl ⟨rfl, rfl, rfl, rfl, trivial⟩ ?_
    obtain ⟨⟨y_2, y_3, y_4, y_5, y_6, y_7⟩, hc5, hm⟩ := bind_some hm
    refine WO_call2 (terrain_opened_Q (y_2, y_3, y_4, y_5, y_6, y_7)) rfl rfl trivial rfl rfl rfl rfl ⟨50, #[], #[], rfl, callable_50, terrain_opened_walk h_p0_5 hc5⟩ (fun v9 m10 L8 hle11 hq => ?_)
    obtain ⟨a6, qa6, c7, rfl, h12⟩ := hq
    obtain rfl := SlR.qlen h12
    refine WO.cls (C' := St w0 m m10 [[⟨b1, 25, [.int .i64 p0_0, .int .i64 p0_1, .int .i64 p0_2, .int .i64 p0_3, .int .i64 p0_4, .slice a_p0_5 p0_5.length c_p0_5]⟩], [⟨b2, 25, [.int .i64 0, .int .i64 0, .int .i64 0, .int .i64 0, .int .i64 0, .slice none 0 0]⟩], L8]) (fun _ h => h.sub (by simp)) ?_
    refine WO_storeB tbok 1 [.int .i64 y_2, .int .i64 y_3, .int .i64 y_4, .int .i64 y_5, .int .i64 y_6, .slice a6 ((y_7).length) c7] rfl rfl rfl rfl rfl rfl rfl ?_
    refine WO.cls (C' := St w0 m m10 [[⟨b1, 25, [.int .i64 p0_0, .int .i64 p0_1, .int .i64 p0_2, .int .i64 p0_3, .int .i64 p0_4, .slice a_p0_5 p0_5.length c_p0_5]⟩], [⟨b2, 25, [.int .i64 y_2, .int .i64 y_3, .int .i64 y_4, .int .i64 y_5, .int .i64 y_6, .slice a6 ((y_7).length) c7]⟩], L8]) (fun _ h => h) ?_
    refine WO_pure tbok 1 [(4, .pointer (some ⟨b2, 0, none⟩)), (5, .int .i64 0)] rfl ⟨rfl, rfl, trivial⟩ ?_
    refine WO_end ?_
    cases hm
    exact WK_ret (ret_out (L := []) (RLc_cell tbok 1 rfl rfl rfl (RLc_tmp rfl RLc_nil)) (List.nil_sublist _) ⟨a6, _, c7, rfl, h12⟩)
def terrain_Ground_Q (r : List Bool × Int) : Value → List Ent → Prop := fun v L => ∃ (a0 : Option Addr) (q0 c0 : Nat), v = .tuple #[.slice a0 q0 c0, .int .i64 r.2] ∧ OwnE 4 1 B1 (.slice a0 q0 c0) r.1 L
theorem terrain_Ground_walk {m : Mu} {p0_0 : Int} {p0_1 : Int} {p0_2 : Int} {p0_3 : Int} {p0_4 : Int} {p0_5 : List Int} {p1 : List Int} {p2 : List Int} {a_p0_5 : Option Addr} {q_p0_5 c_p0_5 : Nat} {a_p1 : Option Addr} {q_p1 c_p1 : Nat} {a_p2 : Option Addr} {q_p2 c_p2 : Nat} (h_p0_5 : SlR (FE (I1 .i64)) 1 m (.slice a_p0_5 q_p0_5 c_p0_5) p0_5) (h_p1 : SlR (FE (I1 .i64)) 1 m (.slice a_p1 q_p1 c_p1) p1) (h_p2 : SlR (FE (I1 .i64)) 1 m (.slice a_p2 q_p2 c_p2) p2) {r : List Bool × Int} (hm : terrain_Ground p0_0 p0_1 p0_2 p0_3 p0_4 p0_5 p1 p2 = some r) :
    Go.E.Spec Try.prog 18 [.agg #[.int .i64 p0_0, .int .i64 p0_1, .int .i64 p0_2, .int .i64 p0_3, .int .i64 p0_4, .slice a_p0_5 q_p0_5 c_p0_5], .slice a_p1 q_p1 c_p1, .slice a_p2 q_p2 c_p2] m (fun v _ L => terrain_Ground_Q r v L) := by
  refine Spec_enter Try.func18 rfl rfl rfl (fun w0 => ?_)
  refine WK.sub (e' := [(0, .agg #[.int .i64 p0_0, .int .i64 p0_1, .int .i64 p0_2, .int .i64 p0_3, .int .i64 p0_4, .slice a_p0_5 q_p0_5 c_p0_5]), (1, .slice a_p1 q_p1 c_p1), (2, .slice a_p2 q_p2 c_p2)]) ⟨rfl, rfl, rfl, trivial⟩ ?_
  obtain rfl := SlR.qlen h_p0_5
  obtain rfl := SlR.qlen h_p1
  obtain rfl := SlR.qlen h_p2
  refine WK.sub (e' := [(0, .agg #[.int .i64 p0_0, .int .i64 p0_1, .int .i64 p0_2, .int .i64 p0_3, .int .i64 p0_4, .slice a_p0_5 p0_5.length c_p0_5]), (1, .slice a_p1 p1.length c_p1), (2, .slice a_p2 p2.length c_p2)]) ⟨rfl, rfl, rfl, trivial⟩ ?_
  unfold terrain_Ground at hm
  refine WK_seq ?_
  refine WK_region ?_
  refine WO_box [.int .i64 p0_0, .int .i64 p0_1, .int .i64 p0_2, .int .i64 p0_3, .int .i64 p0_4, .slice a_p0_5 p0_5.length c_p0_5] rfl rfl trivial rfl rfl rfl (fun b1 => ?_)
  refine WO.cls (C' := St w0 m m [[⟨b1, 25, [.int .i64 p0_0, .int .i64 p0_1, .int .i64 p0_2, .int .i64 p0_3, .int .i64 p0_4, .slice a_p0_5 p0_5.length c_p0_5]⟩]]) (fun _ h => h) ?_
  refine WO_pure tbok 2 [(1, .slice a_p1 p1.length c_p1), (2, .slice a_p2 p2.length c_p2), (3, .pointer (some ⟨b1, 0, none⟩)), (6, .slice none 0 0), (7, .int .i64 0)] rfl ⟨rfl, rfl, rfl, rfl, rfl, trivial⟩ ?_
  refine WO_end ?_
  refine WK_seq ?_
  refine WK_seq ?_
  refine WK_region ?_
  refine WO_loadB tbok 0 rfl rfl rfl rfl (fun _ h => h) rfl rfl ?_
  obtain ⟨y_1, hc2, hm⟩ := bind_some hm
  refine WO_call0 (.int .i64 y_1) rfl rfl trivial rfl rfl rfl rfl St_closed ⟨16, #[], #[], rfl, callable_16, fun w hw => ⟨_, hw.sat, terrain_Check_walk h_p0_5 hc2⟩⟩ ?_
  refine WO_pure tbok 1 [(1, .slice a_p1 p1.length c_p1), (2, .slice a_p2 p2.length c_p2), (3, .pointer (some ⟨b1, 0, none⟩)), (6, .slice none 0 0), (7, .int .i64 0), (8, .int .i64 y_1)] rfl ⟨rfl, rfl, rfl, rfl, rfl, rfl, trivial⟩ ?_
  refine WO_end ?_
  refine WK_seq ?_
  refine WK_region ?_
  refine WO_pure tbok 2 [(1, .slice a_p1 p1.length c_p1), (2, .slice a_p2 p2.length c_p2), (3, .pointer (some ⟨b1, 0, none⟩)), (6, .slice none 0 0), (7, .int .i64 0), (8, .int .i64 y_1), (23, .bool (y_1 != 0))] rfl ⟨rfl, rfl, rfl, rfl, rfl, rfl, rfl, trivial⟩ ?_
  refine WO_end ?_
  refine WK_cond (b := y_1 != 0) rfl (fun hb3 => ?_) (fun hb3 => ?_)
  · have hm := ifT hb3 hm
    refine WK_seq ?_
    refine WK_region ?_
    refine WO_pure tbok 3 [(1, .slice a_p1 p1.length c_p1), (2, .slice a_p2 p2.length c_p2), (3, .pointer (some ⟨b1, 0, none⟩)), (6, .slice none 0 0), (7, .int .i64 y_1)] rfl ⟨rfl, rfl, rfl, rfl, rfl, trivial⟩ ?_
    refine WO_end ?_
    cases hm
    exact WK_ret (ret_out (L := []) (RLc_tmp rfl (RLc_tmp rfl RLc_nil)) (List.nil_sublist _) ⟨none, 0, 0, rfl, (OwnE.nil none)⟩)
  · have hm := ifF hb3 hm
    refine WK_skip ?_
    refine WK_seq ?_
    refine WK_seq ?_
    refine WK_region ?_
    refine WO_pure tbok 5 [(1, .slice a_p1 p1.length c_p1), (2, .slice a_p2 p2.length c_p2), (3, .pointer (some ⟨b1, 0, none⟩)), (6, .slice none 0 0), (7, .int .i64 0), (29, .bool ((p1.length : Int) != (p2.length : Int)))] rfl ⟨rfl, rfl, rfl, rfl, rfl, rfl, trivial⟩ ?_
    refine WO_end ?_
    refine WK_cond (b := (p1.length : Int) != (p2.length : Int)) rfl (fun hb4 => ?_) (fun hb4 => ?_)
    · have hm := ifT hb4 hm
      refine WK_seq ?_
      refine WK_region ?_
      refine WO_pure tbok 2 [(1, .slice a_p1 p1.length c_p1), (2, .slice a_p2 p2.length c_p2), (3, .pointer (some ⟨b1, 0, none⟩)), (6, .slice none 0 0), (7, .int .i64 4)] rfl ⟨rfl, rfl, rfl, rfl, rfl, trivial⟩ ?_
      refine WO_end ?_
      cases hm
      exact WK_ret (ret_out (L := []) (RLc_tmp rfl (RLc_tmp rfl RLc_nil)) (List.nil_sublist _) ⟨none, 0, 0, rfl, (OwnE.nil none)⟩)
    · have hm := ifF hb4 hm
      refine WK_skip ?_
      refine WK_seq ?_
      refine WK_seq ?_
      obtain ⟨s_2, hx5, hm⟩ := bind_some hm
      refine WK_meet [(1, .slice a_p1 p1.length c_p1), (2, .slice a_p2 p2.length c_p2), (3, .pointer (some ⟨b1, 0, none⟩)), (6, .slice none 0 0), (7, .int .i64 0), (37, .bool s_2)] (St w0 m m [[⟨b1, 25, [.int .i64 p0_0, .int .i64 p0_1, .int .i64 p0_2, .int .i64 p0_3, .int .i64 p0_4, .slice a_p0_5 p0_5.length c_p0_5]⟩]]) ?_ (fun hk6 => ?_)
      · refine WK_cond (b := s_2) rfl (fun hb7 => ?_) (fun hb7 => ?_)
        · have hm := ifT hb7 hm
          refine WK_seq ?_
          refine WK_region ?_
          refine WO_pure tbok 2 [(1, .slice a_p1 p1.length c_p1), (2, .slice a_p2 p2.length c_p2), (3, .pointer (some ⟨b1, 0, none⟩)), (6, .slice none 0 0), (7, .int .i64 2)] rfl ⟨rfl, rfl, rfl, rfl, rfl, trivial⟩ ?_
          refine WO_end ?_
          cases hm
          exact WK_ret (ret_out (L := []) (RLc_tmp rfl (RLc_tmp rfl RLc_nil)) (List.nil_sublist _) ⟨none, 0, 0, rfl, (OwnE.nil none)⟩)
        · have hm := ifF hb7 hm
          refine WK_skip ?_
          refine WK_seq ?_
          refine WK_seq ?_
          refine WK_region ?_
          refine WO_pure tbok 3 [(1, .slice a_p1 p1.length c_p1), (2, .slice a_p2 p2.length c_p2), (3, .pointer (some ⟨b1, 0, none⟩)), (6, .slice none 0 0), (7, .int .i64 0), (38, .slice a_p1 p1.length c_p1), (39, .int .i64 (p1.length : Int)), (40, .int .i64 0)] rfl ⟨rfl, rfl, rfl, rfl, rfl, rfl, rfl, rfl, trivial⟩ ?_
          refine WO_end ?_
          obtain ⟨x8, hx9, hm⟩ := bind_some hm
          refine WK_join (β := Unit × Unit) (fun p => Sum.inr p.1 = x8) (fun p => [(1, .slice a_p1 p1.length c_p1), (2, .slice a_p2 p2.length c_p2), (3, .pointer (some ⟨b1, 0, none⟩)), (6, .slice none 0 0), (7, .int .i64 0)]) (fun p => St w0 m m [[⟨b1, 25, [.int .i64 p0_0, .int .i64 p0_1, .int .i64 p0_2, .int .i64 p0_3, .int .i64 p0_4, .slice a_p0_5 p0_5.length c_p0_5]⟩]]) ?_ (fun hk10 => ?_)
          · rintro ⟨⟨⟩, ⟨⟩⟩ hq16
            subst hq16
            refine WK.sub (e' := [(1, .slice a_p1 p1.length c_p1), (2, .slice a_p2 p2.length c_p2), (3, .pointer (some ⟨b1, 0, none⟩)), (6, .slice none 0 0), (7, .int .i64 0)]) ⟨rfl, rfl, rfl, rfl, rfl, trivial⟩ (WK.cls (C' := St w0 m m [[⟨b1, 25, [.int .i64 p0_0, .int .i64 p0_1, .int .i64 p0_2, .int .i64 p0_3, .int .i64 p0_4, .slice a_p0_5 p0_5.length c_p0_5]⟩]]) (fun _ h => h) ?_)
            refine WK_seq ?_
            refine WK_seq ?_
            refine WK_region ?_
            refine WO_pure tbok 1 [(1, .slice a_p1 p1.length c_p1), (2, .slice a_p2 p2.length c_p2), (3, .pointer (some ⟨b1, 0, none⟩)), (6, .slice none 0 0), (7, .int .i64 0), (11, .int .i64 1)] rfl ⟨rfl, rfl, rfl, rfl, rfl, rfl, trivial⟩ ?_
            refine WO_end ?_
            obtain ⟨x17, hx18, hm⟩ := bind_some hm
            refine WK_join (β := Unit × Unit) (fun p => Sum.inr p.1 = x17) (fun p => [(1, .slice a_p1 p1.length c_p1), (2, .slice a_p2 p2.length c_p2), (3, .pointer (some ⟨b1, 0, none⟩)), (6, .slice none 0 0), (7, .int .i64 0)]) (fun p => St w0 m m [[⟨b1, 25, [.int .i64 p0_0, .int .i64 p0_1, .int .i64 p0_2, .int .i64 p0_3, .int .i64 p0_4, .slice a_p0_5 p0_5.length c_p0_5]⟩]]) ?_ (fun hk19 => ?_)
            · rintro ⟨⟨⟩, ⟨⟩⟩ hq25
              subst hq25
              refine WK.sub (e' := [(1, .slice a_p1 p1.length c_p1), (2, .slice a_p2 p2.length c_p2), (3, .pointer (some ⟨b1, 0, none⟩)), (6, .slice none 0 0), (7, .int .i64 0)]) ⟨rfl, rfl, rfl, rfl, rfl, trivial⟩ (WK.cls (C' := St w0 m m [[⟨b1, 25, [.int .i64 p0_0, .int .i64 p0_1, .int .i64 p0_2, .int .i64 p0_3, .int .i64 p0_4, .slice a_p0_5 p0_5.length c_p0_5]⟩]]) (fun _ h => h) ?_)
              refine WK_seq ?_
              refine WK_region ?_
              refine WO_pure tbok 1 [(1, .slice a_p1 p1.length c_p1), (2, .slice a_p2 p2.length c_p2), (3, .pointer (some ⟨b1, 0, none⟩)), (6, .slice none 0 0), (7, .int .i64 0), (82, .pointer (some ⟨b1, 5, none⟩))] rfl ⟨rfl, rfl, rfl, rfl, rfl, rfl, trivial⟩ ?_
              refine WO_loadB tbok 0 rfl rfl rfl rfl (fun _ h => h) rfl rfl ?_
              refine WO_pure tbok 1 [(1, .slice a_p1 p1.length c_p1), (2, .slice a_p2 p2.length c_p2), (3, .pointer (some ⟨b1, 0, none⟩)), (6, .slice none 0 0), (7, .int .i64 0), (84, .int .i64 (p0_5.length : Int))] rfl ⟨rfl, rfl, rfl, rfl, rfl, rfl, trivial⟩ ?_
              obtain ⟨hc26, hm⟩ := chk_some hm
              refine WO_make (E := B1) tbok (fun _ => rfl) (by decide) false rfl rfl trivial rfl rfl rfl rfl rfl rfl rfl rfl rfl (mk_ok (by decide) hc26) (fun b27 c28 L29 hL29 => ?_)
              refine WO.cls (C' := St w0 m m [[⟨b1, 25, [.int .i64 p0_0, .int .i64 p0_1, .int .i64 p0_2, .int .i64 p0_3, .int .i64 p0_4, .slice a_p0_5 p0_5.length c_p0_5]⟩], L29]) (fun _ h => h) ?_
              refine WO_pure tbok 1 [(1, .slice a_p1 p1.length c_p1), (2, .slice a_p2 p2.length c_p2), (3, .pointer (some ⟨b1, 0, none⟩)), (6, .slice none 0 0), (7, .int .i64 0), (12, .slice (some ⟨b27, 0, none⟩) ((List.replicate (p0_5.length : Int).toNat false).length) c28)] rfl ⟨rfl, rfl, rfl, rfl, rfl, rfl, trivial⟩ ?_
              refine WO_end ?_
              refine WK_seq ?_
              refine WK_seq ?_
              refine WK_region ?_
              refine WO_pure tbok 1 [(1, .slice a_p1 p1.length c_p1), (2, .slice a_p2 p2.length c_p2), (3, .pointer (some ⟨b1, 0, none⟩)), (6, .slice none 0 0), (7, .int .i64 0), (12, .slice (some ⟨b27, 0, none⟩) ((List.replicate (p0_5.length : Int).toNat false).length) c28), (86, .pointer (some ⟨b1, 5, none⟩))] rfl ⟨rfl, rfl, rfl, rfl, rfl, rfl, rfl, trivial⟩ ?_
              refine WO_loadB tbok 0 rfl rfl rfl rfl (fun _ h => h) rfl rfl ?_
              refine WO_pure tbok 2 [(1, .slice a_p1 p1.length c_p1), (2, .slice a_p2 p2.length c_p2), (3, .pointer (some ⟨b1, 0, none⟩)), (6, .slice none 0 0), (7, .int .i64 0), (12, .slice (some ⟨b27, 0, none⟩) ((List.replicate (p0_5.length : Int).toNat false).length) c28), (87, .slice a_p0_5 p0_5.length c_p0_5), (88, .int .i64 (p0_5.length : Int)), (89, .int .i64 0)] rfl ⟨rfl, rfl, rfl, rfl, rfl, rfl, rfl, rfl, rfl, trivial⟩ ?_
              refine WO_end ?_
              obtain ⟨x32, hx33, hm⟩ := bind_some hm
              refine WK_join (β := (List Bool) × (List Ent)) (fun p => p.1 = x32 ∧ OwnE 4 1 B1 (.slice (some ⟨b27, 0, none⟩) ((List.replicate (p0_5.length : Int).toNat false).length) c28) p.1 p.2) (fun p => [(1, .slice a_p1 p1.length c_p1), (2, .slice a_p2 p2.length c_p2), (3, .pointer (some ⟨b1, 0, none⟩)), (6, .slice none 0 0), (7, .int .i64 0), (12, .slice (some ⟨b27, 0, none⟩) ((List.replicate (p0_5.length : Int).toNat false).length) c28)]) (fun p => St w0 m m [[⟨b1, 25, [.int .i64 p0_0, .int .i64 p0_1, .int .i64 p0_2, .int .i64 p0_3, .int .i64 p0_4, .slice a_p0_5 p0_5.length c_p0_5]⟩], p.2]) ?_ (fun hk34 => ?_)
              · rintro ⟨l_7, L31⟩ ⟨hq40, hL31⟩
                subst hq40
                refine WK.sub (e' := [(1, .slice a_p1 p1.length c_p1), (2, .slice a_p2 p2.length c_p2), (3, .pointer (some ⟨b1, 0, none⟩)), (6, .slice none 0 0), (7, .int .i64 0), (12, .slice (some ⟨b27, 0, none⟩) ((List.replicate (p0_5.length : Int).toNat false).length) c28)]) ⟨rfl, rfl, rfl, rfl, rfl, rfl, trivial⟩ (WK.cls (C' := St w0 m m [[⟨b1, 25, [.int .i64 p0_0, .int .i64 p0_1, .int .i64 p0_2, .int .i64 p0_3, .int .i64 p0_4, .slice a_p0_5 p0_5.length c_p0_5]⟩], L31]) (fun _ h => h) ?_)
                refine WK_seq ?_
                refine WK_seq ?_
                refine WK_region ?_
                refine WO_pure tbok 3 [(2, .slice a_p2 p2.length c_p2), (3, .pointer (some ⟨b1, 0, none⟩)), (6, .slice none 0 0), (7, .int .i64 0), (12, .slice (some ⟨b27, 0, none⟩) ((List.replicate (p0_5.length : Int).toNat false).length) c28), (100, .slice a_p1 p1.length c_p1), (101, .int .i64 (p1.length : Int)), (102, .int .i64 0)] rfl ⟨rfl, rfl, rfl, rfl, rfl, rfl, rfl, rfl, trivial⟩ ?_
                refine WO_end ?_
                obtain ⟨x55, hx56, hm⟩ := bind_some hm
                refine WK_join (β := (List Bool × Int × Int × Int × Int × Int × List Int) × (Mu × List Ent × Option Addr × Nat × Nat)) (fun p => p.1 = x55 ∧ Le m p.2.1 ∧ OwnE 4 1 B1 (.slice (some ⟨b27, 0, none⟩) ((List.replicate (p0_5.length : Int).toNat false).length) c28) p.1.1 p.2.2.1 ∧ SlR (FE (I1 .i64)) 1 p.2.1 (.slice p.2.2.2.1 p.2.2.2.2.1 p.2.2.2.2.2) p.1.2.2.2.2.2.2) (fun p => [(6, .slice none 0 0), (7, .int .i64 0), (12, .slice (some ⟨b27, 0, none⟩) ((List.replicate (p0_5.length : Int).toNat false).length) c28)]) (fun p => St w0 m p.2.1 [[⟨b1, 25, [.int .i64 p.1.2.1, .int .i64 p.1.2.2.1, .int .i64 p.1.2.2.2.1, .int .i64 p.1.2.2.2.2.1, .int .i64 p.1.2.2.2.2.2.1, .slice p.2.2.2.1 p.2.2.2.2.1 p.2.2.2.2.2]⟩], p.2.2.1]) ?_ (fun hk57 => ?_)
                · rintro ⟨⟨l_16, s_17, s_18, s_19, s_20, s_21, l_22⟩, ⟨m48, L50, a51, q52, c53⟩⟩ ⟨hq63, hle49, hL50, h54⟩
                  subst hq63
                  have hqq : q52 = l_22.length := SlR.qlen h54
                  subst hqq
                  refine WK.sub (e' := [(6, .slice none 0 0), (7, .int .i64 0), (12, .slice (some ⟨b27, 0, none⟩) ((List.replicate (p0_5.length : Int).toNat false).length) c28)]) ⟨rfl, rfl, rfl, trivial⟩ (WK.cls (C' := St w0 m m48 [[⟨b1, 25, [.int .i64 s_17, .int .i64 s_18, .int .i64 s_19, .int .i64 s_20, .int .i64 s_21, .slice a51 ((l_22).length) c53]⟩], L50]) (fun _ h => h) ?_)
                  refine WK_seq ?_
                  refine WK_region ?_
                  refine WO_pure tbok 3 [(6, .slice (some ⟨b27, 0, none⟩) ((List.replicate (p0_5.length : Int).toNat false).length) c28), (7, .int .i64 0)] rfl ⟨rfl, rfl, trivial⟩ ?_
                  refine WO_end ?_
                  cases hm
                  exact WK_ret (ret_out (L := L50) (RLc_tmp rfl (RLc_tmp rfl RLc_nil)) (seg_sub 1 rfl) ⟨(some ⟨b27, 0, none⟩), ((List.replicate (p0_5.length : Int).toNat false).length), c28, rfl, hL50⟩)
                · refine WK_block ?_
                  refine WK_loop (S := List Bool × Int × Int × Int × Int × Int × Int × List Int) (G := Mu × List Ent × Option Addr × Nat × Nat) (fun s => terrain_Ground_s4 p1 p2 s.1 s.2.1 s.2.2.1 s.2.2.2.1 s.2.2.2.2.1 s.2.2.2.2.2.1 s.2.2.2.2.2.2.1 s.2.2.2.2.2.2.2) (fun s g => [(2, .slice a_p2 p2.length c_p2), (3, .pointer (some ⟨b1, 0, none⟩)), (6, .slice none 0 0), (7, .int .i64 0), (12, .slice (some ⟨b27, 0, none⟩) ((List.replicate (p0_5.length : Int).toNat false).length) c28), (100, .slice a_p1 p1.length c_p1), (101, .int .i64 (p1.length : Int)), (102, .int .i64 s.2.1)]) (fun s g => St w0 m g.1 [[⟨b1, 25, [.int .i64 s.2.2.1, .int .i64 s.2.2.2.1, .int .i64 s.2.2.2.2.1, .int .i64 s.2.2.2.2.2.1, .int .i64 s.2.2.2.2.2.2.1, .slice g.2.2.1 g.2.2.2.1 g.2.2.2.2]⟩], g.2.1]) (fun s g => Le m g.1 ∧ OwnE 4 1 B1 (.slice (some ⟨b27, 0, none⟩) ((List.replicate (p0_5.length : Int).toNat false).length) c28) s.1 g.2.1 ∧ SlR (FE (I1 .i64)) 1 g.1 (.slice g.2.2.1 g.2.2.2.1 g.2.2.2.2) s.2.2.2.2.2.2.2) FUEL (l_7, 0, p0_0, p0_1, p0_2, p0_3, p0_4, p0_5) (m, L31, a_p0_5, p0_5.length, c_p0_5) x55 hx56 ⟨(Le.refl _), hL31, h_p0_5⟩ ⟨rfl, rfl, rfl, rfl, rfl, rfl, rfl, rfl, trivial⟩ (fun _ h => h) ?_
                  rintro ⟨l_8, s_9, s_10, s_11, s_12, s_13, s_14, l_15⟩ ⟨m41, L43, a44, q45, c46⟩ o59 fl60 hm58 ⟨hle42, hL43, h47⟩ hn61 hd62
                  have hm58 : terrain_Ground_s4 p1 p2 l_8 s_9 s_10 s_11 s_12 s_13 s_14 l_15 = some o59 := hm58
                  unfold terrain_Ground_s4 at hm58
                  have hqq : q45 = l_15.length := SlR.qlen h47
                  subst hqq
                  refine WK.sub (e' := [(2, .slice a_p2 p2.length c_p2), (3, .pointer (some ⟨b1, 0, none⟩)), (6, .slice none 0 0), (7, .int .i64 0), (12, .slice (some ⟨b27, 0, none⟩) ((List.replicate (p0_5.length : Int).toNat false).length) c28), (100, .slice a_p1 p1.length c_p1), (101, .int .i64 (p1.length : Int)), (102, .int .i64 s_9)]) ⟨rfl, rfl, rfl, rfl, rfl, rfl, rfl, rfl, trivial⟩ (WK.cls (C' := St w0 m m41 [[⟨b1, 25, [.int .i64 s_10, .int .i64 s_11, .int .i64 s_12, .int .i64 s_13, .int .i64 s_14, .slice a44 ((l_15).length) c46]⟩], L43]) (fun _ h => h) ?_)
                  refine WK_seq ?_
                  refine WK_region ?_
                  refine WO_pure tbok 1 [(2, .slice a_p2 p2.length c_p2), (3, .pointer (some ⟨b1, 0, none⟩)), (6, .slice none 0 0), (7, .int .i64 0), (12, .slice (some ⟨b27, 0, none⟩) ((List.replicate (p0_5.length : Int).toNat false).length) c28), (100, .slice a_p1 p1.length c_p1), (101, .int .i64 (p1.length : Int)), (102, .int .i64 s_9), (103, .bool (decide (s_9 < (p1.length : Int))))] rfl ⟨rfl, rfl, rfl, rfl, rfl, rfl, rfl, rfl, rfl, trivial⟩ ?_
                  refine WO_end ?_
                  refine WK_seq ?_
                  refine WK_cond (b := decide (s_9 < (p1.length : Int))) rfl (fun hb64 => ?_) (fun hb64 => ?_)
                  · have hm58 := ifT hb64 hm58
                    refine WK_skip ?_
                    refine WK_seq ?_
                    refine WK_block ?_
                    refine WK_seq ?_
                    refine WK_region ?_
                    refine WO_pure tbok 1 [(2, .slice a_p2 p2.length c_p2), (3, .pointer (some ⟨b1, 0, none⟩)), (6, .slice none 0 0), (7, .int .i64 0), (12, .slice (some ⟨b27, 0, none⟩) ((List.replicate (p0_5.length : Int).toNat false).length) c28), (100, .slice a_p1 p1.length c_p1), (101, .int .i64 (p1.length : Int)), (102, .int .i64 s_9), (104, .int .i64 s_9)] rfl ⟨rfl, rfl, rfl, rfl, rfl, rfl, rfl, rfl, rfl, trivial⟩ ?_
                    obtain ⟨v_23, hy65, hm58⟩ := bind_some hm58
                    obtain ⟨hc66, hy65⟩ := ix_some hy65
                    refine WO_index tbok rfl rfl rfl rfl rfl rfl rfl rfl (SlR.addr (h_p1.mono (mono_FE _) hle42)) hc66 ?_
                    refine WO_loadE tbok rfl rfl rfl rfl (fun _ h => St.sat h) (h_p1.mono (mono_FE _) hle42) hy65 rfl ?_
                    refine WO_pure tbok 2 [(2, .slice a_p2 p2.length c_p2), (3, .pointer (some ⟨b1, 0, none⟩)), (6, .slice none 0 0), (7, .int .i64 0), (12, .slice (some ⟨b27, 0, none⟩) ((List.replicate (p0_5.length : Int).toNat false).length) c28), (15, .int .i64 s_9), (16, .int .i64 v_23), (100, .slice a_p1 p1.length c_p1), (101, .int .i64 (p1.length : Int)), (102, .int .i64 s_9)] rfl ⟨rfl, rfl, rfl, rfl, rfl, rfl, rfl, rfl, rfl, rfl, trivial⟩ ?_
                    refine WO_end ?_
                    refine WK_seq ?_
                    refine WK_region ?_
                    refine WO_loadB tbok 0 rfl rfl rfl rfl (fun _ h => h) rfl rfl ?_
                    refine WO_pure tbok 1 [(2, .slice a_p2 p2.length c_p2), (3, .pointer (some ⟨b1, 0, none⟩)), (6, .slice none 0 0), (7, .int .i64 0), (12, .slice (some ⟨b27, 0, none⟩) ((List.replicate (p0_5.length : Int).toNat false).length) c28), (15, .int .i64 s_9), (100, .slice a_p1 p1.length c_p1), (101, .int .i64 (p1.length : Int)), (102, .int .i64 s_9), (107, .agg #[.int .i64 s_10, .int .i64 s_11, .int .i64 s_12, .int .i64 s_13, .int .i64 s_14, .slice a44 ((l_15).length) c46]), (108, .int .i64 v_23)] rfl ⟨rfl, rfl, rfl, rfl, rfl, rfl, rfl, rfl, rfl, rfl, rfl, trivial⟩ ?_
                    obtain ⟨⟨y_24, y_25, y_26, y_27, y_28, y_29⟩, hc67, hm58⟩ := bind_some hm58
                    refine WO_call2 (terrain_opened_Q (y_24, y_25, y_26, y_27, y_28, y_29)) rfl rfl trivial rfl rfl rfl rfl ⟨50, #[], #[], rfl, callable_50, terrain_opened_walk h47 hc67⟩ (fun v71 m72 L70 hle73 hq => ?_)
                    obtain ⟨a68, qa68, c69, rfl, h74⟩ := hq
                    obtain rfl := SlR.qlen h74
                    refine WO.cls (C' := St w0 m m72 [[⟨b1, 25, [.int .i64 s_10, .int .i64 s_11, .int .i64 s_12, .int .i64 s_13, .int .i64 s_14, .slice a44 ((l_15).length) c46]⟩], L43, L70]) (fun _ h => h.sub (by simp)) ?_
                    refine WO_alloc tbok [.int .i64 0, .int .i64 0, .int .i64 0, .int .i64 0, .int .i64 0, .slice none 0 0] rfl rfl trivial rfl rfl rfl rfl (fun b75 => ?_)
                    refine WO.cls (C' := St w0 m m72 [[⟨b1, 25, [.int .i64 s_10, .int .i64 s_11, .int .i64 s_12, .int .i64 s_13, .int .i64 s_14, .slice a44 ((l_15).length) c46]⟩], L43, L70, [⟨b75, 25, [.int .i64 0, .int .i64 0, .int .i64 0, .int .i64 0, .int .i64 0, .slice none 0 0]⟩]]) (fun _ h => h) ?_
                    refine WO_storeB tbok 3 [.int .i64 y_24, .int .i64 y_25, .int .i64 y_26, .int .i64 y_27, .int .i64 y_28, .slice a68 ((y_29).length) c69] rfl rfl rfl rfl rfl rfl rfl ?_
                    refine WO.cls (C' := St w0 m m72 [[⟨b1, 25, [.int .i64 s_10, .int .i64 s_11, .int .i64 s_12, .int .i64 s_13, .int .i64 s_14, .slice a44 ((l_15).length) c46]⟩], L43, L70, [⟨b75, 25, [.int .i64 y_24, .int .i64 y_25, .int .i64 y_26, .int .i64 y_27, .int .i64 y_28, .slice a68 ((y_29).length) c69]⟩]]) (fun _ h => h) ?_
                    refine WO_end ?_
                    refine WK_seq ?_
                    refine WK_seq ?_
                    refine WK_region ?_
                    refine WO_pure tbok 1 [(2, .slice a_p2 p2.length c_p2), (3, .pointer (some ⟨b1, 0, none⟩)), (6, .slice none 0 0), (7, .int .i64 0), (12, .slice (some ⟨b27, 0, none⟩) ((List.replicate (p0_5.length : Int).toNat false).length) c28), (15, .int .i64 s_9), (17, .pointer (some ⟨b75, 0, none⟩)), (100, .slice a_p1 p1.length c_p1), (101, .int .i64 (p1.length : Int)), (102, .int .i64 s_9), (110, .pointer (some ⟨b1, 5, none⟩))] rfl ⟨rfl, rfl, rfl, rfl, rfl, rfl, rfl, rfl, rfl, rfl, rfl, trivial⟩ ?_
                    refine WO_loadB tbok 0 rfl rfl rfl rfl (fun _ h => h) rfl rfl ?_
                    refine WO_pure tbok 2 [(2, .slice a_p2 p2.length c_p2), (3, .pointer (some ⟨b1, 0, none⟩)), (6, .slice none 0 0), (7, .int .i64 0), (12, .slice (some ⟨b27, 0, none⟩) ((List.replicate (p0_5.length : Int).toNat false).length) c28), (15, .int .i64 s_9), (17, .pointer (some ⟨b75, 0, none⟩)), (100, .slice a_p1 p1.length c_p1), (101, .int .i64 (p1.length : Int)), (102, .int .i64 s_9), (111, .slice a44 ((l_15).length) c46), (112, .int .i64 ((l_15).length : Int)), (113, .int .i64 0)] rfl ⟨rfl, rfl, rfl, rfl, rfl, rfl, rfl, rfl, rfl, rfl, rfl, rfl, rfl, trivial⟩ ?_
                    refine WO_end ?_
                    obtain ⟨x78, hx79, hm58⟩ := bind_some hm58
                    refine WK_join (β := (List Bool) × (List Ent)) (fun p => p.1 = x78 ∧ OwnE 4 1 B1 (.slice (some ⟨b27, 0, none⟩) ((List.replicate (p0_5.length : Int).toNat false).length) c28) p.1 p.2) (fun p => [(2, .slice a_p2 p2.length c_p2), (3, .pointer (some ⟨b1, 0, none⟩)), (6, .slice none 0 0), (7, .int .i64 0), (12, .slice (some ⟨b27, 0, none⟩) ((List.replicate (p0_5.length : Int).toNat false).length) c28), (17, .pointer (some ⟨b75, 0, none⟩)), (100, .slice a_p1 p1.length c_p1), (101, .int .i64 (p1.length : Int)), (102, .int .i64 s_9)]) (fun p => St w0 m m72 [[⟨b1, 25, [.int .i64 s_10, .int .i64 s_11, .int .i64 s_12, .int .i64 s_13, .int .i64 s_14, .slice a44 ((l_15).length) c46]⟩], p.2, L70, [⟨b75, 25, [.int .i64 y_24, .int .i64 y_25, .int .i64 y_26, .int .i64 y_27, .int .i64 y_28, .slice a68 ((y_29).length) c69]⟩]]) ?_ (fun hk80 => ?_)
                    · rintro ⟨l_32, L77⟩ ⟨hq86, hL77⟩
                      subst hq86
                      refine WK.sub (e' := [(2, .slice a_p2 p2.length c_p2), (3, .pointer (some ⟨b1, 0, none⟩)), (6, .slice none 0 0), (7, .int .i64 0), (12, .slice (some ⟨b27, 0, none⟩) ((List.replicate (p0_5.length : Int).toNat false).length) c28), (17, .pointer (some ⟨b75, 0, none⟩)), (100, .slice a_p1 p1.length c_p1), (101, .int .i64 (p1.length : Int)), (102, .int .i64 s_9)]) ⟨rfl, rfl, rfl, rfl, rfl, rfl, rfl, rfl, rfl, trivial⟩ (WK.cls (C' := St w0 m m72 [[⟨b1, 25, [.int .i64 s_10, .int .i64 s_11, .int .i64 s_12, .int .i64 s_13, .int .i64 s_14, .slice a44 ((l_15).length) c46]⟩], L77, L70, [⟨b75, 25, [.int .i64 y_24, .int .i64 y_25, .int .i64 y_26, .int .i64 y_27, .int .i64 y_28, .slice a68 ((y_29).length) c69]⟩]]) (fun _ h => h) ?_)
                      refine WK_region ?_
                      refine WO_loadB tbok 3 rfl rfl rfl rfl (fun _ h => h) rfl rfl ?_
                      refine WO_storeB tbok 0 [.int .i64 y_24, .int .i64 y_25, .int .i64 y_26, .int .i64 y_27, .int .i64 y_28, .slice a68 ((y_29).length) c69] rfl rfl rfl rfl rfl rfl rfl ?_
                      refine WO.cls (C' := St w0 m m72 [[⟨b1, 25, [.int .i64 y_24, .int .i64 y_25, .int .i64 y_26, .int .i64 y_27, .int .i64 y_28, .slice a68 ((y_29).length) c69]⟩], L77, L70, [⟨b75, 25, [.int .i64 y_24, .int .i64 y_25, .int .i64 y_26, .int .i64 y_27, .int .i64 y_28, .slice a68 ((y_29).length) c69]⟩]]) (fun _ h => h) ?_
                      refine WO_end ?_
                      refine WK_blk ?_
                      refine WK_region ?_
                      refine WO_pure tbok 2 [(2, .slice a_p2 p2.length c_p2), (3, .pointer (some ⟨b1, 0, none⟩)), (6, .slice none 0 0), (7, .int .i64 0), (12, .slice (some ⟨b27, 0, none⟩) ((List.replicate (p0_5.length : Int).toNat false).length) c28), (100, .slice a_p1 p1.length c_p1), (101, .int .i64 (p1.length : Int)), (102, .int .i64 (w64 (s_9 + 1)))] rfl ⟨rfl, rfl, rfl, rfl, rfl, rfl, rfl, rfl, trivial⟩ ?_
                      refine WO_end ?_
                      cases hm58
                      refine WK.sub ?_ (WK.cls (fun _ h => St.take 2 h) (hn61 _ (m72, L77, a68, _, c69) rfl ⟨(hle42.trans hle73), hL77, h74⟩))
                      exact ⟨rfl, rfl, rfl, rfl, rfl, rfl, rfl, rfl, trivial⟩
                    · refine WK_block ?_
                      refine WK_loop (S := List Bool × Int) (G := List Ent) (fun s => terrain_Ground_s5 p2 s_9 l_15 y_29 s.1 s.2) (fun s g => [(2, .slice a_p2 p2.length c_p2), (3, .pointer (some ⟨b1, 0, none⟩)), (6, .slice none 0 0), (7, .int .i64 0), (12, .slice (some ⟨b27, 0, none⟩) ((List.replicate (p0_5.length : Int).toNat false).length) c28), (15, .int .i64 s_9), (17, .pointer (some ⟨b75, 0, none⟩)), (100, .slice a_p1 p1.length c_p1), (101, .int .i64 (p1.length : Int)), (102, .int .i64 s_9), (111, .slice a44 ((l_15).length) c46), (112, .int .i64 ((l_15).length : Int)), (113, .int .i64 s.2)]) (fun s g => St w0 m m72 [[⟨b1, 25, [.int .i64 s_10, .int .i64 s_11, .int .i64 s_12, .int .i64 s_13, .int .i64 s_14, .slice a44 ((l_15).length) c46]⟩], g, L70, [⟨b75, 25, [.int .i64 y_24, .int .i64 y_25, .int .i64 y_26, .int .i64 y_27, .int .i64 y_28, .slice a68 ((y_29).length) c69]⟩]]) (fun s g => OwnE 4 1 B1 (.slice (some ⟨b27, 0, none⟩) ((List.replicate (p0_5.length : Int).toNat false).length) c28) s.1 g) FUEL (l_8, 0) L43 x78 hx79 hL43 ⟨rfl, rfl, rfl, rfl, rfl, rfl, rfl, rfl, rfl, rfl, rfl, rfl, rfl, trivial⟩ (fun _ h => h) ?_
                      rintro ⟨l_30, s_31⟩ L76 o82 fl83 hm81 hL76 hn84 hd85
                      have hm81 : terrain_Ground_s5 p2 s_9 l_15 y_29 l_30 s_31 = some o82 := hm81
                      unfold terrain_Ground_s5 at hm81
                      refine WK.sub (e' := [(2, .slice a_p2 p2.length c_p2), (3, .pointer (some ⟨b1, 0, none⟩)), (6, .slice none 0 0), (7, .int .i64 0), (12, .slice (some ⟨b27, 0, none⟩) ((List.replicate (p0_5.length : Int).toNat false).length) c28), (15, .int .i64 s_9), (17, .pointer (some ⟨b75, 0, none⟩)), (100, .slice a_p1 p1.length c_p1), (101, .int .i64 (p1.length : Int)), (102, .int .i64 s_9), (111, .slice a44 ((l_15).length) c46), (112, .int .i64 ((l_15).length : Int)), (113, .int .i64 s_31)]) ⟨rfl, rfl, rfl, rfl, rfl, rfl, rfl, rfl, rfl, rfl, rfl, rfl, rfl, trivial⟩ (WK.cls (C' := St w0 m m72 [[⟨b1, 25, [.int .i64 s_10, .int .i64 s_11, .int .i64 s_12, .int .i64 s_13, .int .i64 s_14, .slice a44 ((l_15).length) c46]⟩], L76, L70, [⟨b75, 25, [.int .i64 y_24, .int .i64 y_25, .int .i64 y_26, .int .i64 y_27, .int .i64 y_28, .slice a68 ((y_29).length) c69]⟩]]) (fun _ h => h) ?_)
                      refine WK_seq ?_
                      refine WK_region ?_
                      refine WO_pure tbok 1 [(2, .slice a_p2 p2.length c_p2), (3, .pointer (some ⟨b1, 0, none⟩)), (6, .slice none 0 0), (7, .int .i64 0), (12, .slice (some ⟨b27, 0, none⟩) ((List.replicate (p0_5.length : Int).toNat false).length) c28), (15, .int .i64 s_9), (17, .pointer (some ⟨b75, 0, none⟩)), (100, .slice a_p1 p1.length c_p1), (101, .int .i64 (p1.length : Int)), (102, .int .i64 s_9), (111, .slice a44 ((l_15).length) c46), (112, .int .i64 ((l_15).length : Int)), (113, .int .i64 s_31), (114, .bool (decide (s_31 < ((l_15).length : Int))))] rfl ⟨rfl, rfl, rfl, rfl, rfl, rfl, rfl, rfl, rfl, rfl, rfl, rfl, rfl, rfl, trivial⟩ ?_
                      refine WO_end ?_
                      refine WK_seq ?_
                      refine WK_cond (b := decide (s_31 < ((l_15).length : Int))) rfl (fun hb87 => ?_) (fun hb87 => ?_)
                      · have hm81 := ifT hb87 hm81
                        refine WK_skip ?_
                        refine WK_seq ?_
                        refine WK_block ?_
                        refine WK_seq ?_
                        refine WK_region ?_
                        refine WO_pure tbok 1 [(2, .slice a_p2 p2.length c_p2), (3, .pointer (some ⟨b1, 0, none⟩)), (6, .slice none 0 0), (7, .int .i64 0), (12, .slice (some ⟨b27, 0, none⟩) ((List.replicate (p0_5.length : Int).toNat false).length) c28), (15, .int .i64 s_9), (17, .pointer (some ⟨b75, 0, none⟩)), (100, .slice a_p1 p1.length c_p1), (101, .int .i64 (p1.length : Int)), (102, .int .i64 s_9), (111, .slice a44 ((l_15).length) c46), (112, .int .i64 ((l_15).length : Int)), (113, .int .i64 s_31), (115, .int .i64 s_31)] rfl ⟨rfl, rfl, rfl, rfl, rfl, rfl, rfl, rfl, rfl, rfl, rfl, rfl, rfl, rfl, trivial⟩ ?_
                        obtain ⟨v_33, hy88, hm81⟩ := bind_some hm81
                        obtain ⟨hc89, hy88⟩ := ix_some hy88
                        refine WO_index tbok rfl rfl rfl rfl rfl rfl rfl rfl (SlR.addr (h47.mono (mono_FE _) hle73)) hc89 ?_
                        refine WO_loadE tbok rfl rfl rfl rfl (fun _ h => St.sat h) (h47.mono (mono_FE _) hle73) hy88 rfl ?_
                        refine WO_pure tbok 2 [(2, .slice a_p2 p2.length c_p2), (3, .pointer (some ⟨b1, 0, none⟩)), (6, .slice none 0 0), (7, .int .i64 0), (12, .slice (some ⟨b27, 0, none⟩) ((List.replicate (p0_5.length : Int).toNat false).length) c28), (15, .int .i64 s_9), (17, .pointer (some ⟨b75, 0, none⟩)), (18, .int .i64 s_31), (19, .int .i64 v_33), (100, .slice a_p1 p1.length c_p1), (101, .int .i64 (p1.length : Int)), (102, .int .i64 s_9), (111, .slice a44 ((l_15).length) c46), (112, .int .i64 ((l_15).length : Int)), (113, .int .i64 s_31)] rfl ⟨rfl, rfl, rfl, rfl, rfl, rfl, rfl, rfl, rfl, rfl, rfl, rfl, rfl, rfl, rfl, trivial⟩ ?_
                        refine WO_end ?_
                        refine WK_seq ?_
                        obtain ⟨s_34, hx90, hm81⟩ := bind_some hm81
                        refine WK_meet [(2, .slice a_p2 p2.length c_p2), (3, .pointer (some ⟨b1, 0, none⟩)), (6, .slice none 0 0), (7, .int .i64 0), (12, .slice (some ⟨b27, 0, none⟩) ((List.replicate (p0_5.length : Int).toNat false).length) c28), (15, .int .i64 s_9), (17, .pointer (some ⟨b75, 0, none⟩)), (18, .int .i64 s_31), (100, .slice a_p1 p1.length c_p1), (101, .int .i64 (p1.length : Int)), (102, .int .i64 s_9), (111, .slice a44 ((l_15).length) c46), (112, .int .i64 ((l_15).length : Int)), (113, .int .i64 s_31), (133, .bool s_34)] (St w0 m m72 [[⟨b1, 25, [.int .i64 s_10, .int .i64 s_11, .int .i64 s_12, .int .i64 s_13, .int .i64 s_14, .slice a44 ((l_15).length) c46]⟩], L76, L70, [⟨b75, 25, [.int .i64 y_24, .int .i64 y_25, .int .i64 y_26, .int .i64 y_27, .int .i64 y_28, .slice a68 ((y_29).length) c69]⟩]]) ?_ (fun hk91 => ?_)
                        · obtain ⟨l_35, hx93, hm81⟩ := bind_some hm81
                          refine WK_join (β := List Ent) (fun p => OwnE 4 1 B1 (.slice (some ⟨b27, 0, none⟩) ((List.replicate (p0_5.length : Int).toNat false).length) c28) l_35 p) (fun p => [(2, .slice a_p2 p2.length c_p2), (3, .pointer (some ⟨b1, 0, none⟩)), (6, .slice none 0 0), (7, .int .i64 0), (12, .slice (some ⟨b27, 0, none⟩) ((List.replicate (p0_5.length : Int).toNat false).length) c28), (15, .int .i64 s_9), (17, .pointer (some ⟨b75, 0, none⟩)), (100, .slice a_p1 p1.length c_p1), (101, .int .i64 (p1.length : Int)), (102, .int .i64 s_9), (111, .slice a44 ((l_15).length) c46), (112, .int .i64 ((l_15).length : Int)), (113, .int .i64 s_31)]) (fun p => St w0 m m72 [[⟨b1, 25, [.int .i64 s_10, .int .i64 s_11, .int .i64 s_12, .int .i64 s_13, .int .i64 s_14, .slice a44 ((l_15).length) c46]⟩], p, L70, [⟨b75, 25, [.int .i64 y_24, .int .i64 y_25, .int .i64 y_26, .int .i64 y_27, .int .i64 y_28, .slice a68 ((y_29).length) c69]⟩]]) ?_ (fun hk94 => ?_)
                          · rintro L92 hL92
                            refine WK.sub (e' := [(2, .slice a_p2 p2.length c_p2), (3, .pointer (some ⟨b1, 0, none⟩)), (6, .slice none 0 0), (7, .int .i64 0), (12, .slice (some ⟨b27, 0, none⟩) ((List.replicate (p0_5.length : Int).toNat false).length) c28), (15, .int .i64 s_9), (17, .pointer (some ⟨b75, 0, none⟩)), (100, .slice a_p1 p1.length c_p1), (101, .int .i64 (p1.length : Int)), (102, .int .i64 s_9), (111, .slice a44 ((l_15).length) c46), (112, .int .i64 ((l_15).length : Int)), (113, .int .i64 s_31)]) ⟨rfl, rfl, rfl, rfl, rfl, rfl, rfl, rfl, rfl, rfl, rfl, rfl, rfl, trivial⟩ (WK.cls (C' := St w0 m m72 [[⟨b1, 25, [.int .i64 s_10, .int .i64 s_11, .int .i64 s_12, .int .i64 s_13, .int .i64 s_14, .slice a44 ((l_15).length) c46]⟩], L92, L70, [⟨b75, 25, [.int .i64 y_24, .int .i64 y_25, .int .i64 y_26, .int .i64 y_27, .int .i64 y_28, .slice a68 ((y_29).length) c69]⟩]]) (fun _ h => h) ?_)
                            refine WK_blk ?_
                            refine WK_region ?_
                            refine WO_pure tbok 2 [(2, .slice a_p2 p2.length c_p2), (3, .pointer (some ⟨b1, 0, none⟩)), (6, .slice none 0 0), (7, .int .i64 0), (12, .slice (some ⟨b27, 0, none⟩) ((List.replicate (p0_5.length : Int).toNat false).length) c28), (15, .int .i64 s_9), (17, .pointer (some ⟨b75, 0, none⟩)), (100, .slice a_p1 p1.length c_p1), (101, .int .i64 (p1.length : Int)), (102, .int .i64 s_9), (111, .slice a44 ((l_15).length) c46), (112, .int .i64 ((l_15).length : Int)), (113, .int .i64 (w64 (s_31 + 1)))] rfl ⟨rfl, rfl, rfl, rfl, rfl, rfl, rfl, rfl, rfl, rfl, rfl, rfl, rfl, trivial⟩ ?_
                            refine WO_end ?_
                            cases hm81
                            refine WK.sub ?_ (WK.cls (fun _ h => h) (hn84 _ L92 rfl hL92))
                            exact ⟨rfl, rfl, rfl, rfl, rfl, rfl, rfl, rfl, rfl, rfl, rfl, rfl, rfl, trivial⟩
                          · refine WK_cond (b := s_34) rfl (fun hb95 => ?_) (fun hb95 => ?_)
                            · have hx93 := ifT hb95 hx93
                              refine WK_region ?_
                              refine WO_pure tbok 2 [(2, .slice a_p2 p2.length c_p2), (3, .pointer (some ⟨b1, 0, none⟩)), (6, .slice none 0 0), (7, .int .i64 0), (12, .slice (some ⟨b27, 0, none⟩) ((List.replicate (p0_5.length : Int).toNat false).length) c28), (15, .int .i64 s_9), (17, .pointer (some ⟨b75, 0, none⟩)), (100, .slice a_p1 p1.length c_p1), (101, .int .i64 (p1.length : Int)), (102, .int .i64 s_9), (111, .slice a44 ((l_15).length) c46), (112, .int .i64 ((l_15).length : Int)), (113, .int .i64 s_31), (134, .slice (some ⟨b27, 0, none⟩) ((List.replicate (p0_5.length : Int).toNat false).length) c28), (135, .int .i64 s_31)] rfl ⟨rfl, rfl, rfl, rfl, rfl, rfl, rfl, rfl, rfl, rfl, rfl, rfl, rfl, rfl, rfl, trivial⟩ ?_
                              obtain ⟨hc96, hx93⟩ := chk_some hx93
                              refine WO_index tbok rfl rfl rfl rfl rfl rfl rfl rfl (OwnE.addr hL76) (by simpa using hc96) ?_
                              refine WO_storeO (E := B1) tbok (fun _ => rfl) 1 false rfl rfl rfl rfl rfl hL76 rfl (by simpa using idx_lt hc96) rfl rfl rfl rfl (fun L97 hL97 => ?_)
                              refine WO.cls (C' := St w0 m m72 [[⟨b1, 25, [.int .i64 s_10, .int .i64 s_11, .int .i64 s_12, .int .i64 s_13, .int .i64 s_14, .slice a44 ((l_15).length) c46]⟩], L97, L70, [⟨b75, 25, [.int .i64 y_24, .int .i64 y_25, .int .i64 y_26, .int .i64 y_27, .int .i64 y_28, .slice a68 ((y_29).length) c69]⟩]]) (fun _ h => h) ?_
                              refine WO_end ?_
                              cases hx93
                              refine WK.sub ?_ (WK.cls (fun _ h => h) (hk94 L97 hL97))
                              exact ⟨rfl, rfl, rfl, rfl, rfl, rfl, rfl, rfl, rfl, rfl, rfl, rfl, rfl, trivial⟩
                            · have hx93 := ifF hb95 hx93
                              refine WK_skip ?_
                              cases hx93
                              refine WK.sub ?_ (WK.cls (fun _ h => h) (hk94 L76 hL76))
                              exact ⟨rfl, rfl, rfl, rfl, rfl, rfl, rfl, rfl, rfl, rfl, rfl, rfl, rfl, trivial⟩
                        · refine WK_draw 16 [0, 1, 2, 3, 4, 5, 6, 7, 8, 9, 10, 11, 12, 13, 14, 15] follows_ok (by kernel_rfl) St_closed ?_
                          refine WO_pure tbok 3 [(2, .slice a_p2 p2.length c_p2), (3, .pointer (some ⟨b1, 0, none⟩)), (6, .slice none 0 0), (7, .int .i64 0), (12, .slice (some ⟨b27, 0, none⟩) ((List.replicate (p0_5.length : Int).toNat false).length) c28), (15, .int .i64 s_9), (17, .pointer (some ⟨b75, 0, none⟩)), (18, .int .i64 s_31), (19, .int .i64 v_33), (100, .slice a_p1 p1.length c_p1), (101, .int .i64 (p1.length : Int)), (102, .int .i64 s_9), (111, .slice a44 ((l_15).length) c46), (112, .int .i64 ((l_15).length : Int)), (113, .int .i64 s_31), (120, .bool (v_33 != (-2147483648)))] rfl ⟨rfl, rfl, rfl, rfl, rfl, rfl, rfl, rfl, rfl, rfl, rfl, rfl, rfl, rfl, rfl, rfl, trivial⟩ ?_
                          refine WO_split (d := 120) (b := v_33 != (-2147483648)) rfl (fun hb98 => ?_) (fun hb98 => ?_)
                          · have hx90 := ifT hb98 hx90
                            refine WO_pure tbok 2 [(2, .slice a_p2 p2.length c_p2), (3, .pointer (some ⟨b1, 0, none⟩)), (6, .slice none 0 0), (7, .int .i64 0), (12, .slice (some ⟨b27, 0, none⟩) ((List.replicate (p0_5.length : Int).toNat false).length) c28), (15, .int .i64 s_9), (17, .pointer (some ⟨b75, 0, none⟩)), (18, .int .i64 s_31), (100, .slice a_p1 p1.length c_p1), (101, .int .i64 (p1.length : Int)), (102, .int .i64 s_9), (111, .slice a44 ((l_15).length) c46), (112, .int .i64 ((l_15).length : Int)), (113, .int .i64 s_31), (120, .bool true), (121, .int .i64 v_33), (122, .pointer (some ⟨b75, 5, none⟩))] rfl ⟨rfl, rfl, rfl, rfl, rfl, rfl, rfl, rfl, rfl, rfl, rfl, rfl, rfl, rfl, rfl, rfl, rfl, trivial⟩ ?_
                            refine WO_loadB tbok 3 rfl rfl rfl rfl (fun _ h => h) rfl rfl ?_
                            refine WO_pure tbok 1 [(2, .slice a_p2 p2.length c_p2), (3, .pointer (some ⟨b1, 0, none⟩)), (6, .slice none 0 0), (7, .int .i64 0), (12, .slice (some ⟨b27, 0, none⟩) ((List.replicate (p0_5.length : Int).toNat false).length) c28), (15, .int .i64 s_9), (17, .pointer (some ⟨b75, 0, none⟩)), (18, .int .i64 s_31), (100, .slice a_p1 p1.length c_p1), (101, .int .i64 (p1.length : Int)), (102, .int .i64 s_9), (111, .slice a44 ((l_15).length) c46), (112, .int .i64 ((l_15).length : Int)), (113, .int .i64 s_31), (120, .bool true), (121, .int .i64 v_33), (123, .slice a68 ((y_29).length) c69), (124, .int .i64 s_31)] rfl ⟨rfl, rfl, rfl, rfl, rfl, rfl, rfl, rfl, rfl, rfl, rfl, rfl, rfl, rfl, rfl, rfl, rfl, rfl, trivial⟩ ?_
                            obtain ⟨v_36, hy99, hx90⟩ := bind_some hx90
                            obtain ⟨hc100, hy99⟩ := ix_some hy99
                            refine WO_index tbok rfl rfl rfl rfl rfl rfl rfl rfl (SlR.addr h74) hc100 ?_
                            refine WO_loadE tbok rfl rfl rfl rfl (fun _ h => St.sat h) h74 hy99 rfl ?_
                            refine WO_pure tbok 2 [(2, .slice a_p2 p2.length c_p2), (3, .pointer (some ⟨b1, 0, none⟩)), (6, .slice none 0 0), (7, .int .i64 0), (12, .slice (some ⟨b27, 0, none⟩) ((List.replicate (p0_5.length : Int).toNat false).length) c28), (15, .int .i64 s_9), (17, .pointer (some ⟨b75, 0, none⟩)), (18, .int .i64 s_31), (100, .slice a_p1 p1.length c_p1), (101, .int .i64 (p1.length : Int)), (102, .int .i64 s_9), (111, .slice a44 ((l_15).length) c46), (112, .int .i64 ((l_15).length : Int)), (113, .int .i64 s_31), (120, .bool true), (121, .int .i64 v_33), (126, .int .i64 v_36), (127, .slice a_p2 p2.length c_p2), (128, .int .i64 s_9)] rfl ⟨rfl, rfl, rfl, rfl, rfl, rfl, rfl, rfl, rfl, rfl, rfl, rfl, rfl, rfl, rfl, rfl, rfl, rfl, rfl, trivial⟩ ?_
                            obtain ⟨v_37, hy101, hx90⟩ := bind_some hx90
                            obtain ⟨hc102, hy101⟩ := ix_some hy101
                            refine WO_index tbok rfl rfl rfl rfl rfl rfl rfl rfl (SlR.addr ((h_p2.mono (mono_FE _) hle42).mono (mono_FE _) hle73)) hc102 ?_
                            refine WO_loadE tbok rfl rfl rfl rfl (fun _ h => St.sat h) ((h_p2.mono (mono_FE _) hle42).mono (mono_FE _) hle73) hy101 rfl ?_
                            refine WO_pure tbok 3 [(2, .slice a_p2 p2.length c_p2), (3, .pointer (some ⟨b1, 0, none⟩)), (6, .slice none 0 0), (7, .int .i64 0), (12, .slice (some ⟨b27, 0, none⟩) ((List.replicate (p0_5.length : Int).toNat false).length) c28), (15, .int .i64 s_9), (17, .pointer (some ⟨b75, 0, none⟩)), (18, .int .i64 s_31), (100, .slice a_p1 p1.length c_p1), (101, .int .i64 (p1.length : Int)), (102, .int .i64 s_9), (111, .slice a44 ((l_15).length) c46), (112, .int .i64 ((l_15).length : Int)), (113, .int .i64 s_31), (133, .bool (decide ((w64 (v_36 + v_37)) < v_33)))] rfl ⟨rfl, rfl, rfl, rfl, rfl, rfl, rfl, rfl, rfl, rfl, rfl, rfl, rfl, rfl, rfl, trivial⟩ ?_
                            refine WO_tail ?_
                            refine WO_end ?_
                            cases hx90
                            refine WK.sub ?_ (WK.cls (fun _ h => h) hk91)
                            exact ⟨rfl, rfl, rfl, rfl, rfl, rfl, rfl, rfl, rfl, rfl, rfl, rfl, rfl, rfl, rfl, trivial⟩
                          · have hx90 := ifF hb98 hx90
                            refine WO_pure tbok 13 [(2, .slice a_p2 p2.length c_p2), (3, .pointer (some ⟨b1, 0, none⟩)), (6, .slice none 0 0), (7, .int .i64 0), (12, .slice (some ⟨b27, 0, none⟩) ((List.replicate (p0_5.length : Int).toNat false).length) c28), (15, .int .i64 s_9), (17, .pointer (some ⟨b75, 0, none⟩)), (18, .int .i64 s_31), (100, .slice a_p1 p1.length c_p1), (101, .int .i64 (p1.length : Int)), (102, .int .i64 s_9), (111, .slice a44 ((l_15).length) c46), (112, .int .i64 ((l_15).length : Int)), (113, .int .i64 s_31), (133, .bool false)] rfl ⟨rfl, rfl, rfl, rfl, rfl, rfl, rfl, rfl, rfl, rfl, rfl, rfl, rfl, rfl, rfl, trivial⟩ ?_
                            refine WO_tail ?_
                            refine WO_end ?_
                            cases hx90
                            refine WK.sub ?_ (WK.cls (fun _ h => h) hk91)
                            exact ⟨rfl, rfl, rfl, rfl, rfl, rfl, rfl, rfl, rfl, rfl, rfl, rfl, rfl, rfl, rfl, trivial⟩
                      · have hm81 := ifF hb87 hm81
                        refine WK_exit rfl ?_
                        cases hm81
                        refine WK.sub ?_ (WK.cls (fun _ h => h) (hk80 (l_30, L76) ⟨(hd85 _ rfl), hL76⟩))
                        exact ⟨rfl, rfl, rfl, rfl, rfl, rfl, rfl, rfl, rfl, trivial⟩
                  · have hm58 := ifF hb64 hm58
                    refine WK_exit rfl ?_
                    cases hm58
                    refine WK.sub ?_ (WK.cls (fun _ h => h) (hk57 ((l_8, s_10, s_11, s_12, s_13, s_14, l_15), (m41, L43, a44, _, c46)) ⟨(hd62 _ rfl), hle42, hL43, h47⟩))
                    exact ⟨rfl, rfl, rfl, trivial⟩
              · refine WK_block ?_
                refine WK_loop (S := List Bool × Int) (G := List Ent) (fun s => terrain_Ground_s3 p0_5 s.1 s.2) (fun s g => [(1, .slice a_p1 p1.length c_p1), (2, .slice a_p2 p2.length c_p2), (3, .pointer (some ⟨b1, 0, none⟩)), (6, .slice none 0 0), (7, .int .i64 0), (12, .slice (some ⟨b27, 0, none⟩) ((List.replicate (p0_5.length : Int).toNat false).length) c28), (87, .slice a_p0_5 p0_5.length c_p0_5), (88, .int .i64 (p0_5.length : Int)), (89, .int .i64 s.2)]) (fun s g => St w0 m m [[⟨b1, 25, [.int .i64 p0_0, .int .i64 p0_1, .int .i64 p0_2, .int .i64 p0_3, .int .i64 p0_4, .slice a_p0_5 p0_5.length c_p0_5]⟩], g]) (fun s g => OwnE 4 1 B1 (.slice (some ⟨b27, 0, none⟩) ((List.replicate (p0_5.length : Int).toNat false).length) c28) s.1 g) FUEL ((List.replicate (p0_5.length : Int).toNat false), 0) L29 x32 hx33 hL29 ⟨rfl, rfl, rfl, rfl, rfl, rfl, rfl, rfl, rfl, trivial⟩ (fun _ h => h) ?_
                rintro ⟨l_5, s_6⟩ L30 o36 fl37 hm35 hL30 hn38 hd39
                have hm35 : terrain_Ground_s3 p0_5 l_5 s_6 = some o36 := hm35
                unfold terrain_Ground_s3 at hm35
                refine WK.sub (e' := [(1, .slice a_p1 p1.length c_p1), (2, .slice a_p2 p2.length c_p2), (3, .pointer (some ⟨b1, 0, none⟩)), (6, .slice none 0 0), (7, .int .i64 0), (12, .slice (some ⟨b27, 0, none⟩) ((List.replicate (p0_5.length : Int).toNat false).length) c28), (87, .slice a_p0_5 p0_5.length c_p0_5), (88, .int .i64 (p0_5.length : Int)), (89, .int .i64 s_6)]) ⟨rfl, rfl, rfl, rfl, rfl, rfl, rfl, rfl, rfl, trivial⟩ (WK.cls (C' := St w0 m m [[⟨b1, 25, [.int .i64 p0_0, .int .i64 p0_1, .int .i64 p0_2, .int .i64 p0_3, .int .i64 p0_4, .slice a_p0_5 p0_5.length c_p0_5]⟩], L30]) (fun _ h => h) ?_)
                refine WK_seq ?_
                refine WK_region ?_
                refine WO_pure tbok 1 [(1, .slice a_p1 p1.length c_p1), (2, .slice a_p2 p2.length c_p2), (3, .pointer (some ⟨b1, 0, none⟩)), (6, .slice none 0 0), (7, .int .i64 0), (12, .slice (some ⟨b27, 0, none⟩) ((List.replicate (p0_5.length : Int).toNat false).length) c28), (87, .slice a_p0_5 p0_5.length c_p0_5), (88, .int .i64 (p0_5.length : Int)), (89, .int .i64 s_6), (90, .bool (decide (s_6 < (p0_5.length : Int))))] rfl ⟨rfl, rfl, rfl, rfl, rfl, rfl, rfl, rfl, rfl, rfl, trivial⟩ ?_
                refine WO_end ?_
                refine WK_seq ?_
                refine WK_cond (b := decide (s_6 < (p0_5.length : Int))) rfl (fun hb103 => ?_) (fun hb103 => ?_)
                · have hm35 := ifT hb103 hm35
                  refine WK_skip ?_
                  refine WK_seq ?_
                  refine WK_block ?_
                  refine WK_seq ?_
                  refine WK_region ?_
                  refine WO_pure tbok 1 [(1, .slice a_p1 p1.length c_p1), (2, .slice a_p2 p2.length c_p2), (3, .pointer (some ⟨b1, 0, none⟩)), (6, .slice none 0 0), (7, .int .i64 0), (12, .slice (some ⟨b27, 0, none⟩) ((List.replicate (p0_5.length : Int).toNat false).length) c28), (87, .slice a_p0_5 p0_5.length c_p0_5), (88, .int .i64 (p0_5.length : Int)), (89, .int .i64 s_6), (91, .int .i64 s_6)] rfl ⟨rfl, rfl, rfl, rfl, rfl, rfl, rfl, rfl, rfl, rfl, trivial⟩ ?_
                  obtain ⟨v_38, hy104, hm35⟩ := bind_some hm35
                  obtain ⟨hc105, hy104⟩ := ix_some hy104
                  refine WO_index tbok rfl rfl rfl rfl rfl rfl rfl rfl (SlR.addr h_p0_5) hc105 ?_
                  refine WO_loadE tbok rfl rfl rfl rfl (fun _ h => St.sat h) h_p0_5 hy104 rfl ?_
                  refine WO_pure tbok 2 [(1, .slice a_p1 p1.length c_p1), (2, .slice a_p2 p2.length c_p2), (3, .pointer (some ⟨b1, 0, none⟩)), (6, .slice none 0 0), (7, .int .i64 0), (12, .slice (some ⟨b27, 0, none⟩) ((List.replicate (p0_5.length : Int).toNat false).length) c28), (13, .int .i64 s_6), (14, .int .i64 v_38), (87, .slice a_p0_5 p0_5.length c_p0_5), (88, .int .i64 (p0_5.length : Int)), (89, .int .i64 s_6)] rfl ⟨rfl, rfl, rfl, rfl, rfl, rfl, rfl, rfl, rfl, rfl, rfl, trivial⟩ ?_
                  refine WO_end ?_
                  refine WK_region ?_
                  refine WO_pure tbok 4 [(1, .slice a_p1 p1.length c_p1), (2, .slice a_p2 p2.length c_p2), (3, .pointer (some ⟨b1, 0, none⟩)), (6, .slice none 0 0), (7, .int .i64 0), (12, .slice (some ⟨b27, 0, none⟩) ((List.replicate (p0_5.length : Int).toNat false).length) c28), (87, .slice a_p0_5 p0_5.length c_p0_5), (88, .int .i64 (p0_5.length : Int)), (89, .int .i64 s_6), (94, .slice (some ⟨b27, 0, none⟩) ((List.replicate (p0_5.length : Int).toNat false).length) c28), (95, .int .i64 s_6), (97, .bool (v_38 != (-2147483648)))] rfl ⟨rfl, rfl, rfl, rfl, rfl, rfl, rfl, rfl, rfl, rfl, rfl, rfl, trivial⟩ ?_
                  obtain ⟨hc106, hm35⟩ := chk_some hm35
                  refine WO_index tbok rfl rfl rfl rfl rfl rfl rfl rfl (OwnE.addr hL30) (by simpa using hc106) ?_
                  refine WO_storeO (E := B1) tbok (fun _ => rfl) 1 (v_38 != (-2147483648)) rfl rfl rfl rfl rfl hL30 rfl (by simpa using idx_lt hc106) rfl rfl rfl rfl (fun L107 hL107 => ?_)
                  refine WO.cls (C' := St w0 m m [[⟨b1, 25, [.int .i64 p0_0, .int .i64 p0_1, .int .i64 p0_2, .int .i64 p0_3, .int .i64 p0_4, .slice a_p0_5 p0_5.length c_p0_5]⟩], L107]) (fun _ h => h) ?_
                  refine WO_end ?_
                  refine WK_blk ?_
                  refine WK_region ?_
                  refine WO_pure tbok 2 [(1, .slice a_p1 p1.length c_p1), (2, .slice a_p2 p2.length c_p2), (3, .pointer (some ⟨b1, 0, none⟩)), (6, .slice none 0 0), (7, .int .i64 0), (12, .slice (some ⟨b27, 0, none⟩) ((List.replicate (p0_5.length : Int).toNat false).length) c28), (87, .slice a_p0_5 p0_5.length c_p0_5), (88, .int .i64 (p0_5.length : Int)), (89, .int .i64 (w64 (s_6 + 1)))] rfl ⟨rfl, rfl, rfl, rfl, rfl, rfl, rfl, rfl, rfl, trivial⟩ ?_
                  refine WO_end ?_
                  cases hm35
                  refine WK.sub ?_ (WK.cls (fun _ h => h) (hn38 _ L107 rfl hL107))
                  exact ⟨rfl, rfl, rfl, rfl, rfl, rfl, rfl, rfl, rfl, trivial⟩
                · have hm35 := ifF hb103 hm35
                  refine WK_exit rfl ?_
                  cases hm35
                  refine WK.sub ?_ (WK.cls (fun _ h => h) (hk34 (l_5, L30) ⟨(hd39 _ rfl), hL30⟩))
                  exact ⟨rfl, rfl, rfl, rfl, rfl, rfl, trivial⟩
            · refine WK_block ?_
              refine WK_loop (S := Int) (G := Unit) (fun s => terrain_Ground_s2 p1 s) (fun s g => [(1, .slice a_p1 p1.length c_p1), (2, .slice a_p2 p2.length c_p2), (3, .pointer (some ⟨b1, 0, none⟩)), (6, .slice none 0 0), (7, .int .i64 0), (11, .int .i64 s)]) (fun s g => St w0 m m [[⟨b1, 25, [.int .i64 p0_0, .int .i64 p0_1, .int .i64 p0_2, .int .i64 p0_3, .int .i64 p0_4, .slice a_p0_5 p0_5.length c_p0_5]⟩]]) (fun s g => True) FUEL 1 () x17 hx18 trivial ⟨rfl, rfl, rfl, rfl, rfl, rfl, trivial⟩ (fun _ h => h) ?_
              rintro s_4 ⟨⟩ o21 fl22 hm20 - hn23 hd24
              have hm20 : terrain_Ground_s2 p1 s_4 = some o21 := hm20
              unfold terrain_Ground_s2 at hm20
              refine WK.sub (e' := [(1, .slice a_p1 p1.length c_p1), (2, .slice a_p2 p2.length c_p2), (3, .pointer (some ⟨b1, 0, none⟩)), (6, .slice none 0 0), (7, .int .i64 0), (11, .int .i64 s_4)]) ⟨rfl, rfl, rfl, rfl, rfl, rfl, trivial⟩ (WK.cls (C' := St w0 m m [[⟨b1, 25, [.int .i64 p0_0, .int .i64 p0_1, .int .i64 p0_2, .int .i64 p0_3, .int .i64 p0_4, .slice a_p0_5 p0_5.length c_p0_5]⟩]]) (fun _ h => h) ?_)
              refine WK_seq ?_
              refine WK_seq ?_
              refine WK_region ?_
              refine WO_pure tbok 4 [(1, .slice a_p1 p1.length c_p1), (2, .slice a_p2 p2.length c_p2), (3, .pointer (some ⟨b1, 0, none⟩)), (6, .slice none 0 0), (7, .int .i64 0), (11, .int .i64 s_4), (69, .bool (decide (s_4 < (p1.length : Int))))] rfl ⟨rfl, rfl, rfl, rfl, rfl, rfl, rfl, trivial⟩ ?_
              refine WO_end ?_
              refine WK_cond (b := decide (s_4 < (p1.length : Int))) rfl (fun hb108 => ?_) (fun hb108 => ?_)
              · have hm20 := ifT hb108 hm20
                refine WK_skip ?_
                refine WK_seq ?_
                refine WK_block ?_
                refine WK_seq ?_
                refine WK_draw 10 [0, 1, 2, 3, 4, 5, 6, 7, 8, 9] follows_ok (by kernel_rfl) St_closed ?_
                refine WO_pure tbok 2 [(1, .slice a_p1 p1.length c_p1), (2, .slice a_p2 p2.length c_p2), (3, .pointer (some ⟨b1, 0, none⟩)), (6, .slice none 0 0), (7, .int .i64 0), (11, .int .i64 s_4), (72, .slice a_p1 p1.length c_p1), (73, .int .i64 s_4)] rfl ⟨rfl, rfl, rfl, rfl, rfl, rfl, rfl, rfl, trivial⟩ ?_
                obtain ⟨v_39, hy109, hm20⟩ := bind_some hm20
                obtain ⟨hc110, hy109⟩ := ix_some hy109
                refine WO_index tbok rfl rfl rfl rfl rfl rfl rfl rfl (SlR.addr h_p1) hc110 ?_
                refine WO_loadE tbok rfl rfl rfl rfl (fun _ h => St.sat h) h_p1 hy109 rfl ?_
                refine WO_pure tbok 3 [(1, .slice a_p1 p1.length c_p1), (2, .slice a_p2 p2.length c_p2), (3, .pointer (some ⟨b1, 0, none⟩)), (6, .slice none 0 0), (7, .int .i64 0), (11, .int .i64 s_4), (75, .int .i64 v_39), (76, .slice a_p1 p1.length c_p1), (78, .int .i64 (w64 (s_4 - 1)))] rfl ⟨rfl, rfl, rfl, rfl, rfl, rfl, rfl, rfl, rfl, trivial⟩ ?_
                obtain ⟨v_40, hy111, hm20⟩ := bind_some hm20
                obtain ⟨hc112, hy111⟩ := ix_some hy111
                refine WO_index tbok rfl rfl rfl rfl rfl rfl rfl rfl (SlR.addr h_p1) hc112 ?_
                refine WO_loadE tbok rfl rfl rfl rfl (fun _ h => St.sat h) h_p1 hy111 rfl ?_
                refine WO_pure tbok 1 [(1, .slice a_p1 p1.length c_p1), (2, .slice a_p2 p2.length c_p2), (3, .pointer (some ⟨b1, 0, none⟩)), (6, .slice none 0 0), (7, .int .i64 0), (11, .int .i64 s_4), (81, .bool (decide (v_39 ≤ v_40)))] rfl ⟨rfl, rfl, rfl, rfl, rfl, rfl, rfl, trivial⟩ ?_
                refine WO_tail ?_
                refine WO_end ?_
                refine WK_cond (b := decide (v_39 ≤ v_40)) rfl (fun hb113 => ?_) (fun hb113 => ?_)
                · have hm20 := ifT hb113 hm20
                  refine WK_seq ?_
                  refine WK_region ?_
                  refine WO_pure tbok 2 [(1, .slice a_p1 p1.length c_p1), (2, .slice a_p2 p2.length c_p2), (3, .pointer (some ⟨b1, 0, none⟩)), (6, .slice none 0 0), (7, .int .i64 5), (11, .int .i64 s_4)] rfl ⟨rfl, rfl, rfl, rfl, rfl, rfl, trivial⟩ ?_
                  refine WO_end ?_
                  cases hm20
                  have hq := hd24 _ rfl
                  subst hq
                  have hm : some _ = some _ := hm
                  cases hm
                  exact WK_ret (ret_out (L := []) (RLc_tmp rfl (RLc_tmp rfl RLc_nil)) (List.nil_sublist _) ⟨none, 0, 0, rfl, (OwnE.nil none)⟩)
                · have hm20 := ifF hb113 hm20
                  refine WK_skip ?_
                  refine WK_blk ?_
                  refine WK_region ?_
                  refine WO_pure tbok 3 [(1, .slice a_p1 p1.length c_p1), (2, .slice a_p2 p2.length c_p2), (3, .pointer (some ⟨b1, 0, none⟩)), (6, .slice none 0 0), (7, .int .i64 0), (11, .int .i64 (w64 (s_4 + 1)))] rfl ⟨rfl, rfl, rfl, rfl, rfl, rfl, trivial⟩ ?_
                  refine WO_end ?_
                  cases hm20
                  refine WK.sub ?_ (WK.cls (fun _ h => h) (hn23 _ () rfl trivial))
                  exact ⟨rfl, rfl, rfl, rfl, rfl, rfl, trivial⟩
              · have hm20 := ifF hb108 hm20
                refine WK_exit rfl ?_
                cases hm20
                refine WK.sub ?_ (WK.cls (fun _ h => h) (hk19 ((), ()) (hd24 _ rfl)))
                exact ⟨rfl, rfl, rfl, rfl, rfl, trivial⟩
          · refine WK_block ?_
            refine WK_loop (S := Int) (G := Unit) (fun s => terrain_Ground_s1 p1 p2 s) (fun s g => [(1, .slice a_p1 p1.length c_p1), (2, .slice a_p2 p2.length c_p2), (3, .pointer (some ⟨b1, 0, none⟩)), (6, .slice none 0 0), (7, .int .i64 0), (38, .slice a_p1 p1.length c_p1), (39, .int .i64 (p1.length : Int)), (40, .int .i64 s)]) (fun s g => St w0 m m [[⟨b1, 25, [.int .i64 p0_0, .int .i64 p0_1, .int .i64 p0_2, .int .i64 p0_3, .int .i64 p0_4, .slice a_p0_5 p0_5.length c_p0_5]⟩]]) (fun s g => True) FUEL 0 () x8 hx9 trivial ⟨rfl, rfl, rfl, rfl, rfl, rfl, rfl, rfl, trivial⟩ (fun _ h => h) ?_
            rintro s_3 ⟨⟩ o12 fl13 hm11 - hn14 hd15
            have hm11 : terrain_Ground_s1 p1 p2 s_3 = some o12 := hm11
            unfold terrain_Ground_s1 at hm11
            refine WK.sub (e' := [(1, .slice a_p1 p1.length c_p1), (2, .slice a_p2 p2.length c_p2), (3, .pointer (some ⟨b1, 0, none⟩)), (6, .slice none 0 0), (7, .int .i64 0), (38, .slice a_p1 p1.length c_p1), (39, .int .i64 (p1.length : Int)), (40, .int .i64 s_3)]) ⟨rfl, rfl, rfl, rfl, rfl, rfl, rfl, rfl, trivial⟩ (WK.cls (C' := St w0 m m [[⟨b1, 25, [.int .i64 p0_0, .int .i64 p0_1, .int .i64 p0_2, .int .i64 p0_3, .int .i64 p0_4, .slice a_p0_5 p0_5.length c_p0_5]⟩]]) (fun _ h => h) ?_)
            refine WK_seq ?_
            refine WK_region ?_
            refine WO_pure tbok 1 [(1, .slice a_p1 p1.length c_p1), (2, .slice a_p2 p2.length c_p2), (3, .pointer (some ⟨b1, 0, none⟩)), (6, .slice none 0 0), (7, .int .i64 0), (38, .slice a_p1 p1.length c_p1), (39, .int .i64 (p1.length : Int)), (40, .int .i64 s_3), (41, .bool (decide (s_3 < (p1.length : Int))))] rfl ⟨rfl, rfl, rfl, rfl, rfl, rfl, rfl, rfl, rfl, trivial⟩ ?_
            refine WO_end ?_
            refine WK_seq ?_
            refine WK_cond (b := decide (s_3 < (p1.length : Int))) rfl (fun hb114 => ?_) (fun hb114 => ?_)
            · have hm11 := ifT hb114 hm11
              refine WK_skip ?_
              refine WK_seq ?_
              refine WK_block ?_
              refine WK_seq ?_
              refine WK_region ?_
              refine WO_pure tbok 1 [(1, .slice a_p1 p1.length c_p1), (2, .slice a_p2 p2.length c_p2), (3, .pointer (some ⟨b1, 0, none⟩)), (6, .slice none 0 0), (7, .int .i64 0), (38, .slice a_p1 p1.length c_p1), (39, .int .i64 (p1.length : Int)), (40, .int .i64 s_3), (42, .int .i64 s_3)] rfl ⟨rfl, rfl, rfl, rfl, rfl, rfl, rfl, rfl, rfl, trivial⟩ ?_
              obtain ⟨v_41, hy115, hm11⟩ := bind_some hm11
              obtain ⟨hc116, hy115⟩ := ix_some hy115
              refine WO_index tbok rfl rfl rfl rfl rfl rfl rfl rfl (SlR.addr h_p1) hc116 ?_
              refine WO_loadE tbok rfl rfl rfl rfl (fun _ h => St.sat h) h_p1 hy115 rfl ?_
              refine WO_pure tbok 2 [(1, .slice a_p1 p1.length c_p1), (2, .slice a_p2 p2.length c_p2), (3, .pointer (some ⟨b1, 0, none⟩)), (6, .slice none 0 0), (7, .int .i64 0), (9, .int .i64 s_3), (10, .int .i64 v_41), (38, .slice a_p1 p1.length c_p1), (39, .int .i64 (p1.length : Int)), (40, .int .i64 s_3)] rfl ⟨rfl, rfl, rfl, rfl, rfl, rfl, rfl, rfl, rfl, rfl, trivial⟩ ?_
              refine WO_end ?_
              refine WK_seq ?_
              obtain ⟨s_42, hx117, hm11⟩ := bind_some hm11
              refine WK_meet [(1, .slice a_p1 p1.length c_p1), (2, .slice a_p2 p2.length c_p2), (3, .pointer (some ⟨b1, 0, none⟩)), (6, .slice none 0 0), (7, .int .i64 0), (38, .slice a_p1 p1.length c_p1), (39, .int .i64 (p1.length : Int)), (40, .int .i64 s_3), (64, .bool s_42)] (St w0 m m [[⟨b1, 25, [.int .i64 p0_0, .int .i64 p0_1, .int .i64 p0_2, .int .i64 p0_3, .int .i64 p0_4, .slice a_p0_5 p0_5.length c_p0_5]⟩]]) ?_ (fun hk118 => ?_)
              · refine WK_cond (b := s_42) rfl (fun hb119 => ?_) (fun hb119 => ?_)
                · have hm11 := ifT hb119 hm11
                  refine WK_seq ?_
                  refine WK_region ?_
                  refine WO_pure tbok 2 [(1, .slice a_p1 p1.length c_p1), (2, .slice a_p2 p2.length c_p2), (3, .pointer (some ⟨b1, 0, none⟩)), (6, .slice none 0 0), (7, .int .i64 2), (38, .slice a_p1 p1.length c_p1), (39, .int .i64 (p1.length : Int)), (40, .int .i64 s_3)] rfl ⟨rfl, rfl, rfl, rfl, rfl, rfl, rfl, rfl, trivial⟩ ?_
                  refine WO_end ?_
                  cases hm11
                  have hq := hd15 _ rfl
                  subst hq
                  have hm : some _ = some _ := hm
                  cases hm
                  exact WK_ret (ret_out (L := []) (RLc_tmp rfl (RLc_tmp rfl RLc_nil)) (List.nil_sublist _) ⟨none, 0, 0, rfl, (OwnE.nil none)⟩)
                · have hm11 := ifF hb119 hm11
                  refine WK_skip ?_
                  refine WK_blk ?_
                  refine WK_region ?_
                  refine WO_pure tbok 2 [(1, .slice a_p1 p1.length c_p1), (2, .slice a_p2 p2.length c_p2), (3, .pointer (some ⟨b1, 0, none⟩)), (6, .slice none 0 0), (7, .int .i64 0), (38, .slice a_p1 p1.length c_p1), (39, .int .i64 (p1.length : Int)), (40, .int .i64 (w64 (s_3 + 1)))] rfl ⟨rfl, rfl, rfl, rfl, rfl, rfl, rfl, rfl, trivial⟩ ?_
                  refine WO_end ?_
                  cases hm11
                  refine WK.sub ?_ (WK.cls (fun _ h => h) (hn14 _ () rfl trivial))
                  exact ⟨rfl, rfl, rfl, rfl, rfl, rfl, rfl, rfl, trivial⟩
              · refine WK_region ?_
                refine WO_pure tbok 3 [(1, .slice a_p1 p1.length c_p1), (2, .slice a_p2 p2.length c_p2), (3, .pointer (some ⟨b1, 0, none⟩)), (6, .slice none 0 0), (7, .int .i64 0), (9, .int .i64 s_3), (10, .int .i64 v_41), (38, .slice a_p1 p1.length c_p1), (39, .int .i64 (p1.length : Int)), (40, .int .i64 s_3), (47, .bool (decide (v_41 < 1)))] rfl ⟨rfl, rfl, rfl, rfl, rfl, rfl, rfl, rfl, rfl, rfl, rfl, trivial⟩ ?_
                refine WO_split (d := 47) (b := decide (v_41 < 1)) rfl (fun hb120 => ?_) (fun hb120 => ?_)
                · have hx117 := ifT hb120 hx117
                  refine WO_pure tbok 17 [(1, .slice a_p1 p1.length c_p1), (2, .slice a_p2 p2.length c_p2), (3, .pointer (some ⟨b1, 0, none⟩)), (6, .slice none 0 0), (7, .int .i64 0), (38, .slice a_p1 p1.length c_p1), (39, .int .i64 (p1.length : Int)), (40, .int .i64 s_3), (64, .bool true)] rfl ⟨rfl, rfl, rfl, rfl, rfl, rfl, rfl, rfl, rfl, trivial⟩ ?_
                  refine WO_end ?_
                  cases hx117
                  refine WK.sub ?_ (WK.cls (fun _ h => h) hk118)
                  exact ⟨rfl, rfl, rfl, rfl, rfl, rfl, rfl, rfl, rfl, trivial⟩
                · have hx117 := ifF hb120 hx117
                  refine WO_pure tbok 4 [(1, .slice a_p1 p1.length c_p1), (2, .slice a_p2 p2.length c_p2), (3, .pointer (some ⟨b1, 0, none⟩)), (6, .slice none 0 0), (7, .int .i64 0), (9, .int .i64 s_3), (38, .slice a_p1 p1.length c_p1), (39, .int .i64 (p1.length : Int)), (40, .int .i64 s_3), (51, .bool (decide (8 < v_41)))] rfl ⟨rfl, rfl, rfl, rfl, rfl, rfl, rfl, rfl, rfl, rfl, trivial⟩ ?_
                  refine WO_split (d := 51) (b := decide (8 < v_41)) rfl (fun hb121 => ?_) (fun hb121 => ?_)
                  · have hx117 := ifT hb121 hx117
                    refine WO_pure tbok 13 [(1, .slice a_p1 p1.length c_p1), (2, .slice a_p2 p2.length c_p2), (3, .pointer (some ⟨b1, 0, none⟩)), (6, .slice none 0 0), (7, .int .i64 0), (38, .slice a_p1 p1.length c_p1), (39, .int .i64 (p1.length : Int)), (40, .int .i64 s_3), (64, .bool true)] rfl ⟨rfl, rfl, rfl, rfl, rfl, rfl, rfl, rfl, rfl, trivial⟩ ?_
                    refine WO_end ?_
                    cases hx117
                    refine WK.sub ?_ (WK.cls (fun _ h => h) hk118)
                    exact ⟨rfl, rfl, rfl, rfl, rfl, rfl, rfl, rfl, rfl, trivial⟩
                  · have hx117 := ifF hb121 hx117
                    refine WO_pure tbok 2 [(1, .slice a_p1 p1.length c_p1), (2, .slice a_p2 p2.length c_p2), (3, .pointer (some ⟨b1, 0, none⟩)), (6, .slice none 0 0), (7, .int .i64 0), (9, .int .i64 s_3), (38, .slice a_p1 p1.length c_p1), (39, .int .i64 (p1.length : Int)), (40, .int .i64 s_3), (51, .bool false), (52, .slice a_p2 p2.length c_p2), (53, .int .i64 s_3)] rfl ⟨rfl, rfl, rfl, rfl, rfl, rfl, rfl, rfl, rfl, rfl, rfl, rfl, trivial⟩ ?_
                    obtain ⟨v_43, hy122, hx117⟩ := bind_some hx117
                    obtain ⟨hc123, hy122⟩ := ix_some hy122
                    refine WO_index tbok rfl rfl rfl rfl rfl rfl rfl rfl (SlR.addr h_p2) hc123 ?_
                    refine WO_loadE tbok rfl rfl rfl rfl (fun _ h => St.sat h) h_p2 hy122 rfl ?_
                    refine WO_pure tbok 3 [(1, .slice a_p1 p1.length c_p1), (2, .slice a_p2 p2.length c_p2), (3, .pointer (some ⟨b1, 0, none⟩)), (6, .slice none 0 0), (7, .int .i64 0), (9, .int .i64 s_3), (38, .slice a_p1 p1.length c_p1), (39, .int .i64 (p1.length : Int)), (40, .int .i64 s_3), (58, .bool (decide (v_43 < 0)))] rfl ⟨rfl, rfl, rfl, rfl, rfl, rfl, rfl, rfl, rfl, rfl, trivial⟩ ?_
                    refine WO_split (d := 58) (b := decide (v_43 < 0)) rfl (fun hb124 => ?_) (fun hb124 => ?_)
                    · have hx117 := ifT hb124 hx117
                      refine WO_pure tbok 6 [(1, .slice a_p1 p1.length c_p1), (2, .slice a_p2 p2.length c_p2), (3, .pointer (some ⟨b1, 0, none⟩)), (6, .slice none 0 0), (7, .int .i64 0), (38, .slice a_p1 p1.length c_p1), (39, .int .i64 (p1.length : Int)), (40, .int .i64 s_3), (64, .bool true)] rfl ⟨rfl, rfl, rfl, rfl, rfl, rfl, rfl, rfl, rfl, trivial⟩ ?_
                      refine WO_end ?_
                      cases hx117
                      refine WK.sub ?_ (WK.cls (fun _ h => h) hk118)
                      exact ⟨rfl, rfl, rfl, rfl, rfl, rfl, rfl, rfl, rfl, trivial⟩
                    · have hx117 := ifF hb124 hx117
                      refine WO_pure tbok 2 [(1, .slice a_p1 p1.length c_p1), (2, .slice a_p2 p2.length c_p2), (3, .pointer (some ⟨b1, 0, none⟩)), (6, .slice none 0 0), (7, .int .i64 0), (38, .slice a_p1 p1.length c_p1), (39, .int .i64 (p1.length : Int)), (40, .int .i64 s_3), (58, .bool false), (59, .slice a_p2 p2.length c_p2), (60, .int .i64 s_3)] rfl ⟨rfl, rfl, rfl, rfl, rfl, rfl, rfl, rfl, rfl, rfl, rfl, trivial⟩ ?_
                      obtain ⟨v_44, hy125, hx117⟩ := bind_some hx117
                      obtain ⟨hc126, hy125⟩ := ix_some hy125
                      refine WO_index tbok rfl rfl rfl rfl rfl rfl rfl rfl (SlR.addr h_p2) hc126 ?_
                      refine WO_loadE tbok rfl rfl rfl rfl (fun _ h => St.sat h) h_p2 hy125 rfl ?_
                      refine WO_pure tbok 2 [(1, .slice a_p1 p1.length c_p1), (2, .slice a_p2 p2.length c_p2), (3, .pointer (some ⟨b1, 0, none⟩)), (6, .slice none 0 0), (7, .int .i64 0), (38, .slice a_p1 p1.length c_p1), (39, .int .i64 (p1.length : Int)), (40, .int .i64 s_3), (64, .bool (decide (1048576 < v_44)))] rfl ⟨rfl, rfl, rfl, rfl, rfl, rfl, rfl, rfl, rfl, trivial⟩ ?_
                      refine WO_end ?_
                      cases hx117
                      refine WK.sub ?_ (WK.cls (fun _ h => h) hk118)
                      exact ⟨rfl, rfl, rfl, rfl, rfl, rfl, rfl, rfl, rfl, trivial⟩
            · have hm11 := ifF hb114 hm11
              refine WK_exit rfl ?_
              cases hm11
              refine WK.sub ?_ (WK.cls (fun _ h => h) (hk10 ((), ()) (hd15 _ rfl)))
              exact ⟨rfl, rfl, rfl, rfl, rfl, trivial⟩
      · refine WK_region ?_
        refine WO_pure tbok 4 [(1, .slice a_p1 p1.length c_p1), (2, .slice a_p2 p2.length c_p2), (3, .pointer (some ⟨b1, 0, none⟩)), (6, .slice none 0 0), (7, .int .i64 0), (33, .bool (decide ((p1.length : Int) < 1)))] rfl ⟨rfl, rfl, rfl, rfl, rfl, rfl, trivial⟩ ?_
        refine WO_split (d := 33) (b := decide ((p1.length : Int) < 1)) rfl (fun hb127 => ?_) (fun hb127 => ?_)
        · have hx5 := ifT hb127 hx5
          refine WO_pure tbok 4 [(1, .slice a_p1 p1.length c_p1), (2, .slice a_p2 p2.length c_p2), (3, .pointer (some ⟨b1, 0, none⟩)), (6, .slice none 0 0), (7, .int .i64 0), (37, .bool true)] rfl ⟨rfl, rfl, rfl, rfl, rfl, rfl, trivial⟩ ?_
          refine WO_end ?_
          cases hx5
          refine WK.sub ?_ (WK.cls (fun _ h => h) hk6)
          exact ⟨rfl, rfl, rfl, rfl, rfl, rfl, trivial⟩
        · have hx5 := ifF hb127 hx5
          refine WO_pure tbok 4 [(1, .slice a_p1 p1.length c_p1), (2, .slice a_p2 p2.length c_p2), (3, .pointer (some ⟨b1, 0, none⟩)), (6, .slice none 0 0), (7, .int .i64 0), (37, .bool (decide (8 < (p1.length : Int))))] rfl ⟨rfl, rfl, rfl, rfl, rfl, rfl, trivial⟩ ?_
          refine WO_end ?_
          cases hx5
          refine WK.sub ?_ (WK.cls (fun _ h => h) hk6)
          exact ⟨rfl, rfl, rfl, rfl, rfl, rfl, trivial⟩
def slices_Clone_sint_Q (r : List Int) : Value → List Ent → Prop := fun v L => ∃ (a0 : Option Addr) (q0 c0 : Nat), v = .slice a0 q0 c0 ∧ OwnE 3 1 (I1 .i64) (.slice a0 q0 c0) r L
theorem slices_Clone_sint_walk {m : Mu} {p0 : List Int} {a_p0 : Option Addr} {q_p0 c_p0 : Nat} (h_p0 : SlR (FE (I1 .i64)) 1 m (.slice a_p0 q_p0 c_p0) p0) {r : List Int} (hm : slices_Clone_sint p0 = some r) :
    Go.E.Spec Try.prog 23 [.slice a_p0 q_p0 c_p0] m (fun v _ L => slices_Clone_sint_Q r v L) := by
  refine Spec_enter Try.func23 rfl rfl rfl (fun w0 => ?_)
  refine WK.sub (e' := [(0, .slice a_p0 q_p0 c_p0)]) ⟨rfl, trivial⟩ ?_
  obtain rfl := SlR.qlen h_p0
  refine WK.sub (e' := [(0, .slice a_p0 p0.length c_p0)]) ⟨rfl, trivial⟩ ?_
  cases a_p0 with
  | none =>
    obtain ⟨hx, _, hc⟩ := SlR.none_nil h_p0
    subst hx
    subst hc
    unfold slices_Clone_sint at hm
    obtain ⟨_, hm⟩ := chk_some hm
    refine WK_seq ?_
    refine WK_region ?_
    refine WO_pure tbok 1 [(0, .slice none 0 0), (2, .slice none 0 0)] rfl ⟨rfl, rfl, trivial⟩ ?_
    refine WO_end ?_
    refine WK_seq ?_
    refine WK_seq ?_
    refine WK_region ?_
    refine WO_pure tbok 1 [(0, .slice none 0 0), (2, .slice none 0 0), (3, .slice none 0 0)] rfl ⟨rfl, rfl, rfl, trivial⟩ ?_
    refine WO_eqnil tbok rfl rfl rfl rfl rfl rfl rfl ?_
    refine WO_end ?_
    refine WK_condT rfl ?_
    refine WK_seq ?_
    refine WK_region ?_
    refine WO_pure tbok 1 [(0, .slice none 0 0), (2, .slice none 0 0)] rfl ⟨rfl, rfl, trivial⟩ ?_
    refine WO_end ?_
    cases hm
    exact WK_ret (ret_out (L := []) (RLc_tmp rfl RLc_nil) (List.nil_sublist _) ⟨none, 0, 0, rfl, (OwnE.nil none)⟩)
  | some ad =>
    unfold slices_Clone_sint at hm
    refine WK_seq ?_
    refine WK_region ?_
    refine WO_pure tbok 1 [(0, .slice (some ad) p0.length c_p0), (2, .slice none 0 0)] rfl ⟨rfl, rfl, trivial⟩ ?_
    refine WO_end ?_
    refine WK_seq ?_
    refine WK_seq ?_
    refine WK_region ?_
    refine WO_pure tbok 1 [(0, .slice (some ad) p0.length c_p0), (2, .slice none 0 0), (3, .slice (some ad) p0.length c_p0)] rfl ⟨rfl, rfl, rfl, trivial⟩ ?_
    refine WO_eqnil tbok rfl rfl rfl rfl rfl rfl rfl ?_
    refine WO_end ?_
    refine WK_condF rfl ?_
    refine WK_skip ?_
    refine WK_seq ?_
    refine WK_region ?_
    refine WO_bslice (E := (I1 .i64)) tbok (fun _ => rfl) (by decide) [] ([] : List Int) rfl rfl trivial rfl rfl rfl rfl rfl rfl rfl rfl rfl rfl rfl rfl (fun b1 hb1 => ?_)
    refine WO.cls (C' := St w0 m m [[⟨b1, 3, ([] : List Int).flatMap (I1 .i64)⟩]]) (fun _ h => h) ?_
    refine WO_pure tbok 1 [(2, .slice none 0 0), (5, .slice (some ⟨b1, 0, none⟩) 0 0), (6, .slice (some ad) p0.length c_p0)] rfl ⟨rfl, rfl, rfl, trivial⟩ ?_
    obtain ⟨hc2, hm⟩ := chk_some hm
    refine WO_appendS (E := (I1 .i64)) tbok (fun _ => rfl) (by decide) (fun _ => rfl) 0 p0 rfl rfl rfl rfl rfl rfl rfl rfl rfl rfl rfl rfl hb1 rfl (fun w hw => ⟨_, hw.sat, h_p0⟩) (ap_ok (by decide) hc2) (ap_max hc2) (fun a3 c4 L5 hL5 => ?_)
    refine WO.cls (C' := St w0 m m [L5]) (fun _ h => h) ?_
    refine WO_pure tbok 1 [(2, .slice a3 ((([] : List Int) ++ p0).length) c4)] rfl ⟨rfl, trivial⟩ ?_
    refine WO_end ?_
    cases hm
    exact WK_ret (ret_out (L := L5) (RLc_tmp rfl RLc_nil) (seg_sub 0 rfl) ⟨a3, ((([] : List Int) ++ p0).length), c4, rfl, hL5⟩)
def terrain_Fill_Q (r : Int × Int × Int × Int × Int × List Int × Int) : Value → Mu → List Ent → Prop := fun v m L => ∃ (a0 : Option Addr) (q0 c0 : Nat), v = .tuple #[.agg #[.int .i64 r.1, .int .i64 r.2.1, .int .i64 r.2.2.1, .int .i64 r.2.2.2.1, .int .i64 r.2.2.2.2.1, .slice a0 q0 c0], .int .i64 r.2.2.2.2.2.2] ∧ SlR (FE (I1 .i64)) 1 m (.slice a0 q0 c0) r.2.2.2.2.2.1
theorem terrain_Fill_walk {m : Mu} {p0_0 : Int} {p0_1 : Int} {p0_2 : Int} {p0_3 : Int} {p0_4 : Int} {p0_5 : List Int} {a_p0_5 : Option Addr} {q_p0_5 c_p0_5 : Nat} (h_p0_5 : SlR (FE (I1 .i64)) 1 m (.slice a_p0_5 q_p0_5 c_p0_5) p0_5) {r : Int × Int × Int × Int × Int × List Int × Int} (hm : terrain_Fill p0_0 p0_1 p0_2 p0_3 p0_4 p0_5 = some r) :
    Go.E.Spec Try.prog 35 [.agg #[.int .i64 p0_0, .int .i64 p0_1, .int .i64 p0_2, .int .i64 p0_3, .int .i64 p0_4, .slice a_p0_5 q_p0_5 c_p0_5]] m (terrain_Fill_Q r) := by
  refine Spec_enter Try.func35 rfl rfl rfl (fun w0 => ?_)
  refine WK.sub (e' := [(0, .agg #[.int .i64 p0_0, .int .i64 p0_1, .int .i64 p0_2, .int .i64 p0_3, .int .i64 p0_4, .slice a_p0_5 q_p0_5 c_p0_5])]) ⟨rfl, trivial⟩ ?_
  obtain rfl := SlR.qlen h_p0_5
  refine WK.sub (e' := [(0, .agg #[.int .i64 p0_0, .int .i64 p0_1, .int .i64 p0_2, .int .i64 p0_3, .int .i64 p0_4, .slice a_p0_5 p0_5.length c_p0_5])]) ⟨rfl, trivial⟩ ?_
  unfold terrain_Fill at hm
  refine WK_seq ?_
  refine WK_region ?_
  refine WO_box [.int .i64 p0_0, .int .i64 p0_1, .int .i64 p0_2, .int .i64 p0_3, .int .i64 p0_4, .slice a_p0_5 p0_5.length c_p0_5] rfl rfl trivial rfl rfl rfl (fun b1 => ?_)
  refine WO.cls (C' := St w0 m m [[⟨b1, 25, [.int .i64 p0_0, .int .i64 p0_1, .int .i64 p0_2, .int .i64 p0_3, .int .i64 p0_4, .slice a_p0_5 p0_5.length c_p0_5]⟩]]) (fun _ h => h) ?_
  refine WO_alloc tbok [.int .i64 0, .int .i64 0, .int .i64 0, .int .i64 0, .int .i64 0, .slice none 0 0] rfl rfl trivial rfl rfl rfl rfl (fun b2 => ?_)
  refine WO.cls (C' := St w0 m m [[⟨b1, 25, [.int .i64 p0_0, .int .i64 p0_1, .int .i64 p0_2, .int .i64 p0_3, .int .i64 p0_4, .slice a_p0_5 p0_5.length c_p0_5]⟩], [⟨b2, 25, [.int .i64 0, .int .i64 0, .int .i64 0, .int .i64 0, .int .i64 0, .slice none 0 0]⟩]]) (fun _ h => h) ?_
  refine WO_pure tbok 1 [(1, .pointer (some ⟨b1, 0, none⟩)), (2, .pointer (some ⟨b2, 0, none⟩)), (3, .int .i64 0)] rfl ⟨rfl, rfl, rfl, trivial⟩ ?_
  refine WO_end ?_
  refine WK_seq ?_
  refine WK_seq ?_
  refine WK_region ?_
  refine WO_loadB tbok 0 rfl rfl rfl rfl (fun _ h => h) rfl rfl ?_
  obtain ⟨y_1, hc3, hm⟩ := bind_some hm
  refine WO_call0 (.int .i64 y_1) rfl rfl trivial rfl rfl rfl rfl St_closed ⟨16, #[], #[], rfl, callable_16, fun w hw => ⟨_, hw.sat, terrain_Check_walk h_p0_5 hc3⟩⟩ ?_
  refine WO_pure tbok 1 [(1, .pointer (some ⟨b1, 0, none⟩)), (2, .pointer (some ⟨b2, 0, none⟩)), (3, .int .i64 0), (4, .int .i64 y_1)] rfl ⟨rfl, rfl, rfl, rfl, trivial⟩ ?_
  refine WO_end ?_
  refine WK_seq ?_
  refine WK_region ?_
  refine WO_pure tbok 2 [(1, .pointer (some ⟨b1, 0, none⟩)), (2, .pointer (some ⟨b2, 0, none⟩)), (3, .int .i64 0), (4, .int .i64 y_1), (18, .bool (y_1 != 0))] rfl ⟨rfl, rfl, rfl, rfl, rfl, trivial⟩ ?_
  refine WO_end ?_
  refine WK_cond (b := y_1 != 0) rfl (fun hb4 => ?_) (fun hb4 => ?_)
  · have hm := ifT hb4 hm
    refine WK_seq ?_
    refine WK_region ?_
    refine WO_pure tbok 2 [(1, .pointer (some ⟨b1, 0, none⟩)), (2, .pointer (some ⟨b2, 0, none⟩)), (3, .int .i64 0), (19, .agg #[.int .i64 0, .int .i64 0, .int .i64 0, .int .i64 0, .int .i64 0, .slice none 0 0]), (20, .int .i64 y_1)] rfl ⟨rfl, rfl, rfl, rfl, rfl, trivial⟩ ?_
    refine WO_storeB tbok 1 [.int .i64 0, .int .i64 0, .int .i64 0, .int .i64 0, .int .i64 0, .slice none 0 0] rfl rfl rfl rfl rfl rfl rfl ?_
    refine WO.cls (C' := St w0 m m [[⟨b1, 25, [.int .i64 p0_0, .int .i64 p0_1, .int .i64 p0_2, .int .i64 p0_3, .int .i64 p0_4, .slice a_p0_5 p0_5.length c_p0_5]⟩], [⟨b2, 25, [.int .i64 0, .int .i64 0, .int .i64 0, .int .i64 0, .int .i64 0, .slice none 0 0]⟩]]) (fun _ h => h) ?_
    refine WO_pure tbok 1 [(1, .pointer (some ⟨b1, 0, none⟩)), (2, .pointer (some ⟨b2, 0, none⟩)), (3, .int .i64 y_1)] rfl ⟨rfl, rfl, rfl, trivial⟩ ?_
    refine WO_end ?_
    cases hm
    exact WK_ret (ret_out (L := []) (RLc_cell tbok 1 rfl rfl rfl (RLc_tmp rfl RLc_nil)) (List.nil_sublist _) ⟨none, 0, 0, rfl, SlR_nil⟩)
  · have hm := ifF hb4 hm
    refine WK_skip ?_
    refine WK_seq ?_
    refine WK_region ?_
    refine WO_pure tbok 1 [(1, .pointer (some ⟨b1, 0, none⟩)), (2, .pointer (some ⟨b2, 0, none⟩)), (3, .int .i64 0), (21, .pointer (some ⟨b1, 5, none⟩))] rfl ⟨rfl, rfl, rfl, rfl, trivial⟩ ?_
    refine WO_loadB tbok 0 rfl rfl rfl rfl (fun _ h => h) rfl rfl ?_
    obtain ⟨y_2, hc5, hm⟩ := bind_some hm
    refine WO_call1 (slices_Clone_sint_Q y_2) rfl rfl trivial rfl rfl rfl rfl ⟨23, #[], #[], rfl, callable_23, fun w hw => ⟨_, hw.sat, slices_Clone_sint_walk h_p0_5 hc5⟩⟩ (fun v9 L8 hq => ?_)
    obtain ⟨a6, qa6, c7, rfl, hL8⟩ := hq
    obtain rfl := OwnE.qlen hL8
    refine WO.cls (C' := St w0 m m [[⟨b1, 25, [.int .i64 p0_0, .int .i64 p0_1, .int .i64 p0_2, .int .i64 p0_3, .int .i64 p0_4, .slice a_p0_5 p0_5.length c_p0_5]⟩], [⟨b2, 25, [.int .i64 0, .int .i64 0, .int .i64 0, .int .i64 0, .int .i64 0, .slice none 0 0]⟩], L8]) (fun _ h => h) ?_
    refine WO_pure tbok 1 [(1, .pointer (some ⟨b1, 0, none⟩)), (2, .pointer (some ⟨b2, 0, none⟩)), (3, .int .i64 0), (5, .slice a6 ((y_2).length) c7)] rfl ⟨rfl, rfl, rfl, rfl, trivial⟩ ?_
    refine WO_end ?_
    refine WK_seq ?_
    refine WK_region ?_
    refine WO_pure tbok 1 [(1, .pointer (some ⟨b1, 0, none⟩)), (2, .pointer (some ⟨b2, 0, none⟩)), (3, .int .i64 0), (5, .slice a6 ((y_2).length) c7), (6, .bool false)] rfl ⟨rfl, rfl, rfl, rfl, rfl, trivial⟩ ?_
    refine WO_end ?_
    refine WK_seq ?_
    refine WK_seq ?_
    refine WK_region ?_
    refine WO_pure tbok 1 [(1, .pointer (some ⟨b1, 0, none⟩)), (2, .pointer (some ⟨b2, 0, none⟩)), (3, .int .i64 0), (5, .slice a6 ((y_2).length) c7), (6, .bool false), (24, .pointer (some ⟨b1, 5, none⟩))] rfl ⟨rfl, rfl, rfl, rfl, rfl, rfl, trivial⟩ ?_
    refine WO_loadB tbok 0 rfl rfl rfl rfl (fun _ h => h) rfl rfl ?_
    refine WO_pure tbok 2 [(1, .pointer (some ⟨b1, 0, none⟩)), (2, .pointer (some ⟨b2, 0, none⟩)), (3, .int .i64 0), (5, .slice a6 ((y_2).length) c7), (6, .bool false), (25, .slice a_p0_5 p0_5.length c_p0_5), (26, .int .i64 (p0_5.length : Int)), (27, .int .i64 0)] rfl ⟨rfl, rfl, rfl, rfl, rfl, rfl, rfl, rfl, trivial⟩ ?_
    refine WO_end ?_
    obtain ⟨x12, hx13, hm⟩ := bind_some hm
    refine WK_join (β := (List Int × Bool) × (List Ent)) (fun p => p.1 = x12 ∧ OwnE 3 1 (I1 .i64) (.slice a6 ((y_2).length) c7) p.1.1 p.2) (fun p => [(1, .pointer (some ⟨b1, 0, none⟩)), (2, .pointer (some ⟨b2, 0, none⟩)), (3, .int .i64 0), (5, .slice a6 ((y_2).length) c7), (6, .bool p.1.2)]) (fun p => St w0 m m [[⟨b1, 25, [.int .i64 p0_0, .int .i64 p0_1, .int .i64 p0_2, .int .i64 p0_3, .int .i64 p0_4, .slice a_p0_5 p0_5.length c_p0_5]⟩], [⟨b2, 25, [.int .i64 0, .int .i64 0, .int .i64 0, .int .i64 0, .int .i64 0, .slice none 0 0]⟩], p.2]) ?_ (fun hk14 => ?_)
    · rintro ⟨⟨l_6, s_7⟩, L11⟩ ⟨hq20, hL11⟩
      subst hq20
      refine WK.sub (e' := [(1, .pointer (some ⟨b1, 0, none⟩)), (2, .pointer (some ⟨b2, 0, none⟩)), (3, .int .i64 0), (5, .slice a6 ((y_2).length) c7), (6, .bool s_7)]) ⟨rfl, rfl, rfl, rfl, rfl, trivial⟩ (WK.cls (C' := St w0 m m [[⟨b1, 25, [.int .i64 p0_0, .int .i64 p0_1, .int .i64 p0_2, .int .i64 p0_3, .int .i64 p0_4, .slice a_p0_5 p0_5.length c_p0_5]⟩], [⟨b2, 25, [.int .i64 0, .int .i64 0, .int .i64 0, .int .i64 0, .int .i64 0, .slice none 0 0]⟩], L11]) (fun _ h => h) ?_)
      refine WK_seq ?_
      refine WK_seq ?_
      refine WK_region ?_
      refine WO_pure tbok 2 [(1, .pointer (some ⟨b1, 0, none⟩)), (2, .pointer (some ⟨b2, 0, none⟩)), (3, .int .i64 0), (5, .slice a6 ((y_2).length) c7), (102, .bool (!s_7))] rfl ⟨rfl, rfl, rfl, rfl, rfl, trivial⟩ ?_
      refine WO_end ?_
      refine WK_cond (b := !s_7) rfl (fun hb21 => ?_) (fun hb21 => ?_)
      · have hm := ifT hb21 hm
        refine WK_seq ?_
        refine WK_region ?_
        refine WO_pure tbok 1 [(1, .pointer (some ⟨b1, 0, none⟩)), (2, .pointer (some ⟨b2, 0, none⟩)), (3, .int .i64 0), (5, .slice a6 ((y_2).length) c7), (103, .agg #[.int .i64 0, .int .i64 0, .int .i64 0, .int .i64 0, .int .i64 0, .slice none 0 0])] rfl ⟨rfl, rfl, rfl, rfl, rfl, trivial⟩ ?_
        refine WO_storeB tbok 1 [.int .i64 0, .int .i64 0, .int .i64 0, .int .i64 0, .int .i64 0, .slice none 0 0] rfl rfl rfl rfl rfl rfl rfl ?_
        refine WO.cls (C' := St w0 m m [[⟨b1, 25, [.int .i64 p0_0, .int .i64 p0_1, .int .i64 p0_2, .int .i64 p0_3, .int .i64 p0_4, .slice a_p0_5 p0_5.length c_p0_5]⟩], [⟨b2, 25, [.int .i64 0, .int .i64 0, .int .i64 0, .int .i64 0, .int .i64 0, .slice none 0 0]⟩], L11]) (fun _ h => h) ?_
        refine WO_pure tbok 1 [(1, .pointer (some ⟨b1, 0, none⟩)), (2, .pointer (some ⟨b2, 0, none⟩)), (3, .int .i64 6), (5, .slice a6 ((y_2).length) c7)] rfl ⟨rfl, rfl, rfl, rfl, trivial⟩ ?_
        refine WO_end ?_
        cases hm
        exact WK_ret (ret_out (L := []) (RLc_cell tbok 1 rfl rfl rfl (RLc_tmp rfl RLc_nil)) (List.nil_sublist _) ⟨none, 0, 0, rfl, SlR_nil⟩)
      · have hm := ifF hb21 hm
        refine WK_skip ?_
        refine WK_seq ?_
        refine WK_region ?_
        refine WO_loadB tbok 0 rfl rfl rfl rfl (fun _ h => h) rfl rfl ?_
        refine WO_pure tbok 1 [(2, .pointer (some ⟨b2, 0, none⟩)), (3, .int .i64 0), (104, .agg #[.int .i64 p0_0, .int .i64 p0_1, .int .i64 p0_2, .int .i64 p0_3, .int .i64 p0_4, .slice a_p0_5 p0_5.length c_p0_5]), (105, .slice a6 ((y_2).length) c7)] rfl ⟨rfl, rfl, rfl, rfl, trivial⟩ ?_
        refine WO_freeze 2 rfl (fun m22 hle23 hmm24 => ?_)
        refine WO.cls (C' := St w0 m m22 [[⟨b1, 25, [.int .i64 p0_0, .int .i64 p0_1, .int .i64 p0_2, .int .i64 p0_3, .int .i64 p0_4, .slice a_p0_5 p0_5.length c_p0_5]⟩], [⟨b2, 25, [.int .i64 0, .int .i64 0, .int .i64 0, .int .i64 0, .int .i64 0, .slice none 0 0]⟩], []]) (fun _ h => h) ?_
        obtain ⟨⟨y_8, y_9, y_10, y_11, y_12, y_13⟩, hc25, hm⟩ := bind_some hm
        refine WO_call2 (terrain_with_Q (y_8, y_9, y_10, y_11, y_12, y_13)) rfl rfl trivial rfl rfl rfl rfl ⟨44, #[], #[], rfl, callable_44, terrain_with_walk (h_p0_5.mono (mono_FE _) hle23) (OwnE.rd (E := (I1 .i64)) (k := 1) (fun _ => rfl) hL11 hmm24) hc25⟩ (fun v29 m30 L28 hle31 hq => ?_)
        obtain ⟨a26, qa26, c27, rfl, h32⟩ := hq
        obtain rfl := SlR.qlen h32
        refine WO.cls (C' := St w0 m m30 [[⟨b1, 25, [.int .i64 p0_0, .int .i64 p0_1, .int .i64 p0_2, .int .i64 p0_3, .int .i64 p0_4, .slice a_p0_5 p0_5.length c_p0_5]⟩], [⟨b2, 25, [.int .i64 0, .int .i64 0, .int .i64 0, .int .i64 0, .int .i64 0, .slice none 0 0]⟩], [], L28]) (fun _ h => h.sub (by simp)) ?_
        refine WO_storeB tbok 1 [.int .i64 y_8, .int .i64 y_9, .int .i64 y_10, .int .i64 y_11, .int .i64 y_12, .slice a26 ((y_13).length) c27] rfl rfl rfl rfl rfl rfl rfl ?_
        refine WO.cls (C' := St w0 m m30 [[⟨b1, 25, [.int .i64 p0_0, .int .i64 p0_1, .int .i64 p0_2, .int .i64 p0_3, .int .i64 p0_4, .slice a_p0_5 p0_5.length c_p0_5]⟩], [⟨b2, 25, [.int .i64 y_8, .int .i64 y_9, .int .i64 y_10, .int .i64 y_11, .int .i64 y_12, .slice a26 ((y_13).length) c27]⟩], [], L28]) (fun _ h => h) ?_
        refine WO_pure tbok 1 [(2, .pointer (some ⟨b2, 0, none⟩)), (3, .int .i64 0)] rfl ⟨rfl, rfl, trivial⟩ ?_
        refine WO_end ?_
        cases hm
        exact WK_ret (ret_out (L := []) (RLc_cell tbok 1 rfl rfl rfl (RLc_tmp rfl RLc_nil)) (List.nil_sublist _) ⟨a26, _, c27, rfl, h32⟩)
    · refine WK_block ?_
      refine WK_loop (S := List Int × Bool × Int) (G := List Ent) (fun s => terrain_Fill_s1 p0_3 p0_5 s.1 s.2.1 s.2.2) (fun s g => [(1, .pointer (some ⟨b1, 0, none⟩)), (2, .pointer (some ⟨b2, 0, none⟩)), (3, .int .i64 0), (5, .slice a6 ((y_2).length) c7), (6, .bool s.2.1), (25, .slice a_p0_5 p0_5.length c_p0_5), (26, .int .i64 (p0_5.length : Int)), (27, .int .i64 s.2.2)]) (fun s g => St w0 m m [[⟨b1, 25, [.int .i64 p0_0, .int .i64 p0_1, .int .i64 p0_2, .int .i64 p0_3, .int .i64 p0_4, .slice a_p0_5 p0_5.length c_p0_5]⟩], [⟨b2, 25, [.int .i64 0, .int .i64 0, .int .i64 0, .int .i64 0, .int .i64 0, .slice none 0 0]⟩], g]) (fun s g => OwnE 3 1 (I1 .i64) (.slice a6 ((y_2).length) c7) s.1 g) FUEL (y_2, false, 0) L8 x12 hx13 hL8 ⟨rfl, rfl, rfl, rfl, rfl, rfl, rfl, rfl, trivial⟩ (fun _ h => h) ?_
      rintro ⟨l_3, s_4, s_5⟩ L10 o16 fl17 hm15 hL10 hn18 hd19
      have hm15 : terrain_Fill_s1 p0_3 p0_5 l_3 s_4 s_5 = some o16 := hm15
      unfold terrain_Fill_s1 at hm15
      refine WK.sub (e' := [(1, .pointer (some ⟨b1, 0, none⟩)), (2, .pointer (some ⟨b2, 0, none⟩)), (3, .int .i64 0), (5, .slice a6 ((y_2).length) c7), (6, .bool s_4), (25, .slice a_p0_5 p0_5.length c_p0_5), (26, .int .i64 (p0_5.length : Int)), (27, .int .i64 s_5)]) ⟨rfl, rfl, rfl, rfl, rfl, rfl, rfl, rfl, trivial⟩ (WK.cls (C' := St w0 m m [[⟨b1, 25, [.int .i64 p0_0, .int .i64 p0_1, .int .i64 p0_2, .int .i64 p0_3, .int .i64 p0_4, .slice a_p0_5 p0_5.length c_p0_5]⟩], [⟨b2, 25, [.int .i64 0, .int .i64 0, .int .i64 0, .int .i64 0, .int .i64 0, .slice none 0 0]⟩], L10]) (fun _ h => h) ?_)
      refine WK_seq ?_
      refine WK_region ?_
      refine WO_pure tbok 1 [(1, .pointer (some ⟨b1, 0, none⟩)), (2, .pointer (some ⟨b2, 0, none⟩)), (3, .int .i64 0), (5, .slice a6 ((y_2).length) c7), (6, .bool s_4), (25, .slice a_p0_5 p0_5.length c_p0_5), (26, .int .i64 (p0_5.length : Int)), (27, .int .i64 s_5), (28, .bool (decide (s_5 < (p0_5.length : Int))))] rfl ⟨rfl, rfl, rfl, rfl, rfl, rfl, rfl, rfl, rfl, trivial⟩ ?_
      refine WO_end ?_
      refine WK_seq ?_
      refine WK_cond (b := decide (s_5 < (p0_5.length : Int))) rfl (fun hb33 => ?_) (fun hb33 => ?_)
      · have hm15 := ifT hb33 hm15
        refine WK_skip ?_
        refine WK_seq ?_
        refine WK_block ?_
        refine WK_seq ?_
        refine WK_region ?_
        refine WO_pure tbok 1 [(1, .pointer (some ⟨b1, 0, none⟩)), (2, .pointer (some ⟨b2, 0, none⟩)), (3, .int .i64 0), (5, .slice a6 ((y_2).length) c7), (6, .bool s_4), (25, .slice a_p0_5 p0_5.length c_p0_5), (26, .int .i64 (p0_5.length : Int)), (27, .int .i64 s_5), (29, .int .i64 s_5)] rfl ⟨rfl, rfl, rfl, rfl, rfl, rfl, rfl, rfl, rfl, trivial⟩ ?_
        obtain ⟨v_14, hy34, hm15⟩ := bind_some hm15
        obtain ⟨hc35, hy34⟩ := ix_some hy34
        refine WO_index tbok rfl rfl rfl rfl rfl rfl rfl rfl (SlR.addr h_p0_5) hc35 ?_
        refine WO_loadE tbok rfl rfl rfl rfl (fun _ h => St.sat h) h_p0_5 hy34 rfl ?_
        refine WO_pure tbok 2 [(1, .pointer (some ⟨b1, 0, none⟩)), (2, .pointer (some ⟨b2, 0, none⟩)), (3, .int .i64 0), (5, .slice a6 ((y_2).length) c7), (6, .bool s_4), (7, .int .i64 s_5), (8, .int .i64 v_14), (25, .slice a_p0_5 p0_5.length c_p0_5), (26, .int .i64 (p0_5.length : Int)), (27, .int .i64 s_5)] rfl ⟨rfl, rfl, rfl, rfl, rfl, rfl, rfl, rfl, rfl, rfl, trivial⟩ ?_
        refine WO_end ?_
        refine WK_seq ?_
        refine WK_seq ?_
        refine WK_region ?_
        refine WO_pure tbok 2 [(1, .pointer (some ⟨b1, 0, none⟩)), (2, .pointer (some ⟨b2, 0, none⟩)), (3, .int .i64 0), (5, .slice a6 ((y_2).length) c7), (6, .bool s_4), (7, .int .i64 s_5), (25, .slice a_p0_5 p0_5.length c_p0_5), (26, .int .i64 (p0_5.length : Int)), (27, .int .i64 s_5), (33, .bool (v_14 != (-2147483648)))] rfl ⟨rfl, rfl, rfl, rfl, rfl, rfl, rfl, rfl, rfl, rfl, trivial⟩ ?_
        refine WO_end ?_
        refine WK_cond (b := v_14 != (-2147483648)) rfl (fun hb36 => ?_) (fun hb36 => ?_)
        · have hm15 := ifT hb36 hm15
          refine WK_seq ?_
          refine WK_region ?_
          refine WO_pure tbok 1 [(1, .pointer (some ⟨b1, 0, none⟩)), (2, .pointer (some ⟨b2, 0, none⟩)), (3, .int .i64 0), (5, .slice a6 ((y_2).length) c7), (6, .bool true), (7, .int .i64 s_5), (25, .slice a_p0_5 p0_5.length c_p0_5), (26, .int .i64 (p0_5.length : Int)), (27, .int .i64 s_5)] rfl ⟨rfl, rfl, rfl, rfl, rfl, rfl, rfl, rfl, rfl, trivial⟩ ?_
          refine WO_end ?_
          refine WK_exit rfl ?_
          refine WK_region ?_
          refine WO_pure tbok 2 [(1, .pointer (some ⟨b1, 0, none⟩)), (2, .pointer (some ⟨b2, 0, none⟩)), (3, .int .i64 0), (5, .slice a6 ((y_2).length) c7), (6, .bool true), (25, .slice a_p0_5 p0_5.length c_p0_5), (26, .int .i64 (p0_5.length : Int)), (27, .int .i64 (w64 (s_5 + 1)))] rfl ⟨rfl, rfl, rfl, rfl, rfl, rfl, rfl, rfl, trivial⟩ ?_
          refine WO_end ?_
          cases hm15
          refine WK.sub ?_ (WK.cls (fun _ h => h) (hn18 _ L10 rfl hL10))
          exact ⟨rfl, rfl, rfl, rfl, rfl, rfl, rfl, rfl, trivial⟩
        · have hm15 := ifF hb36 hm15
          refine WK_skip ?_
          refine WK_seq ?_
          refine WK_region ?_
          refine WO_pure tbok 1 [(1, .pointer (some ⟨b1, 0, none⟩)), (2, .pointer (some ⟨b2, 0, none⟩)), (3, .int .i64 0), (5, .slice a6 ((y_2).length) c7), (6, .bool s_4), (7, .int .i64 s_5), (9, .int .i64 0), (25, .slice a_p0_5 p0_5.length c_p0_5), (26, .int .i64 (p0_5.length : Int)), (27, .int .i64 s_5)] rfl ⟨rfl, rfl, rfl, rfl, rfl, rfl, rfl, rfl, rfl, rfl, trivial⟩ ?_
          refine WO_end ?_
          refine WK_seq ?_
          refine WK_region ?_
          refine WO_pure tbok 1 [(1, .pointer (some ⟨b1, 0, none⟩)), (2, .pointer (some ⟨b2, 0, none⟩)), (3, .int .i64 0), (5, .slice a6 ((y_2).length) c7), (6, .bool s_4), (7, .int .i64 s_5), (9, .int .i64 0), (25, .slice a_p0_5 p0_5.length c_p0_5), (26, .int .i64 (p0_5.length : Int)), (27, .int .i64 s_5), (34, .pointer (some ⟨b1, 5, none⟩))] rfl ⟨rfl, rfl, rfl, rfl, rfl, rfl, rfl, rfl, rfl, rfl, rfl, trivial⟩ ?_
          refine WO_loadB tbok 0 rfl rfl rfl rfl (fun _ h => h) rfl rfl ?_
          refine WO_pure tbok 2 [(1, .pointer (some ⟨b1, 0, none⟩)), (2, .pointer (some ⟨b2, 0, none⟩)), (3, .int .i64 0), (5, .slice a6 ((y_2).length) c7), (6, .bool s_4), (7, .int .i64 s_5), (9, .int .i64 0), (25, .slice a_p0_5 p0_5.length c_p0_5), (26, .int .i64 (p0_5.length : Int)), (27, .int .i64 s_5), (35, .slice a_p0_5 p0_5.length c_p0_5), (36, .int .i64 (p0_5.length : Int)), (37, .int .i64 0)] rfl ⟨rfl, rfl, rfl, rfl, rfl, rfl, rfl, rfl, rfl, rfl, rfl, rfl, rfl, trivial⟩ ?_
          refine WO_end ?_
          obtain ⟨x39, hx40, hm15⟩ := bind_some hm15
          refine WK_join (β := (List Int) × (List Ent)) (fun p => p.1 = x39 ∧ OwnE 3 1 (I1 .i64) (.slice a6 ((y_2).length) c7) p.1 p.2) (fun p => [(1, .pointer (some ⟨b1, 0, none⟩)), (2, .pointer (some ⟨b2, 0, none⟩)), (3, .int .i64 0), (5, .slice a6 ((y_2).length) c7), (6, .bool s_4), (25, .slice a_p0_5 p0_5.length c_p0_5), (26, .int .i64 (p0_5.length : Int)), (27, .int .i64 s_5)]) (fun p => St w0 m m [[⟨b1, 25, [.int .i64 p0_0, .int .i64 p0_1, .int .i64 p0_2, .int .i64 p0_3, .int .i64 p0_4, .slice a_p0_5 p0_5.length c_p0_5]⟩], [⟨b2, 25, [.int .i64 0, .int .i64 0, .int .i64 0, .int .i64 0, .int .i64 0, .slice none 0 0]⟩], p.2]) ?_ (fun hk41 => ?_)
          · rintro ⟨l_18, L38⟩ ⟨hq47, hL38⟩
            subst hq47
            refine WK.sub (e' := [(1, .pointer (some ⟨b1, 0, none⟩)), (2, .pointer (some ⟨b2, 0, none⟩)), (3, .int .i64 0), (5, .slice a6 ((y_2).length) c7), (6, .bool s_4), (25, .slice a_p0_5 p0_5.length c_p0_5), (26, .int .i64 (p0_5.length : Int)), (27, .int .i64 s_5)]) ⟨rfl, rfl, rfl, rfl, rfl, rfl, rfl, rfl, trivial⟩ (WK.cls (C' := St w0 m m [[⟨b1, 25, [.int .i64 p0_0, .int .i64 p0_1, .int .i64 p0_2, .int .i64 p0_3, .int .i64 p0_4, .slice a_p0_5 p0_5.length c_p0_5]⟩], [⟨b2, 25, [.int .i64 0, .int .i64 0, .int .i64 0, .int .i64 0, .int .i64 0, .slice none 0 0]⟩], L38]) (fun _ h => h) ?_)
            refine WK_blk ?_
            refine WK_region ?_
            refine WO_pure tbok 2 [(1, .pointer (some ⟨b1, 0, none⟩)), (2, .pointer (some ⟨b2, 0, none⟩)), (3, .int .i64 0), (5, .slice a6 ((y_2).length) c7), (6, .bool s_4), (25, .slice a_p0_5 p0_5.length c_p0_5), (26, .int .i64 (p0_5.length : Int)), (27, .int .i64 (w64 (s_5 + 1)))] rfl ⟨rfl, rfl, rfl, rfl, rfl, rfl, rfl, rfl, trivial⟩ ?_
            refine WO_end ?_
            cases hm15
            refine WK.sub ?_ (WK.cls (fun _ h => h) (hn18 _ L38 rfl hL38))
            exact ⟨rfl, rfl, rfl, rfl, rfl, rfl, rfl, rfl, trivial⟩
          · refine WK_block ?_
            refine WK_loop (S := List Int × Int × Int) (G := List Ent) (fun s => terrain_Fill_s2 p0_3 p0_5 s_5 s.1 s.2.1 s.2.2) (fun s g => [(1, .pointer (some ⟨b1, 0, none⟩)), (2, .pointer (some ⟨b2, 0, none⟩)), (3, .int .i64 0), (5, .slice a6 ((y_2).length) c7), (6, .bool s_4), (7, .int .i64 s_5), (9, .int .i64 s.2.1), (25, .slice a_p0_5 p0_5.length c_p0_5), (26, .int .i64 (p0_5.length : Int)), (27, .int .i64 s_5), (35, .slice a_p0_5 p0_5.length c_p0_5), (36, .int .i64 (p0_5.length : Int)), (37, .int .i64 s.2.2)]) (fun s g => St w0 m m [[⟨b1, 25, [.int .i64 p0_0, .int .i64 p0_1, .int .i64 p0_2, .int .i64 p0_3, .int .i64 p0_4, .slice a_p0_5 p0_5.length c_p0_5]⟩], [⟨b2, 25, [.int .i64 0, .int .i64 0, .int .i64 0, .int .i64 0, .int .i64 0, .slice none 0 0]⟩], g]) (fun s g => OwnE 3 1 (I1 .i64) (.slice a6 ((y_2).length) c7) s.1 g) FUEL (l_3, 0, 0) L10 x39 hx40 hL10 ⟨rfl, rfl, rfl, rfl, rfl, rfl, rfl, rfl, rfl, rfl, rfl, rfl, rfl, trivial⟩ (fun _ h => h) ?_
            rintro ⟨l_15, s_16, s_17⟩ L37 o43 fl44 hm42 hL37 hn45 hd46
            have hm42 : terrain_Fill_s2 p0_3 p0_5 s_5 l_15 s_16 s_17 = some o43 := hm42
            unfold terrain_Fill_s2 at hm42
            refine WK.sub (e' := [(1, .pointer (some ⟨b1, 0, none⟩)), (2, .pointer (some ⟨b2, 0, none⟩)), (3, .int .i64 0), (5, .slice a6 ((y_2).length) c7), (6, .bool s_4), (7, .int .i64 s_5), (9, .int .i64 s_16), (25, .slice a_p0_5 p0_5.length c_p0_5), (26, .int .i64 (p0_5.length : Int)), (27, .int .i64 s_5), (35, .slice a_p0_5 p0_5.length c_p0_5), (36, .int .i64 (p0_5.length : Int)), (37, .int .i64 s_17)]) ⟨rfl, rfl, rfl, rfl, rfl, rfl, rfl, rfl, rfl, rfl, rfl, rfl, rfl, trivial⟩ (WK.cls (C' := St w0 m m [[⟨b1, 25, [.int .i64 p0_0, .int .i64 p0_1, .int .i64 p0_2, .int .i64 p0_3, .int .i64 p0_4, .slice a_p0_5 p0_5.length c_p0_5]⟩], [⟨b2, 25, [.int .i64 0, .int .i64 0, .int .i64 0, .int .i64 0, .int .i64 0, .slice none 0 0]⟩], L37]) (fun _ h => h) ?_)
            refine WK_seq ?_
            refine WK_region ?_
            refine WO_pure tbok 1 [(1, .pointer (some ⟨b1, 0, none⟩)), (2, .pointer (some ⟨b2, 0, none⟩)), (3, .int .i64 0), (5, .slice a6 ((y_2).length) c7), (6, .bool s_4), (7, .int .i64 s_5), (9, .int .i64 s_16), (25, .slice a_p0_5 p0_5.length c_p0_5), (26, .int .i64 (p0_5.length : Int)), (27, .int .i64 s_5), (35, .slice a_p0_5 p0_5.length c_p0_5), (36, .int .i64 (p0_5.length : Int)), (37, .int .i64 s_17), (38, .bool (decide (s_17 < (p0_5.length : Int))))] rfl ⟨rfl, rfl, rfl, rfl, rfl, rfl, rfl, rfl, rfl, rfl, rfl, rfl, rfl, rfl, trivial⟩ ?_
            refine WO_end ?_
            refine WK_seq ?_
            refine WK_cond (b := decide (s_17 < (p0_5.length : Int))) rfl (fun hb48 => ?_) (fun hb48 => ?_)
            · have hm42 := ifT hb48 hm42
              refine WK_skip ?_
              refine WK_seq ?_
              refine WK_block ?_
              refine WK_seq ?_
              refine WK_region ?_
              refine WO_pure tbok 1 [(1, .pointer (some ⟨b1, 0, none⟩)), (2, .pointer (some ⟨b2, 0, none⟩)), (3, .int .i64 0), (5, .slice a6 ((y_2).length) c7), (6, .bool s_4), (7, .int .i64 s_5), (9, .int .i64 s_16), (25, .slice a_p0_5 p0_5.length c_p0_5), (26, .int .i64 (p0_5.length : Int)), (27, .int .i64 s_5), (35, .slice a_p0_5 p0_5.length c_p0_5), (36, .int .i64 (p0_5.length : Int)), (37, .int .i64 s_17), (39, .int .i64 s_17)] rfl ⟨rfl, rfl, rfl, rfl, rfl, rfl, rfl, rfl, rfl, rfl, rfl, rfl, rfl, rfl, trivial⟩ ?_
              obtain ⟨v_19, hy49, hm42⟩ := bind_some hm42
              obtain ⟨hc50, hy49⟩ := ix_some hy49
              refine WO_index tbok rfl rfl rfl rfl rfl rfl rfl rfl (SlR.addr h_p0_5) hc50 ?_
              refine WO_loadE tbok rfl rfl rfl rfl (fun _ h => St.sat h) h_p0_5 hy49 rfl ?_
              refine WO_pure tbok 2 [(1, .pointer (some ⟨b1, 0, none⟩)), (2, .pointer (some ⟨b2, 0, none⟩)), (3, .int .i64 0), (5, .slice a6 ((y_2).length) c7), (6, .bool s_4), (7, .int .i64 s_5), (9, .int .i64 s_16), (10, .int .i64 s_17), (11, .int .i64 v_19), (25, .slice a_p0_5 p0_5.length c_p0_5), (26, .int .i64 (p0_5.length : Int)), (27, .int .i64 s_5), (35, .slice a_p0_5 p0_5.length c_p0_5), (36, .int .i64 (p0_5.length : Int)), (37, .int .i64 s_17)] rfl ⟨rfl, rfl, rfl, rfl, rfl, rfl, rfl, rfl, rfl, rfl, rfl, rfl, rfl, rfl, rfl, trivial⟩ ?_
              refine WO_end ?_
              refine WK_seq ?_
              refine WK_seq ?_
              refine WK_region ?_
              refine WO_pure tbok 2 [(1, .pointer (some ⟨b1, 0, none⟩)), (2, .pointer (some ⟨b2, 0, none⟩)), (3, .int .i64 0), (5, .slice a6 ((y_2).length) c7), (6, .bool s_4), (7, .int .i64 s_5), (9, .int .i64 s_16), (10, .int .i64 s_17), (11, .int .i64 v_19), (25, .slice a_p0_5 p0_5.length c_p0_5), (26, .int .i64 (p0_5.length : Int)), (27, .int .i64 s_5), (35, .slice a_p0_5 p0_5.length c_p0_5), (36, .int .i64 (p0_5.length : Int)), (37, .int .i64 s_17), (43, .bool (v_19 == (-2147483648)))] rfl ⟨rfl, rfl, rfl, rfl, rfl, rfl, rfl, rfl, rfl, rfl, rfl, rfl, rfl, rfl, rfl, rfl, trivial⟩ ?_
              refine WO_end ?_
              refine WK_cond (b := v_19 == (-2147483648)) rfl (fun hb51 => ?_) (fun hb51 => ?_)
              · have hm42 := ifT hb51 hm42
                refine WK_exit rfl ?_
                refine WK_region ?_
                refine WO_pure tbok 2 [(1, .pointer (some ⟨b1, 0, none⟩)), (2, .pointer (some ⟨b2, 0, none⟩)), (3, .int .i64 0), (5, .slice a6 ((y_2).length) c7), (6, .bool s_4), (7, .int .i64 s_5), (9, .int .i64 s_16), (25, .slice a_p0_5 p0_5.length c_p0_5), (26, .int .i64 (p0_5.length : Int)), (27, .int .i64 s_5), (35, .slice a_p0_5 p0_5.length c_p0_5), (36, .int .i64 (p0_5.length : Int)), (37, .int .i64 (w64 (s_17 + 1)))] rfl ⟨rfl, rfl, rfl, rfl, rfl, rfl, rfl, rfl, rfl, rfl, rfl, rfl, rfl, trivial⟩ ?_
                refine WO_end ?_
                cases hm42
                refine WK.sub ?_ (WK.cls (fun _ h => h) (hn45 _ L37 rfl hL37))
                exact ⟨rfl, rfl, rfl, rfl, rfl, rfl, rfl, rfl, rfl, rfl, rfl, rfl, rfl, trivial⟩
              · have hm42 := ifF hb51 hm42
                refine WK_skip ?_
                refine WK_seq ?_
                refine WK_draw 20 [0, 1, 2, 3, 4, 5, 6, 7, 8, 9, 10, 11, 12, 13, 14, 15, 16, 17, 18, 19] follows_ok (by kernel_rfl) St_closed ?_
                refine WO_pure tbok 2 [(1, .pointer (some ⟨b1, 0, none⟩)), (2, .pointer (some ⟨b2, 0, none⟩)), (3, .int .i64 0), (5, .slice a6 ((y_2).length) c7), (6, .bool s_4), (7, .int .i64 s_5), (9, .int .i64 s_16), (10, .int .i64 s_17), (11, .int .i64 v_19), (25, .slice a_p0_5 p0_5.length c_p0_5), (26, .int .i64 (p0_5.length : Int)), (27, .int .i64 s_5), (35, .slice a_p0_5 p0_5.length c_p0_5), (36, .int .i64 (p0_5.length : Int)), (37, .int .i64 s_17), (44, .int .i64 s_5), (45, .pointer (some ⟨b1, 3, none⟩))] rfl ⟨rfl, rfl, rfl, rfl, rfl, rfl, rfl, rfl, rfl, rfl, rfl, rfl, rfl, rfl, rfl, rfl, rfl, trivial⟩ ?_
                refine WO_loadB tbok 0 rfl rfl rfl rfl (fun _ h => h) rfl rfl ?_
                obtain ⟨hc52, hm42⟩ := chk_some hm42
                refine WO_rem rfl rfl rfl rfl rfl hc52 ?_
                refine WO_pure tbok 2 [(1, .pointer (some ⟨b1, 0, none⟩)), (2, .pointer (some ⟨b2, 0, none⟩)), (3, .int .i64 0), (5, .slice a6 ((y_2).length) c7), (6, .bool s_4), (7, .int .i64 s_5), (9, .int .i64 s_16), (10, .int .i64 s_17), (11, .int .i64 v_19), (25, .slice a_p0_5 p0_5.length c_p0_5), (26, .int .i64 (p0_5.length : Int)), (27, .int .i64 s_5), (35, .slice a_p0_5 p0_5.length c_p0_5), (36, .int .i64 (p0_5.length : Int)), (37, .int .i64 s_17), (47, .int .i64 (Int.tmod s_5 p0_3)), (48, .int .i64 s_17), (49, .pointer (some ⟨b1, 3, none⟩))] rfl ⟨rfl, rfl, rfl, rfl, rfl, rfl, rfl, rfl, rfl, rfl, rfl, rfl, rfl, rfl, rfl, rfl, rfl, rfl, trivial⟩ ?_
                refine WO_loadB tbok 0 rfl rfl rfl rfl (fun _ h => h) rfl rfl ?_
                obtain ⟨hc53, hm42⟩ := chk_some hm42
                refine WO_rem rfl rfl rfl rfl rfl hc53 ?_
                refine WO_pure tbok 3 [(1, .pointer (some ⟨b1, 0, none⟩)), (2, .pointer (some ⟨b2, 0, none⟩)), (3, .int .i64 0), (5, .slice a6 ((y_2).length) c7), (6, .bool s_4), (7, .int .i64 s_5), (9, .int .i64 s_16), (10, .int .i64 s_17), (11, .int .i64 v_19), (25, .slice a_p0_5 p0_5.length c_p0_5), (26, .int .i64 (p0_5.length : Int)), (27, .int .i64 s_5), (35, .slice a_p0_5 p0_5.length c_p0_5), (36, .int .i64 (p0_5.length : Int)), (37, .int .i64 s_17), (52, .int .i64 (w64 ((Int.tmod s_5 p0_3) - (Int.tmod s_17 p0_3)))), (53, .int .i64 s_5), (54, .pointer (some ⟨b1, 3, none⟩))] rfl ⟨rfl, rfl, rfl, rfl, rfl, rfl, rfl, rfl, rfl, rfl, rfl, rfl, rfl, rfl, rfl, rfl, rfl, rfl, trivial⟩ ?_
                refine WO_loadB tbok 0 rfl rfl rfl rfl (fun _ h => h) rfl rfl ?_
                obtain ⟨hc54, hm42⟩ := chk_some hm42
                refine WO_quo rfl rfl rfl rfl rfl hc54 ?_
                refine WO_pure tbok 2 [(1, .pointer (some ⟨b1, 0, none⟩)), (2, .pointer (some ⟨b2, 0, none⟩)), (3, .int .i64 0), (5, .slice a6 ((y_2).length) c7), (6, .bool s_4), (7, .int .i64 s_5), (9, .int .i64 s_16), (11, .int .i64 v_19), (25, .slice a_p0_5 p0_5.length c_p0_5), (26, .int .i64 (p0_5.length : Int)), (27, .int .i64 s_5), (35, .slice a_p0_5 p0_5.length c_p0_5), (36, .int .i64 (p0_5.length : Int)), (37, .int .i64 s_17), (52, .int .i64 (w64 ((Int.tmod s_5 p0_3) - (Int.tmod s_17 p0_3)))), (56, .int .i64 (w64 (Int.tdiv s_5 p0_3))), (57, .int .i64 s_17), (58, .pointer (some ⟨b1, 3, none⟩))] rfl ⟨rfl, rfl, rfl, rfl, rfl, rfl, rfl, rfl, rfl, rfl, rfl, rfl, rfl, rfl, rfl, rfl, rfl, rfl, trivial⟩ ?_
                refine WO_loadB tbok 0 rfl rfl rfl rfl (fun _ h => h) rfl rfl ?_
                obtain ⟨hc55, hm42⟩ := chk_some hm42
                refine WO_quo rfl rfl rfl rfl rfl hc55 ?_
                refine WO_pure tbok 3 [(1, .pointer (some ⟨b1, 0, none⟩)), (2, .pointer (some ⟨b2, 0, none⟩)), (3, .int .i64 0), (5, .slice a6 ((y_2).length) c7), (6, .bool s_4), (7, .int .i64 s_5), (9, .int .i64 s_16), (11, .int .i64 v_19), (12, .int .i64 (w64 ((Int.tmod s_5 p0_3) - (Int.tmod s_17 p0_3)))), (13, .int .i64 (w64 ((w64 (Int.tdiv s_5 p0_3)) - (w64 (Int.tdiv s_17 p0_3))))), (25, .slice a_p0_5 p0_5.length c_p0_5), (26, .int .i64 (p0_5.length : Int)), (27, .int .i64 s_5), (35, .slice a_p0_5 p0_5.length c_p0_5), (36, .int .i64 (p0_5.length : Int)), (37, .int .i64 s_17)] rfl ⟨rfl, rfl, rfl, rfl, rfl, rfl, rfl, rfl, rfl, rfl, rfl, rfl, rfl, rfl, rfl, rfl, trivial⟩ ?_
                refine WO_tail ?_
                refine WO_end ?_
                refine WK_seq ?_
                refine WK_region ?_
                refine WO_pure tbok 10 [(1, .pointer (some ⟨b1, 0, none⟩)), (2, .pointer (some ⟨b2, 0, none⟩)), (3, .int .i64 0), (5, .slice a6 ((y_2).length) c7), (6, .bool s_4), (7, .int .i64 s_5), (9, .int .i64 s_16), (11, .int .i64 v_19), (14, .int .i64 (w64 ((if (w64 ((Int.tmod s_5 p0_3) - (Int.tmod s_17 p0_3))) < (w64 (0 - (w64 ((Int.tmod s_5 p0_3) - (Int.tmod s_17 p0_3))))) then (w64 (0 - (w64 ((Int.tmod s_5 p0_3) - (Int.tmod s_17 p0_3))))) else (w64 ((Int.tmod s_5 p0_3) - (Int.tmod s_17 p0_3)))) + (if (w64 ((w64 (Int.tdiv s_5 p0_3)) - (w64 (Int.tdiv s_17 p0_3)))) < (w64 (0 - (w64 ((w64 (Int.tdiv s_5 p0_3)) - (w64 (Int.tdiv s_17 p0_3)))))) then (w64 (0 - (w64 ((w64 (Int.tdiv s_5 p0_3)) - (w64 (Int.tdiv s_17 p0_3)))))) else (w64 ((w64 (Int.tdiv s_5 p0_3)) - (w64 (Int.tdiv s_17 p0_3)))))))), (25, .slice a_p0_5 p0_5.length c_p0_5), (26, .int .i64 (p0_5.length : Int)), (27, .int .i64 s_5), (35, .slice a_p0_5 p0_5.length c_p0_5), (36, .int .i64 (p0_5.length : Int)), (37, .int .i64 s_17)] rfl ⟨rfl, rfl, rfl, rfl, rfl, rfl, rfl, rfl, rfl, rfl, rfl, rfl, rfl, rfl, rfl, trivial⟩ ?_
                refine WO_end ?_
                refine WK_seq ?_
                obtain ⟨s_20, hx56, hm42⟩ := bind_some hm42
                refine WK_meet [(1, .pointer (some ⟨b1, 0, none⟩)), (2, .pointer (some ⟨b2, 0, none⟩)), (3, .int .i64 0), (5, .slice a6 ((y_2).length) c7), (6, .bool s_4), (7, .int .i64 s_5), (9, .int .i64 s_16), (11, .int .i64 v_19), (14, .int .i64 (w64 ((if (w64 ((Int.tmod s_5 p0_3) - (Int.tmod s_17 p0_3))) < (w64 (0 - (w64 ((Int.tmod s_5 p0_3) - (Int.tmod s_17 p0_3))))) then (w64 (0 - (w64 ((Int.tmod s_5 p0_3) - (Int.tmod s_17 p0_3))))) else (w64 ((Int.tmod s_5 p0_3) - (Int.tmod s_17 p0_3)))) + (if (w64 ((w64 (Int.tdiv s_5 p0_3)) - (w64 (Int.tdiv s_17 p0_3)))) < (w64 (0 - (w64 ((w64 (Int.tdiv s_5 p0_3)) - (w64 (Int.tdiv s_17 p0_3)))))) then (w64 (0 - (w64 ((w64 (Int.tdiv s_5 p0_3)) - (w64 (Int.tdiv s_17 p0_3)))))) else (w64 ((w64 (Int.tdiv s_5 p0_3)) - (w64 (Int.tdiv s_17 p0_3)))))))), (25, .slice a_p0_5 p0_5.length c_p0_5), (26, .int .i64 (p0_5.length : Int)), (27, .int .i64 s_5), (35, .slice a_p0_5 p0_5.length c_p0_5), (36, .int .i64 (p0_5.length : Int)), (37, .int .i64 s_17), (93, .bool s_20)] (St w0 m m [[⟨b1, 25, [.int .i64 p0_0, .int .i64 p0_1, .int .i64 p0_2, .int .i64 p0_3, .int .i64 p0_4, .slice a_p0_5 p0_5.length c_p0_5]⟩], [⟨b2, 25, [.int .i64 0, .int .i64 0, .int .i64 0, .int .i64 0, .int .i64 0, .slice none 0 0]⟩], L37]) ?_ (fun hk57 => ?_)
                · obtain ⟨⟨l_21, s_22⟩, hx59, hm42⟩ := bind_some hm42
                  refine WK_join (β := List Ent) (fun p => OwnE 3 1 (I1 .i64) (.slice a6 ((y_2).length) c7) l_21 p) (fun p => [(1, .pointer (some ⟨b1, 0, none⟩)), (2, .pointer (some ⟨b2, 0, none⟩)), (3, .int .i64 0), (5, .slice a6 ((y_2).length) c7), (6, .bool s_4), (7, .int .i64 s_5), (9, .int .i64 s_22), (25, .slice a_p0_5 p0_5.length c_p0_5), (26, .int .i64 (p0_5.length : Int)), (27, .int .i64 s_5), (35, .slice a_p0_5 p0_5.length c_p0_5), (36, .int .i64 (p0_5.length : Int)), (37, .int .i64 s_17)]) (fun p => St w0 m m [[⟨b1, 25, [.int .i64 p0_0, .int .i64 p0_1, .int .i64 p0_2, .int .i64 p0_3, .int .i64 p0_4, .slice a_p0_5 p0_5.length c_p0_5]⟩], [⟨b2, 25, [.int .i64 0, .int .i64 0, .int .i64 0, .int .i64 0, .int .i64 0, .slice none 0 0]⟩], p]) ?_ (fun hk60 => ?_)
                  · rintro L58 hL58
                    refine WK.sub (e' := [(1, .pointer (some ⟨b1, 0, none⟩)), (2, .pointer (some ⟨b2, 0, none⟩)), (3, .int .i64 0), (5, .slice a6 ((y_2).length) c7), (6, .bool s_4), (7, .int .i64 s_5), (9, .int .i64 s_22), (25, .slice a_p0_5 p0_5.length c_p0_5), (26, .int .i64 (p0_5.length : Int)), (27, .int .i64 s_5), (35, .slice a_p0_5 p0_5.length c_p0_5), (36, .int .i64 (p0_5.length : Int)), (37, .int .i64 s_17)]) ⟨rfl, rfl, rfl, rfl, rfl, rfl, rfl, rfl, rfl, rfl, rfl, rfl, rfl, trivial⟩ (WK.cls (C' := St w0 m m [[⟨b1, 25, [.int .i64 p0_0, .int .i64 p0_1, .int .i64 p0_2, .int .i64 p0_3, .int .i64 p0_4, .slice a_p0_5 p0_5.length c_p0_5]⟩], [⟨b2, 25, [.int .i64 0, .int .i64 0, .int .i64 0, .int .i64 0, .int .i64 0, .slice none 0 0]⟩], L58]) (fun _ h => h) ?_)
                    refine WK_blk ?_
                    refine WK_region ?_
                    refine WO_pure tbok 2 [(1, .pointer (some ⟨b1, 0, none⟩)), (2, .pointer (some ⟨b2, 0, none⟩)), (3, .int .i64 0), (5, .slice a6 ((y_2).length) c7), (6, .bool s_4), (7, .int .i64 s_5), (9, .int .i64 s_22), (25, .slice a_p0_5 p0_5.length c_p0_5), (26, .int .i64 (p0_5.length : Int)), (27, .int .i64 s_5), (35, .slice a_p0_5 p0_5.length c_p0_5), (36, .int .i64 (p0_5.length : Int)), (37, .int .i64 (w64 (s_17 + 1)))] rfl ⟨rfl, rfl, rfl, rfl, rfl, rfl, rfl, rfl, rfl, rfl, rfl, rfl, rfl, trivial⟩ ?_
                    refine WO_end ?_
                    cases hm42
                    refine WK.sub ?_ (WK.cls (fun _ h => h) (hn45 _ L58 rfl hL58))
                    exact ⟨rfl, rfl, rfl, rfl, rfl, rfl, rfl, rfl, rfl, rfl, rfl, rfl, rfl, trivial⟩
                  · refine WK_cond (b := s_20) rfl (fun hb61 => ?_) (fun hb61 => ?_)
                    · have hx59 := ifT hb61 hx59
                      refine WK_region ?_
                      refine WO_pure tbok 4 [(1, .pointer (some ⟨b1, 0, none⟩)), (2, .pointer (some ⟨b2, 0, none⟩)), (3, .int .i64 0), (5, .slice a6 ((y_2).length) c7), (6, .bool s_4), (7, .int .i64 s_5), (9, .int .i64 s_16), (25, .slice a_p0_5 p0_5.length c_p0_5), (26, .int .i64 (p0_5.length : Int)), (27, .int .i64 s_5), (35, .slice a_p0_5 p0_5.length c_p0_5), (36, .int .i64 (p0_5.length : Int)), (37, .int .i64 s_17), (94, .slice a6 ((y_2).length) c7), (95, .int .i64 s_5), (96, .int .i64 v_19), (97, .int .i64 (w64 ((if (w64 ((Int.tmod s_5 p0_3) - (Int.tmod s_17 p0_3))) < (w64 (0 - (w64 ((Int.tmod s_5 p0_3) - (Int.tmod s_17 p0_3))))) then (w64 (0 - (w64 ((Int.tmod s_5 p0_3) - (Int.tmod s_17 p0_3))))) else (w64 ((Int.tmod s_5 p0_3) - (Int.tmod s_17 p0_3)))) + (if (w64 ((w64 (Int.tdiv s_5 p0_3)) - (w64 (Int.tdiv s_17 p0_3)))) < (w64 (0 - (w64 ((w64 (Int.tdiv s_5 p0_3)) - (w64 (Int.tdiv s_17 p0_3)))))) then (w64 (0 - (w64 ((w64 (Int.tdiv s_5 p0_3)) - (w64 (Int.tdiv s_17 p0_3)))))) else (w64 ((w64 (Int.tdiv s_5 p0_3)) - (w64 (Int.tdiv s_17 p0_3))))))))] rfl ⟨rfl, rfl, rfl, rfl, rfl, rfl, rfl, rfl, rfl, rfl, rfl, rfl, rfl, rfl, rfl, rfl, rfl, trivial⟩ ?_
                      obtain ⟨hc62, hx59⟩ := chk_some hx59
                      refine WO_index tbok rfl rfl rfl rfl rfl rfl rfl rfl (OwnE.addr hL37) (by simpa using hc62) ?_
                      refine WO_storeO (E := (I1 .i64)) tbok (fun _ => rfl) 2 v_19 rfl rfl rfl rfl rfl hL37 rfl (by simpa using idx_lt hc62) rfl rfl rfl rfl (fun L63 hL63 => ?_)
                      refine WO.cls (C' := St w0 m m [[⟨b1, 25, [.int .i64 p0_0, .int .i64 p0_1, .int .i64 p0_2, .int .i64 p0_3, .int .i64 p0_4, .slice a_p0_5 p0_5.length c_p0_5]⟩], [⟨b2, 25, [.int .i64 0, .int .i64 0, .int .i64 0, .int .i64 0, .int .i64 0, .slice none 0 0]⟩], L63]) (fun _ h => h) ?_
                      refine WO_pure tbok 1 [(1, .pointer (some ⟨b1, 0, none⟩)), (2, .pointer (some ⟨b2, 0, none⟩)), (3, .int .i64 0), (5, .slice a6 ((y_2).length) c7), (6, .bool s_4), (7, .int .i64 s_5), (9, .int .i64 (w64 ((if (w64 ((Int.tmod s_5 p0_3) - (Int.tmod s_17 p0_3))) < (w64 (0 - (w64 ((Int.tmod s_5 p0_3) - (Int.tmod s_17 p0_3))))) then (w64 (0 - (w64 ((Int.tmod s_5 p0_3) - (Int.tmod s_17 p0_3))))) else (w64 ((Int.tmod s_5 p0_3) - (Int.tmod s_17 p0_3)))) + (if (w64 ((w64 (Int.tdiv s_5 p0_3)) - (w64 (Int.tdiv s_17 p0_3)))) < (w64 (0 - (w64 ((w64 (Int.tdiv s_5 p0_3)) - (w64 (Int.tdiv s_17 p0_3)))))) then (w64 (0 - (w64 ((w64 (Int.tdiv s_5 p0_3)) - (w64 (Int.tdiv s_17 p0_3)))))) else (w64 ((w64 (Int.tdiv s_5 p0_3)) - (w64 (Int.tdiv s_17 p0_3)))))))), (25, .slice a_p0_5 p0_5.length c_p0_5), (26, .int .i64 (p0_5.length : Int)), (27, .int .i64 s_5), (35, .slice a_p0_5 p0_5.length c_p0_5), (36, .int .i64 (p0_5.length : Int)), (37, .int .i64 s_17)] rfl ⟨rfl, rfl, rfl, rfl, rfl, rfl, rfl, rfl, rfl, rfl, rfl, rfl, rfl, trivial⟩ ?_
                      refine WO_end ?_
                      cases hx59
                      refine WK.sub ?_ (WK.cls (fun _ h => h) (hk60 L63 hL63))
                      exact ⟨rfl, rfl, rfl, rfl, rfl, rfl, rfl, rfl, rfl, rfl, rfl, rfl, rfl, trivial⟩
                    · have hx59 := ifF hb61 hx59
                      refine WK_skip ?_
                      cases hx59
                      refine WK.sub ?_ (WK.cls (fun _ h => h) (hk60 L37 hL37))
                      exact ⟨rfl, rfl, rfl, rfl, rfl, rfl, rfl, rfl, rfl, rfl, rfl, rfl, rfl, trivial⟩
                · refine WK_region ?_
                  refine WO_pure tbok 2 [(1, .pointer (some ⟨b1, 0, none⟩)), (2, .pointer (some ⟨b2, 0, none⟩)), (3, .int .i64 0), (5, .slice a6 ((y_2).length) c7), (6, .bool s_4), (7, .int .i64 s_5), (9, .int .i64 s_16), (11, .int .i64 v_19), (14, .int .i64 (w64 ((if (w64 ((Int.tmod s_5 p0_3) - (Int.tmod s_17 p0_3))) < (w64 (0 - (w64 ((Int.tmod s_5 p0_3) - (Int.tmod s_17 p0_3))))) then (w64 (0 - (w64 ((Int.tmod s_5 p0_3) - (Int.tmod s_17 p0_3))))) else (w64 ((Int.tmod s_5 p0_3) - (Int.tmod s_17 p0_3)))) + (if (w64 ((w64 (Int.tdiv s_5 p0_3)) - (w64 (Int.tdiv s_17 p0_3)))) < (w64 (0 - (w64 ((w64 (Int.tdiv s_5 p0_3)) - (w64 (Int.tdiv s_17 p0_3)))))) then (w64 (0 - (w64 ((w64 (Int.tdiv s_5 p0_3)) - (w64 (Int.tdiv s_17 p0_3)))))) else (w64 ((w64 (Int.tdiv s_5 p0_3)) - (w64 (Int.tdiv s_17 p0_3)))))))), (25, .slice a_p0_5 p0_5.length c_p0_5), (26, .int .i64 (p0_5.length : Int)), (27, .int .i64 s_5), (35, .slice a_p0_5 p0_5.length c_p0_5), (36, .int .i64 (p0_5.length : Int)), (37, .int .i64 s_17), (71, .slice a6 ((y_2).length) c7), (72, .int .i64 s_5)] rfl ⟨rfl, rfl, rfl, rfl, rfl, rfl, rfl, rfl, rfl, rfl, rfl, rfl, rfl, rfl, rfl, rfl, rfl, trivial⟩ ?_
                  obtain ⟨v_23, hy64, hx56⟩ := bind_some hx56
                  obtain ⟨hc65, hy64⟩ := ix_some hy64
                  refine WO_index tbok rfl rfl rfl rfl rfl rfl rfl rfl (OwnE.addr hL37) (by simpa using hc65) ?_
                  refine WO_loadO (E := (I1 .i64)) tbok (fun _ => rfl) 2 rfl rfl rfl rfl (fun _ h => h) hL37 rfl hy64 rfl ?_
                  refine WO_pure tbok 2 [(1, .pointer (some ⟨b1, 0, none⟩)), (2, .pointer (some ⟨b2, 0, none⟩)), (3, .int .i64 0), (5, .slice a6 ((y_2).length) c7), (6, .bool s_4), (7, .int .i64 s_5), (9, .int .i64 s_16), (11, .int .i64 v_19), (14, .int .i64 (w64 ((if (w64 ((Int.tmod s_5 p0_3) - (Int.tmod s_17 p0_3))) < (w64 (0 - (w64 ((Int.tmod s_5 p0_3) - (Int.tmod s_17 p0_3))))) then (w64 (0 - (w64 ((Int.tmod s_5 p0_3) - (Int.tmod s_17 p0_3))))) else (w64 ((Int.tmod s_5 p0_3) - (Int.tmod s_17 p0_3)))) + (if (w64 ((w64 (Int.tdiv s_5 p0_3)) - (w64 (Int.tdiv s_17 p0_3)))) < (w64 (0 - (w64 ((w64 (Int.tdiv s_5 p0_3)) - (w64 (Int.tdiv s_17 p0_3)))))) then (w64 (0 - (w64 ((w64 (Int.tdiv s_5 p0_3)) - (w64 (Int.tdiv s_17 p0_3)))))) else (w64 ((w64 (Int.tdiv s_5 p0_3)) - (w64 (Int.tdiv s_17 p0_3)))))))), (25, .slice a_p0_5 p0_5.length c_p0_5), (26, .int .i64 (p0_5.length : Int)), (27, .int .i64 s_5), (35, .slice a_p0_5 p0_5.length c_p0_5), (36, .int .i64 (p0_5.length : Int)), (37, .int .i64 s_17), (76, .bool (v_23 == (-2147483648)))] rfl ⟨rfl, rfl, rfl, rfl, rfl, rfl, rfl, rfl, rfl, rfl, rfl, rfl, rfl, rfl, rfl, rfl, trivial⟩ ?_
                  refine WO_split (d := 76) (b := v_23 == (-2147483648)) rfl (fun hb66 => ?_) (fun hb66 => ?_)
                  · have hx56 := ifT hb66 hx56
                    refine WO_pure tbok 17 [(1, .pointer (some ⟨b1, 0, none⟩)), (2, .pointer (some ⟨b2, 0, none⟩)), (3, .int .i64 0), (5, .slice a6 ((y_2).length) c7), (6, .bool s_4), (7, .int .i64 s_5), (9, .int .i64 s_16), (11, .int .i64 v_19), (14, .int .i64 (w64 ((if (w64 ((Int.tmod s_5 p0_3) - (Int.tmod s_17 p0_3))) < (w64 (0 - (w64 ((Int.tmod s_5 p0_3) - (Int.tmod s_17 p0_3))))) then (w64 (0 - (w64 ((Int.tmod s_5 p0_3) - (Int.tmod s_17 p0_3))))) else (w64 ((Int.tmod s_5 p0_3) - (Int.tmod s_17 p0_3)))) + (if (w64 ((w64 (Int.tdiv s_5 p0_3)) - (w64 (Int.tdiv s_17 p0_3)))) < (w64 (0 - (w64 ((w64 (Int.tdiv s_5 p0_3)) - (w64 (Int.tdiv s_17 p0_3)))))) then (w64 (0 - (w64 ((w64 (Int.tdiv s_5 p0_3)) - (w64 (Int.tdiv s_17 p0_3)))))) else (w64 ((w64 (Int.tdiv s_5 p0_3)) - (w64 (Int.tdiv s_17 p0_3)))))))), (25, .slice a_p0_5 p0_5.length c_p0_5), (26, .int .i64 (p0_5.length : Int)), (27, .int .i64 s_5), (35, .slice a_p0_5 p0_5.length c_p0_5), (36, .int .i64 (p0_5.length : Int)), (37, .int .i64 s_17), (93, .bool true)] rfl ⟨rfl, rfl, rfl, rfl, rfl, rfl, rfl, rfl, rfl, rfl, rfl, rfl, rfl, rfl, rfl, rfl, trivial⟩ ?_
                    refine WO_end ?_
                    cases hx56
                    refine WK.sub ?_ (WK.cls (fun _ h => h) hk57)
                    exact ⟨rfl, rfl, rfl, rfl, rfl, rfl, rfl, rfl, rfl, rfl, rfl, rfl, rfl, rfl, rfl, rfl, trivial⟩
                  · have hx56 := ifF hb66 hx56
                    refine WO_pure tbok 5 [(1, .pointer (some ⟨b1, 0, none⟩)), (2, .pointer (some ⟨b2, 0, none⟩)), (3, .int .i64 0), (5, .slice a6 ((y_2).length) c7), (6, .bool s_4), (7, .int .i64 s_5), (9, .int .i64 s_16), (11, .int .i64 v_19), (14, .int .i64 (w64 ((if (w64 ((Int.tmod s_5 p0_3) - (Int.tmod s_17 p0_3))) < (w64 (0 - (w64 ((Int.tmod s_5 p0_3) - (Int.tmod s_17 p0_3))))) then (w64 (0 - (w64 ((Int.tmod s_5 p0_3) - (Int.tmod s_17 p0_3))))) else (w64 ((Int.tmod s_5 p0_3) - (Int.tmod s_17 p0_3)))) + (if (w64 ((w64 (Int.tdiv s_5 p0_3)) - (w64 (Int.tdiv s_17 p0_3)))) < (w64 (0 - (w64 ((w64 (Int.tdiv s_5 p0_3)) - (w64 (Int.tdiv s_17 p0_3)))))) then (w64 (0 - (w64 ((w64 (Int.tdiv s_5 p0_3)) - (w64 (Int.tdiv s_17 p0_3)))))) else (w64 ((w64 (Int.tdiv s_5 p0_3)) - (w64 (Int.tdiv s_17 p0_3)))))))), (25, .slice a_p0_5 p0_5.length c_p0_5), (26, .int .i64 (p0_5.length : Int)), (27, .int .i64 s_5), (35, .slice a_p0_5 p0_5.length c_p0_5), (36, .int .i64 (p0_5.length : Int)), (37, .int .i64 s_17), (81, .bool (decide ((w64 ((if (w64 ((Int.tmod s_5 p0_3) - (Int.tmod s_17 p0_3))) < (w64 (0 - (w64 ((Int.tmod s_5 p0_3) - (Int.tmod s_17 p0_3))))) then (w64 (0 - (w64 ((Int.tmod s_5 p0_3) - (Int.tmod s_17 p0_3))))) else (w64 ((Int.tmod s_5 p0_3) - (Int.tmod s_17 p0_3)))) + (if (w64 ((w64 (Int.tdiv s_5 p0_3)) - (w64 (Int.tdiv s_17 p0_3)))) < (w64 (0 - (w64 ((w64 (Int.tdiv s_5 p0_3)) - (w64 (Int.tdiv s_17 p0_3)))))) then (w64 (0 - (w64 ((w64 (Int.tdiv s_5 p0_3)) - (w64 (Int.tdiv s_17 p0_3)))))) else (w64 ((w64 (Int.tdiv s_5 p0_3)) - (w64 (Int.tdiv s_17 p0_3))))))) < s_16)))] rfl ⟨rfl, rfl, rfl, rfl, rfl, rfl, rfl, rfl, rfl, rfl, rfl, rfl, rfl, rfl, rfl, rfl, trivial⟩ ?_
                    refine WO_split (d := 81) (b := decide ((w64 ((if (w64 ((Int.tmod s_5 p0_3) - (Int.tmod s_17 p0_3))) < (w64 (0 - (w64 ((Int.tmod s_5 p0_3) - (Int.tmod s_17 p0_3))))) then (w64 (0 - (w64 ((Int.tmod s_5 p0_3) - (Int.tmod s_17 p0_3))))) else (w64 ((Int.tmod s_5 p0_3) - (Int.tmod s_17 p0_3)))) + (if (w64 ((w64 (Int.tdiv s_5 p0_3)) - (w64 (Int.tdiv s_17 p0_3)))) < (w64 (0 - (w64 ((w64 (Int.tdiv s_5 p0_3)) - (w64 (Int.tdiv s_17 p0_3)))))) then (w64 (0 - (w64 ((w64 (Int.tdiv s_5 p0_3)) - (w64 (Int.tdiv s_17 p0_3)))))) else (w64 ((w64 (Int.tdiv s_5 p0_3)) - (w64 (Int.tdiv s_17 p0_3))))))) < s_16)) rfl (fun hb67 => ?_) (fun hb67 => ?_)
                    · have hx56 := ifT hb67 hx56
                      refine WO_pure tbok 12 [(1, .pointer (some ⟨b1, 0, none⟩)), (2, .pointer (some ⟨b2, 0, none⟩)), (3, .int .i64 0), (5, .slice a6 ((y_2).length) c7), (6, .bool s_4), (7, .int .i64 s_5), (9, .int .i64 s_16), (11, .int .i64 v_19), (14, .int .i64 (w64 ((if (w64 ((Int.tmod s_5 p0_3) - (Int.tmod s_17 p0_3))) < (w64 (0 - (w64 ((Int.tmod s_5 p0_3) - (Int.tmod s_17 p0_3))))) then (w64 (0 - (w64 ((Int.tmod s_5 p0_3) - (Int.tmod s_17 p0_3))))) else (w64 ((Int.tmod s_5 p0_3) - (Int.tmod s_17 p0_3)))) + (if (w64 ((w64 (Int.tdiv s_5 p0_3)) - (w64 (Int.tdiv s_17 p0_3)))) < (w64 (0 - (w64 ((w64 (Int.tdiv s_5 p0_3)) - (w64 (Int.tdiv s_17 p0_3)))))) then (w64 (0 - (w64 ((w64 (Int.tdiv s_5 p0_3)) - (w64 (Int.tdiv s_17 p0_3)))))) else (w64 ((w64 (Int.tdiv s_5 p0_3)) - (w64 (Int.tdiv s_17 p0_3)))))))), (25, .slice a_p0_5 p0_5.length c_p0_5), (26, .int .i64 (p0_5.length : Int)), (27, .int .i64 s_5), (35, .slice a_p0_5 p0_5.length c_p0_5), (36, .int .i64 (p0_5.length : Int)), (37, .int .i64 s_17), (93, .bool true)] rfl ⟨rfl, rfl, rfl, rfl, rfl, rfl, rfl, rfl, rfl, rfl, rfl, rfl, rfl, rfl, rfl, rfl, trivial⟩ ?_
                      refine WO_end ?_
                      cases hx56
                      refine WK.sub ?_ (WK.cls (fun _ h => h) hk57)
                      exact ⟨rfl, rfl, rfl, rfl, rfl, rfl, rfl, rfl, rfl, rfl, rfl, rfl, rfl, rfl, rfl, rfl, trivial⟩
                    · have hx56 := ifF hb67 hx56
                      refine WO_pure tbok 4 [(1, .pointer (some ⟨b1, 0, none⟩)), (2, .pointer (some ⟨b2, 0, none⟩)), (3, .int .i64 0), (5, .slice a6 ((y_2).length) c7), (6, .bool s_4), (7, .int .i64 s_5), (9, .int .i64 s_16), (11, .int .i64 v_19), (14, .int .i64 (w64 ((if (w64 ((Int.tmod s_5 p0_3) - (Int.tmod s_17 p0_3))) < (w64 (0 - (w64 ((Int.tmod s_5 p0_3) - (Int.tmod s_17 p0_3))))) then (w64 (0 - (w64 ((Int.tmod s_5 p0_3) - (Int.tmod s_17 p0_3))))) else (w64 ((Int.tmod s_5 p0_3) - (Int.tmod s_17 p0_3)))) + (if (w64 ((w64 (Int.tdiv s_5 p0_3)) - (w64 (Int.tdiv s_17 p0_3)))) < (w64 (0 - (w64 ((w64 (Int.tdiv s_5 p0_3)) - (w64 (Int.tdiv s_17 p0_3)))))) then (w64 (0 - (w64 ((w64 (Int.tdiv s_5 p0_3)) - (w64 (Int.tdiv s_17 p0_3)))))) else (w64 ((w64 (Int.tdiv s_5 p0_3)) - (w64 (Int.tdiv s_17 p0_3)))))))), (25, .slice a_p0_5 p0_5.length c_p0_5), (26, .int .i64 (p0_5.length : Int)), (27, .int .i64 s_5), (35, .slice a_p0_5 p0_5.length c_p0_5), (36, .int .i64 (p0_5.length : Int)), (37, .int .i64 s_17), (81, .bool false), (85, .bool ((w64 ((if (w64 ((Int.tmod s_5 p0_3) - (Int.tmod s_17 p0_3))) < (w64 (0 - (w64 ((Int.tmod s_5 p0_3) - (Int.tmod s_17 p0_3))))) then (w64 (0 - (w64 ((Int.tmod s_5 p0_3) - (Int.tmod s_17 p0_3))))) else (w64 ((Int.tmod s_5 p0_3) - (Int.tmod s_17 p0_3)))) + (if (w64 ((w64 (Int.tdiv s_5 p0_3)) - (w64 (Int.tdiv s_17 p0_3)))) < (w64 (0 - (w64 ((w64 (Int.tdiv s_5 p0_3)) - (w64 (Int.tdiv s_17 p0_3)))))) then (w64 (0 - (w64 ((w64 (Int.tdiv s_5 p0_3)) - (w64 (Int.tdiv s_17 p0_3)))))) else (w64 ((w64 (Int.tdiv s_5 p0_3)) - (w64 (Int.tdiv s_17 p0_3))))))) == s_16))] rfl ⟨rfl, rfl, rfl, rfl, rfl, rfl, rfl, rfl, rfl, rfl, rfl, rfl, rfl, rfl, rfl, rfl, rfl, trivial⟩ ?_
                      refine WO_split (d := 85) (b := (w64 ((if (w64 ((Int.tmod s_5 p0_3) - (Int.tmod s_17 p0_3))) < (w64 (0 - (w64 ((Int.tmod s_5 p0_3) - (Int.tmod s_17 p0_3))))) then (w64 (0 - (w64 ((Int.tmod s_5 p0_3) - (Int.tmod s_17 p0_3))))) else (w64 ((Int.tmod s_5 p0_3) - (Int.tmod s_17 p0_3)))) + (if (w64 ((w64 (Int.tdiv s_5 p0_3)) - (w64 (Int.tdiv s_17 p0_3)))) < (w64 (0 - (w64 ((w64 (Int.tdiv s_5 p0_3)) - (w64 (Int.tdiv s_17 p0_3)))))) then (w64 (0 - (w64 ((w64 (Int.tdiv s_5 p0_3)) - (w64 (Int.tdiv s_17 p0_3)))))) else (w64 ((w64 (Int.tdiv s_5 p0_3)) - (w64 (Int.tdiv s_17 p0_3))))))) == s_16) rfl (fun hb68 => ?_) (fun hb68 => ?_)
                      · have hx56 := ifT hb68 hx56
                        refine WO_pure tbok 3 [(1, .pointer (some ⟨b1, 0, none⟩)), (2, .pointer (some ⟨b2, 0, none⟩)), (3, .int .i64 0), (5, .slice a6 ((y_2).length) c7), (6, .bool s_4), (7, .int .i64 s_5), (9, .int .i64 s_16), (11, .int .i64 v_19), (14, .int .i64 (w64 ((if (w64 ((Int.tmod s_5 p0_3) - (Int.tmod s_17 p0_3))) < (w64 (0 - (w64 ((Int.tmod s_5 p0_3) - (Int.tmod s_17 p0_3))))) then (w64 (0 - (w64 ((Int.tmod s_5 p0_3) - (Int.tmod s_17 p0_3))))) else (w64 ((Int.tmod s_5 p0_3) - (Int.tmod s_17 p0_3)))) + (if (w64 ((w64 (Int.tdiv s_5 p0_3)) - (w64 (Int.tdiv s_17 p0_3)))) < (w64 (0 - (w64 ((w64 (Int.tdiv s_5 p0_3)) - (w64 (Int.tdiv s_17 p0_3)))))) then (w64 (0 - (w64 ((w64 (Int.tdiv s_5 p0_3)) - (w64 (Int.tdiv s_17 p0_3)))))) else (w64 ((w64 (Int.tdiv s_5 p0_3)) - (w64 (Int.tdiv s_17 p0_3)))))))), (25, .slice a_p0_5 p0_5.length c_p0_5), (26, .int .i64 (p0_5.length : Int)), (27, .int .i64 s_5), (35, .slice a_p0_5 p0_5.length c_p0_5), (36, .int .i64 (p0_5.length : Int)), (37, .int .i64 s_17), (81, .bool false), (85, .bool true), (86, .int .i64 v_19), (87, .slice a6 ((y_2).length) c7), (88, .int .i64 s_5)] rfl ⟨rfl, rfl, rfl, rfl, rfl, rfl, rfl, rfl, rfl, rfl, rfl, rfl, rfl, rfl, rfl, rfl, rfl, rfl, rfl, rfl, trivial⟩ ?_
                        obtain ⟨v_24, hy69, hx56⟩ := bind_some hx56
                        obtain ⟨hc70, hy69⟩ := ix_some hy69
                        refine WO_index tbok rfl rfl rfl rfl rfl rfl rfl rfl (OwnE.addr hL37) (by simpa using hc70) ?_
                        refine WO_loadO (E := (I1 .i64)) tbok (fun _ => rfl) 2 rfl rfl rfl rfl (fun _ h => h) hL37 rfl hy69 rfl ?_
                        refine WO_pure tbok 3 [(1, .pointer (some ⟨b1, 0, none⟩)), (2, .pointer (some ⟨b2, 0, none⟩)), (3, .int .i64 0), (5, .slice a6 ((y_2).length) c7), (6, .bool s_4), (7, .int .i64 s_5), (9, .int .i64 s_16), (11, .int .i64 v_19), (14, .int .i64 (w64 ((if (w64 ((Int.tmod s_5 p0_3) - (Int.tmod s_17 p0_3))) < (w64 (0 - (w64 ((Int.tmod s_5 p0_3) - (Int.tmod s_17 p0_3))))) then (w64 (0 - (w64 ((Int.tmod s_5 p0_3) - (Int.tmod s_17 p0_3))))) else (w64 ((Int.tmod s_5 p0_3) - (Int.tmod s_17 p0_3)))) + (if (w64 ((w64 (Int.tdiv s_5 p0_3)) - (w64 (Int.tdiv s_17 p0_3)))) < (w64 (0 - (w64 ((w64 (Int.tdiv s_5 p0_3)) - (w64 (Int.tdiv s_17 p0_3)))))) then (w64 (0 - (w64 ((w64 (Int.tdiv s_5 p0_3)) - (w64 (Int.tdiv s_17 p0_3)))))) else (w64 ((w64 (Int.tdiv s_5 p0_3)) - (w64 (Int.tdiv s_17 p0_3)))))))), (25, .slice a_p0_5 p0_5.length c_p0_5), (26, .int .i64 (p0_5.length : Int)), (27, .int .i64 s_5), (35, .slice a_p0_5 p0_5.length c_p0_5), (36, .int .i64 (p0_5.length : Int)), (37, .int .i64 s_17), (93, .bool (decide (v_19 < v_24)))] rfl ⟨rfl, rfl, rfl, rfl, rfl, rfl, rfl, rfl, rfl, rfl, rfl, rfl, rfl, rfl, rfl, rfl, trivial⟩ ?_
                        refine WO_end ?_
                        cases hx56
                        refine WK.sub ?_ (WK.cls (fun _ h => h) hk57)
                        exact ⟨rfl, rfl, rfl, rfl, rfl, rfl, rfl, rfl, rfl, rfl, rfl, rfl, rfl, rfl, rfl, rfl, trivial⟩
                      · have hx56 := ifF hb68 hx56
                        refine WO_pure tbok 8 [(1, .pointer (some ⟨b1, 0, none⟩)), (2, .pointer (some ⟨b2, 0, none⟩)), (3, .int .i64 0), (5, .slice a6 ((y_2).length) c7), (6, .bool s_4), (7, .int .i64 s_5), (9, .int .i64 s_16), (11, .int .i64 v_19), (14, .int .i64 (w64 ((if (w64 ((Int.tmod s_5 p0_3) - (Int.tmod s_17 p0_3))) < (w64 (0 - (w64 ((Int.tmod s_5 p0_3) - (Int.tmod s_17 p0_3))))) then (w64 (0 - (w64 ((Int.tmod s_5 p0_3) - (Int.tmod s_17 p0_3))))) else (w64 ((Int.tmod s_5 p0_3) - (Int.tmod s_17 p0_3)))) + (if (w64 ((w64 (Int.tdiv s_5 p0_3)) - (w64 (Int.tdiv s_17 p0_3)))) < (w64 (0 - (w64 ((w64 (Int.tdiv s_5 p0_3)) - (w64 (Int.tdiv s_17 p0_3)))))) then (w64 (0 - (w64 ((w64 (Int.tdiv s_5 p0_3)) - (w64 (Int.tdiv s_17 p0_3)))))) else (w64 ((w64 (Int.tdiv s_5 p0_3)) - (w64 (Int.tdiv s_17 p0_3)))))))), (25, .slice a_p0_5 p0_5.length c_p0_5), (26, .int .i64 (p0_5.length : Int)), (27, .int .i64 s_5), (35, .slice a_p0_5 p0_5.length c_p0_5), (36, .int .i64 (p0_5.length : Int)), (37, .int .i64 s_17), (93, .bool false)] rfl ⟨rfl, rfl, rfl, rfl, rfl, rfl, rfl, rfl, rfl, rfl, rfl, rfl, rfl, rfl, rfl, rfl, trivial⟩ ?_
                        refine WO_end ?_
                        cases hx56
                        refine WK.sub ?_ (WK.cls (fun _ h => h) hk57)
                        exact ⟨rfl, rfl, rfl, rfl, rfl, rfl, rfl, rfl, rfl, rfl, rfl, rfl, rfl, rfl, rfl, rfl, trivial⟩
            · have hm42 := ifF hb48 hm42
              refine WK_exit rfl ?_
              cases hm42
              refine WK.sub ?_ (WK.cls (fun _ h => h) (hk41 (l_15, L37) ⟨(hd46 _ rfl), hL37⟩))
              exact ⟨rfl, rfl, rfl, rfl, rfl, rfl, rfl, rfl, trivial⟩
      · have hm15 := ifF hb33 hm15
        refine WK_exit rfl ?_
        cases hm15
        refine WK.sub ?_ (WK.cls (fun _ h => h) (hk14 ((l_3, s_4), L10) ⟨(hd19 _ rfl), hL10⟩))
        exact ⟨rfl, rfl, rfl, rfl, rfl, trivial⟩
end Go.Proofs.Ytcaeieofjchpjaa
